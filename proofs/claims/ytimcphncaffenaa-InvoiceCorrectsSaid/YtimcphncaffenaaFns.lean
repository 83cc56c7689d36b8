/- Printed by gen.py: the Go functions as plain functions, and that the code does what they say. -/
import Derived.Test.YtimcphncaffenaaChecked
import Derived.Test.YtimcphncaffenaaVcYB
import Derived.Test.YtimcphncaffenaaVcZ
import Derived.KernelRfl
import Derived.Test.YtimcphncaffenaaFnsC
import Derived.Test.YtimcphncaffenaaExt
import Derived.Test.YtimcphncaffenaaVcV
import Derived.Test.YtimcphncaffenaaVcQ
namespace Go.Proofs.Ytimcphncaffenaa
open Go Go.Vc
noncomputable def invoice_Correct_L0 (r4 : api_Invoice × Int) (s6 : Int × (List api_Line)) : Option ((((List api_Line))) ⊕ (Int × (List api_Line))) :=
  (if (decide (s6.1 < (r4.1.fLines.length : Int))) = true then
  (idx r4.1.fLines s6.1).bind fun x15 =>
  (invoice_sums_add_2 s6.2 x15 (1 : Int)).bind fun r16 =>
  some (.inr ((w64 (s6.1 + (1 : Int))), r16.flines))
  else
  some (.inl s6.2))
noncomputable def invoice_Correct_L1 (r1 : api_Invoice × Int) (s19 : Int × (List api_Line)) : Option ((((List api_Line))) ⊕ (Int × (List api_Line))) :=
  (if (decide (s19.1 < (r1.1.fLines.length : Int))) = true then
  (idx r1.1.fLines s19.1).bind fun x28 =>
  (invoice_sums_add_2 s19.2 x28 (-1 : Int)).bind fun r29 =>
  some (.inr ((w64 (s19.1 + (1 : Int))), r29.flines))
  else
  some (.inl s19.2))
noncomputable def invoice_Correct (a0 : (List api_Invoice)) (a1 : api_Member) (a2 : api_Tariff) (a3 : (List api_Series)) : Option (api_Invoice × Int) :=
  (invoice_Sum a0).bind fun r1 =>
  (if (r1.2 != (0 : Int)) = true then
  some ((api_Invoice.mk (0 : Int) (0 : Int) (0 : Int) ([] : List api_Line) (0 : Int)), r1.2)
  else
  (if (a1.fASN != r1.1.fMember) = true then
  some ((api_Invoice.mk (0 : Int) (0 : Int) (0 : Int) ([] : List api_Line) (0 : Int)), (32 : Int))
  else
  (invoice_Make a1 r1.1.fMonth a2 a3).bind fun r4 =>
  (if (r4.2 != (0 : Int)) = true then
  some ((api_Invoice.mk (0 : Int) (0 : Int) (0 : Int) ([] : List api_Line) (0 : Int)), r4.2)
  else
  (loop (invoice_Correct_L0 r4) ((0 : Int), ([] : List api_Line))).bind fun p13 =>
  (loop (invoice_Correct_L1 r1) ((0 : Int), p13)).bind fun p26 =>
  (slices_DeleteFunc p26).bind fun r32 =>
  (if ((r32.length : Int) == (0 : Int)) = true then
  some ((api_Invoice.mk (0 : Int) (0 : Int) (0 : Int) ([] : List api_Line) (0 : Int)), (7 : Int))
  else
  (invoice_sums_invoice_2 r32 r1.1.fMember r1.1.fMonth (w64 (r1.1.fVersion + (1 : Int)))).bind fun r34 =>
  (invoice_consistent r34.1).bind fun r35 =>
  (if (!r35) = true then
  some ((api_Invoice.mk (0 : Int) (0 : Int) (0 : Int) ([] : List api_Line) (0 : Int)), (3 : Int))
  else
  some (r34.1, (0 : Int)))))))
set_option maxHeartbeats 4000000 in
set_option maxRecDepth 100000 in
theorem invoice_Correct_ac (a0 : (List api_Invoice)) (a1 : api_Member) (a2 : api_Tariff) (a3 : (List api_Series)) (r : api_Invoice × Int) (h : invoice_Correct a0 a1 a2 a3 = some r) : AC Try.prog 21 [(.d (.list 5 (a0.map e_api_Invoice))), (.d (e_api_Member a1)), (.d (e_api_Tariff a2)), (.d (.list 4 (a3.map e_api_Series)))] [] (.tup [(.d (e_api_Invoice r.1)), (.d (.int .i64 r.2))]) [] := by
  refine AC.of_code2 Try.func21 rfl rfl (Nat.le_of_ble_eq_true (by rfl)) fun B hB hN => ?_
  have L {d : Nat} (h : Nat.blt d Try.f21.ntmps = true) : d < B.N := ltN hN h
  delta invoice_Correct at h
  refine sr (cg (OpJ.box hB (nm := 1005) (by decide) (by simp) rfl (L rfl) (q 1)) rfl (cg (OpJ.box hB (nm := 1006) (by decide) (by simp) rfl (L rfl) (q 2)) rfl (cg (OpJ.alloc hB tyZ45 (nm := 1008) (by decide) (L rfl)) rfl (c (OpJ.assign (L rfl) (Opd.int .i64 (0))) rfl cn)))) ?_
  refine gh [(0, _), (3, _), (5, _), (6, _), (8, _)] [(1005, some _), (1006, some _), (1008, some _)] hB rfl rfl (by rfl) ?_
  obtain ⟨r1, hr1, h⟩ := bindS h
  refine sr (c (mv hN (q 0)) rfl (cg (OpJ.callFn hB fnOk19 (invoice_Sum_ac a0 r1 hr1) [] (by kernel_rfl) (L rfl) (by kernel_rfl) (OpdL.cons (q 20) OpdL.nil)) rfl (c (mv hN (q 21)) rfl (c (OpJ.extract (by rfl) rfl (L rfl) (q 19)) rfl (c (OpJ.extract (by rfl) rfl (L rfl) (q 19)) rfl (cg (OpJ.alloc hB tyZ45 (nm := 1010) (by decide) (L rfl)) rfl (cg (OpJ.storeB tyS45 (SetAt.here _ _) (by rfl) (by rfl) (by simp) rfl (q 10) (q 22)) rfl (c (OpJ.assign (L rfl) (q 23)) rfl cn)))))))) ?_
  refine gh [(3, _), (5, _), (6, _), (8, _), (10, _), (11, _)] [(1005, some _), (1006, some _), (1008, some _), (1010, some _)] hB rfl rfl (by rfl) ?_
  refine AWp.seq ?_
  refine sr (c (mv hN (q 11)) rfl (c (OpJ.neqI (L rfl) (q 24) (Opd.int .i64 (0))) rfl cn)) ?_
  refine gh [(3, _), (5, _), (6, _), (8, _), (10, _), (11, _), (25, _)] [(1005, some _), (1006, some _), (1008, some _), (1010, some _)] hB rfl rfl (by rfl) ?_
  refine AWp.cond rfl (fun hg2 => ?_) (fun hg2 => ?_)
  · replace h := ite_t hg2 h
    refine sr (c (OpJ.build (places := [(0, 1), (1, 1), (2, 1), (3, 1), (4, 1)]) ⟨Try.underlying45, fun w => by kernel_rfl⟩ tyZS45 Opds.nil (by kernel_rfl) (r := (.st [(i6 0), (i6 0), (i6 0), .nils, (i6 0)])) (by rfl) (L rfl)) rfl (c (mv hN (q 11)) rfl (cg (OpJ.storeB tyS45 (SetAt.here _ _) (by rfl) (by rfl) (by simp) rfl (q 8) (q 26)) rfl (c (OpJ.assign (L rfl) (q 27)) rfl cn)))) ?_
    refine gh [(8, _), (9, _)] [(1008, some _)] hB rfl rfl (by rfl) ?_
    refine AWp.ret ?_
    refine seqQ_r ?_
    obtain rfl := Option.some.inj h
    exact ⟨.inl rfl, _, _, (Mat.trans (Mat.coeP (Ts := []) (Bs := [(1008, some (.box 45 (.d (.st [(.int .i64 0), (.int .i64 0), (.int .i64 0), (.list 3 (([] : List api_Line).map e_api_Line)), (.int .i64 0)]))))]) TwT.nil (TwB.cons (x := (.st [(i6 0), (i6 0), (i6 0), .nils, (i6 0)])) (by rfl) (Tw.leaf ⟨_, (Co.st (CoL.cons (Co.d _) (CoL.cons (Co.d _) (CoL.cons (Co.d _) (CoL.cons (Co.nils 3) (CoL.cons (Co.d _) CoL.nil)))))), rfl⟩) TwB.nil)) (mp [] [(8, (.ptr 1008 0 [])), (9, (i6 r1.2))] [(1008, some (.box 45 (.d (.st [(.int .i64 0), (.int .i64 0), (.int .i64 0), (.list 3 (([] : List api_Line).map e_api_Line)), (.int .i64 0)]))))] hB)), [(.d (.st [(.int .i64 0), (.int .i64 0), (.int .i64 0), (.list 3 (([] : List api_Line).map e_api_Line)), (.int .i64 0)])), (i6 r1.2)], (Res.cell (c := (.d (.st [(.int .i64 0), (.int .i64 0), (.int .i64 0), (.list 3 (([] : List api_Line).map e_api_Line)), (.int .i64 0)]))) (by rfl) (by rfl) tyS45 (by rfl) (by rfl) (by rfl) (Res.tmp (by rfl) (by rfl) Res.nil)), rfl, by rfl, by rfl, by rfl⟩
  · replace h := ite_f hg2 h
    refine AWp.skip ?_
    refine seqQ_n ?_
    refine AWp.seq ?_
    refine sr (c (ov (.ptr 1005 0 [0]) (fp hN Try.underlying24 0 tyS3 _ (q 5))) rfl (c (lb hN 24 _ _ tyS3 (ad _) (q 28)) rfl (c (ov (.ptr 1010 0 [0]) (fp hN Try.underlying45 0 tyS3 _ (q 10))) rfl (c (lb hN 45 _ _ tyS3 (ad _) (q 30)) rfl (c (OpJ.neqI (L rfl) (q 29) (q 31)) rfl cn))))) ?_
    refine gh [(3, _), (5, _), (6, _), (8, _), (10, _), (32, _)] [(1005, some _), (1006, some _), (1008, some _), (1010, some _)] hB rfl rfl (by rfl) ?_
    refine AWp.cond rfl (fun hg3 => ?_) (fun hg3 => ?_)
    · replace h := ite_t hg3 h
      refine sr (c (OpJ.build (places := [(0, 1), (1, 1), (2, 1), (3, 1), (4, 1)]) ⟨Try.underlying45, fun w => by kernel_rfl⟩ tyZS45 Opds.nil (by kernel_rfl) (r := (.st [(i6 0), (i6 0), (i6 0), .nils, (i6 0)])) (by rfl) (L rfl)) rfl (cg (OpJ.storeB tyS45 (SetAt.here _ _) (by rfl) (by rfl) (by simp) rfl (q 8) (q 33)) rfl (c (OpJ.assign (L rfl) (Opd.int .i64 (32))) rfl cn))) ?_
      refine gh [(8, _), (9, _)] [(1008, some _)] hB rfl rfl (by rfl) ?_
      refine AWp.ret ?_
      refine seqQ_r ?_
      obtain rfl := Option.some.inj h
      exact ⟨.inl rfl, _, _, (Mat.trans (Mat.coeP (Ts := []) (Bs := [(1008, some (.box 45 (.d (.st [(.int .i64 0), (.int .i64 0), (.int .i64 0), (.list 3 (([] : List api_Line).map e_api_Line)), (.int .i64 0)]))))]) TwT.nil (TwB.cons (x := (.st [(i6 0), (i6 0), (i6 0), .nils, (i6 0)])) (by rfl) (Tw.leaf ⟨_, (Co.st (CoL.cons (Co.d _) (CoL.cons (Co.d _) (CoL.cons (Co.d _) (CoL.cons (Co.nils 3) (CoL.cons (Co.d _) CoL.nil)))))), rfl⟩) TwB.nil)) (mp [] [(8, (.ptr 1008 0 [])), (9, (i6 (32 : Int)))] [(1008, some (.box 45 (.d (.st [(.int .i64 0), (.int .i64 0), (.int .i64 0), (.list 3 (([] : List api_Line).map e_api_Line)), (.int .i64 0)]))))] hB)), [(.d (.st [(.int .i64 0), (.int .i64 0), (.int .i64 0), (.list 3 (([] : List api_Line).map e_api_Line)), (.int .i64 0)])), (i6 (32 : Int))], (Res.cell (c := (.d (.st [(.int .i64 0), (.int .i64 0), (.int .i64 0), (.list 3 (([] : List api_Line).map e_api_Line)), (.int .i64 0)]))) (by rfl) (by rfl) tyS45 (by rfl) (by rfl) (by rfl) (Res.tmp (by rfl) (by rfl) Res.nil)), rfl, by rfl, by rfl, by rfl⟩
    · replace h := ite_f hg3 h
      refine AWp.skip ?_
      refine seqQ_n ?_
      obtain ⟨r4, hr4, h⟩ := bindS h
      refine sr (c (lb hN 24 _ _ tyS24 (At.here _) (q 5)) rfl (c (ov (.ptr 1010 1 [1]) (fp hN Try.underlying45 1 tyS3 _ (q 10))) rfl (c (lb hN 45 _ _ tyS3 (ad _) (q 36)) rfl (c (lb hN 27 _ _ tyS27 (At.here _) (q 6)) rfl (c (mv hN (q 3)) rfl (cg (OpJ.callFn hB fnOk13 (invoice_Make_ac a1 r1.1.fMonth a2 a3 r4 hr4) [] (by kernel_rfl) (L rfl) (by kernel_rfl) (OpdL.cons (q 35) (OpdL.cons (q 37) (OpdL.cons (q 38) (OpdL.cons (q 39) OpdL.nil))))) rfl (c (mv hN (q 40)) rfl (c (OpJ.extract (by rfl) rfl (L rfl) (q 34)) rfl (c (OpJ.extract (by rfl) rfl (L rfl) (q 34)) rfl (cg (OpJ.alloc hB tyZ45 (nm := 1012) (by decide) (L rfl)) rfl (cg (OpJ.storeB tyS45 (SetAt.here _ _) (by rfl) (by rfl) (by simp) rfl (q 12) (q 41)) rfl (c (OpJ.assign (L rfl) (q 42)) rfl cn)))))))))))) ?_
      refine gh [(8, _), (10, _), (11, _), (12, _)] [(1008, some _), (1010, some _), (1012, some _)] hB rfl rfl (by rfl) ?_
      refine AWp.seq ?_
      refine sr (c (mv hN (q 11)) rfl (c (OpJ.neqI (L rfl) (q 43) (Opd.int .i64 (0))) rfl cn)) ?_
      refine gh [(8, _), (10, _), (11, _), (12, _), (44, _)] [(1008, some _), (1010, some _), (1012, some _)] hB rfl rfl (by rfl) ?_
      refine AWp.cond rfl (fun hg5 => ?_) (fun hg5 => ?_)
      · replace h := ite_t hg5 h
        refine sr (c (OpJ.build (places := [(0, 1), (1, 1), (2, 1), (3, 1), (4, 1)]) ⟨Try.underlying45, fun w => by kernel_rfl⟩ tyZS45 Opds.nil (by kernel_rfl) (r := (.st [(i6 0), (i6 0), (i6 0), .nils, (i6 0)])) (by rfl) (L rfl)) rfl (c (mv hN (q 11)) rfl (cg (OpJ.storeB tyS45 (SetAt.here _ _) (by rfl) (by rfl) (by simp) rfl (q 8) (q 45)) rfl (c (OpJ.assign (L rfl) (q 46)) rfl cn)))) ?_
        refine gh [(8, _), (9, _)] [(1008, some _)] hB rfl rfl (by rfl) ?_
        refine AWp.ret ?_
        refine seqQ_r ?_
        obtain rfl := Option.some.inj h
        exact ⟨.inl rfl, _, _, (Mat.trans (Mat.coeP (Ts := []) (Bs := [(1008, some (.box 45 (.d (.st [(.int .i64 0), (.int .i64 0), (.int .i64 0), (.list 3 (([] : List api_Line).map e_api_Line)), (.int .i64 0)]))))]) TwT.nil (TwB.cons (x := (.st [(i6 0), (i6 0), (i6 0), .nils, (i6 0)])) (by rfl) (Tw.leaf ⟨_, (Co.st (CoL.cons (Co.d _) (CoL.cons (Co.d _) (CoL.cons (Co.d _) (CoL.cons (Co.nils 3) (CoL.cons (Co.d _) CoL.nil)))))), rfl⟩) TwB.nil)) (mp [] [(8, (.ptr 1008 0 [])), (9, (i6 r4.2))] [(1008, some (.box 45 (.d (.st [(.int .i64 0), (.int .i64 0), (.int .i64 0), (.list 3 (([] : List api_Line).map e_api_Line)), (.int .i64 0)]))))] hB)), [(.d (.st [(.int .i64 0), (.int .i64 0), (.int .i64 0), (.list 3 (([] : List api_Line).map e_api_Line)), (.int .i64 0)])), (i6 r4.2)], (Res.cell (c := (.d (.st [(.int .i64 0), (.int .i64 0), (.int .i64 0), (.list 3 (([] : List api_Line).map e_api_Line)), (.int .i64 0)]))) (by rfl) (by rfl) tyS45 (by rfl) (by rfl) (by rfl) (Res.tmp (by rfl) (by rfl) Res.nil)), rfl, by rfl, by rfl, by rfl⟩
      · replace h := ite_f hg5 h
        refine AWp.skip ?_
        refine seqQ_n ?_
        refine sr (cg (OpJ.alloc hB tyZ78 (nm := 1013) (by decide) (L rfl)) rfl cn) ?_
        refine gh [(8, _), (10, _), (12, _), (13, _)] [(1008, some _), (1010, some _), (1012, some _), (1013, some _)] hB rfl rfl (by rfl) ?_
        refine AWp.seq ?_
        refine sr (c (ov (.ptr 1012 3 [3]) (fp hN Try.underlying45 3 tyS43 _ (q 12))) rfl (c (lb hN 45 _ _ tyS43 (ad _) (q 47)) rfl (c (OpJ.val (v' := (i6 (r4.1.fLines.length : Int))) (by simp) (OpJ.lenD Try.underlying43 (L rfl) (q 48))) rfl (c (mv hN (Opd.int .i64 (0))) rfl cn)))) ?_
        refine gh [(8, _), (10, _), (13, _), (48, _), (49, _), (50, _)] [(1008, some _), (1010, some _), (1013, some _)] hB rfl rfl (by rfl) ?_
        refine AWp.block ?_
        obtain ⟨p13, hx18, h⟩ := bindS h
        refine lg (invoice_Correct_L0 r4) (fun s6 : Int × (List api_Line) => ([(8, (.ptr 1008 0 [])), (10, (.ptr 1010 0 [])), (13, (.ptr 1013 0 [])), (48, (qe_api_Line_3 r4.1.fLines)), (49, (i6 (r4.1.fLines.length : Int))), (50, (i6 s6.1))] : EL)) (fun s6 : Int × (List api_Line) => ([(1008, some (.box 45 (.st [(i6 0), (i6 0), (i6 0), .nils, (i6 0)]))), (1010, some (.box 45 (.d (e_api_Invoice r1.1)))), (1013, some (.box 78 (.st [(.sref 13130 3 0 s6.2.length)]))), (13130, some (we_api_Line_51_3 s6.2))] : OL)) (fun (p13 : ((List api_Line))) e E' O' => e = .exit 0 ∧ Mat B E' O' ([(8, (.ptr 1008 0 [])), (10, (.ptr 1010 0 [])), (13, (.ptr 1013 0 []))] : EL) ([(1008, some (.box 45 (.st [(i6 0), (i6 0), (i6 0), .nils, (i6 0)]))), (1010, some (.box 45 (.d (e_api_Invoice r1.1)))), (1013, some (.box 78 (.st [(.sref 13130 3 0 p13.length)]))), (13130, some (we_api_Line_51_3 p13))] : OL)) hx18 (Mat.trans (Mat.beginP (n := 13130) (e := 51) (sz := 3) (Ts := []) (Bs := [(1013, some (.box 78 (.st [(.sref 13130 3 0 0)])))]) hB (by decide) (by rfl) (by decide) TwT.nil (TwB.cons (x := (.st [.nils])) (by rfl) (Tw.st (TwL.cons (Tw.leaf ⟨rfl, rfl⟩) TwL.nil)) TwB.nil)) (mp [] _ _ hB)) (fun s6 y h => ?_) (fun e E' O' hR => ?_)
        · unfold invoice_Correct_L0 at h
          refine sr (c (OpJ.lss (L rfl) (q 50) (q 49)) rfl cn) ?_
          refine gh [(8, _), (10, _), (13, _), (48, _), (49, _), (50, _), (51, _)] [(1008, some _), (1010, some _), (1013, some _), (13130, some _)] hB rfl rfl (by rfl) ?_
          refine AWp.seq ?_
          refine AWp.cond rfl (fun hg14 => ?_) (fun hg14 => ?_)
          · replace h := ite_t hg14 h
            refine AWp.skip ?_
            refine seqQ_n ?_
            refine AWp.seq ?_
            refine AWp.block ?_
            obtain ⟨x15, hx15, h⟩ := bindS h
            refine sr (c (OpJ.indexD Try.underlying43 tyS51 (idx_some hx15).1 (get_map e_api_Line (idx_some hx15).2) (L rfl) (q 48) (q 50)) rfl (c (OpJ.loadD tyS51 (by rfl) (by rfl) (L rfl) (q 52)) rfl (cg (OpJ.alloc hB tyZ51 (nm := 1015) (by decide) (L rfl)) rfl (cg (OpJ.storeB tyS51 (SetAt.here _ _) (by rfl) (by rfl) (by simp) rfl (q 15) (q 53)) rfl cn)))) ?_
            refine gh [(8, _), (10, _), (13, _), (15, _), (48, _), (49, _), (50, _)] [(1008, some _), (1010, some _), (1013, some _), (1015, some _), (13130, some _)] hB rfl rfl (by rfl) ?_
            obtain ⟨r16, hr16, h⟩ := bindS h
            refine AWp.region (oc (lb hN 51 (.d (e_api_Line x15)) (.d (e_api_Line x15)) tyS51 (At.here _) (ot 15 (.ptr 1015 0 [])))
              (oc (OpJ.callFn hB fnOk34 (invoice_sums_add_2_ac s6.2 x15 (1 : Int) r16 hr16) [(0, 1013), (1, 13130), (950000, 100200)] (by kernel_rfl) (L rfl) (by kernel_rfl) (OpdL.cons (ot 13 (.ptr 1013 0 [])) (OpdL.cons (ot 54 (.d (e_api_Line x15))) (OpdL.cons (Opd.int .i64 (1)) OpdL.nil))))
              (OpJs.nil))) (by rfl) (by rfl) ?_
            refine blkQ_n ?_
            refine seqQ_n ?_
            refine AWp.ghost (mp [] [(8, (.ptr 1008 0 [])), (10, (.ptr 1010 0 [])), (13, (.ptr 1013 0 [])), (48, (qe_api_Line_3 r4.1.fLines)), (49, (i6 (r4.1.fLines.length : Int))), (50, (i6 s6.1))] [(1008, some (.box 45 (.st [(i6 0), (i6 0), (i6 0), .nils, (i6 0)]))), (1010, some (.box 45 (.d (e_api_Invoice r1.1)))), (1013, some (.box 78 (.st [(.sref 100200 3 0 r16.flines.length)]))), (100200, some (we_api_Line_51_3 r16.flines))] hB) ?_
            refine rg (c (add6 (L rfl) (q 50) (Opd.int .i64 (1))) rfl (c (mv hN (q 56)) rfl cn)) ?_
            obtain rfl := Option.some.inj h
            exact ⟨rfl, (Mat.trans (mp [] [(8, (.ptr 1008 0 [])), (10, (.ptr 1010 0 [])), (13, (.ptr 1013 0 [])), (48, (qe_api_Line_3 r4.1.fLines)), (49, (i6 (r4.1.fLines.length : Int))), (50, (i6 (w64 (s6.1 + (1 : Int)))))] [(1008, some (.box 45 (.st [(i6 0), (i6 0), (i6 0), .nils, (i6 0)]))), (1010, some (.box 45 (.d (e_api_Invoice r1.1)))), (1013, some (.box 78 (.st [(.sref 100200 3 0 r16.flines.length)]))), (100200, some (we_api_Line_51_3 r16.flines))] hB) (mp [(13130, 100200)] _ _ hB))⟩
          · replace h := ite_f hg14 h
            refine AWp.exit ?_
            refine seqQ_e ?_
            obtain rfl := Option.some.inj h
            exact ⟨(fun hc => by cases hc), rfl, (mp [] _ _ hB)⟩
        · obtain ⟨rfl, hmat⟩ := hR
          refine blkQ_hit ?_
          refine seqQ_n ?_
          refine AWp.ghost hmat ?_
          refine AWp.seq ?_
          refine sr (c (ov (.ptr 1010 3 [3]) (fp hN Try.underlying45 3 tyS43 _ (q 10))) rfl (c (lb hN 45 _ _ tyS43 (ad _) (q 57)) rfl (c (OpJ.val (v' := (i6 (r1.1.fLines.length : Int))) (by simp) (OpJ.lenD Try.underlying43 (L rfl) (q 58))) rfl (c (mv hN (Opd.int .i64 (0))) rfl cn)))) ?_
          refine gh [(8, _), (10, _), (13, _), (58, _), (59, _), (60, _)] [(1008, some _), (1010, some _), (1013, some _), (13130, some _)] hB rfl rfl (by rfl) ?_
          refine AWp.block ?_
          obtain ⟨p26, hx31, h⟩ := bindS h
          refine lg (invoice_Correct_L1 r1) (fun s19 : Int × (List api_Line) => ([(8, (.ptr 1008 0 [])), (10, (.ptr 1010 0 [])), (13, (.ptr 1013 0 [])), (58, (qe_api_Line_3 r1.1.fLines)), (59, (i6 (r1.1.fLines.length : Int))), (60, (i6 s19.1))] : EL)) (fun s19 : Int × (List api_Line) => ([(1008, some (.box 45 (.st [(i6 0), (i6 0), (i6 0), .nils, (i6 0)]))), (1010, some (.box 45 (.d (e_api_Invoice r1.1)))), (1013, some (.box 78 (.st [(.sref 13130 3 0 s19.2.length)]))), (13130, some (we_api_Line_51_3 s19.2))] : OL)) (fun (p26 : ((List api_Line))) e E' O' => e = .exit 2 ∧ Mat B E' O' ([(8, (.ptr 1008 0 [])), (10, (.ptr 1010 0 [])), (13, (.ptr 1013 0 []))] : EL) ([(1008, some (.box 45 (.st [(i6 0), (i6 0), (i6 0), .nils, (i6 0)]))), (1010, some (.box 45 (.d (e_api_Invoice r1.1)))), (1013, some (.box 78 (.st [(.sref 13130 3 0 p26.length)]))), (13130, some (we_api_Line_51_3 p26))] : OL)) hx31 (mp [] _ _ hB) (fun s19 y h => ?_) (fun e E' O' hR => ?_)
          · unfold invoice_Correct_L1 at h
            refine sr (c (OpJ.lss (L rfl) (q 60) (q 59)) rfl cn) ?_
            refine gh [(8, _), (10, _), (13, _), (58, _), (59, _), (60, _), (61, _)] [(1008, some _), (1010, some _), (1013, some _), (13130, some _)] hB rfl rfl (by rfl) ?_
            refine AWp.seq ?_
            refine AWp.cond rfl (fun hg27 => ?_) (fun hg27 => ?_)
            · replace h := ite_t hg27 h
              refine AWp.skip ?_
              refine seqQ_n ?_
              refine AWp.seq ?_
              refine AWp.block ?_
              obtain ⟨x28, hx28, h⟩ := bindS h
              refine sr (c (OpJ.indexD Try.underlying43 tyS51 (idx_some hx28).1 (get_map e_api_Line (idx_some hx28).2) (L rfl) (q 58) (q 60)) rfl (c (OpJ.loadD tyS51 (by rfl) (by rfl) (L rfl) (q 62)) rfl (cg (OpJ.alloc hB tyZ51 (nm := 1017) (by decide) (L rfl)) rfl (cg (OpJ.storeB tyS51 (SetAt.here _ _) (by rfl) (by rfl) (by simp) rfl (q 17) (q 63)) rfl cn)))) ?_
              refine gh [(8, _), (10, _), (13, _), (17, _), (58, _), (59, _), (60, _)] [(1008, some _), (1010, some _), (1013, some _), (1017, some _), (13130, some _)] hB rfl rfl (by rfl) ?_
              obtain ⟨r29, hr29, h⟩ := bindS h
              refine AWp.region (oc (lb hN 51 (.d (e_api_Line x28)) (.d (e_api_Line x28)) tyS51 (At.here _) (ot 17 (.ptr 1017 0 [])))
                (oc (OpJ.callFn hB fnOk34 (invoice_sums_add_2_ac s19.2 x28 (-1 : Int) r29 hr29) [(0, 1013), (1, 13130), (950000, 100300)] (by kernel_rfl) (L rfl) (by kernel_rfl) (OpdL.cons (ot 13 (.ptr 1013 0 [])) (OpdL.cons (ot 64 (.d (e_api_Line x28))) (OpdL.cons (Opd.int .i64 (-1)) OpdL.nil))))
                (OpJs.nil))) (by rfl) (by rfl) ?_
              refine blkQ_n ?_
              refine seqQ_n ?_
              refine AWp.ghost (mp [] [(8, (.ptr 1008 0 [])), (10, (.ptr 1010 0 [])), (13, (.ptr 1013 0 [])), (58, (qe_api_Line_3 r1.1.fLines)), (59, (i6 (r1.1.fLines.length : Int))), (60, (i6 s19.1))] [(1008, some (.box 45 (.st [(i6 0), (i6 0), (i6 0), .nils, (i6 0)]))), (1010, some (.box 45 (.d (e_api_Invoice r1.1)))), (1013, some (.box 78 (.st [(.sref 100300 3 0 r29.flines.length)]))), (100300, some (we_api_Line_51_3 r29.flines))] hB) ?_
              refine rg (c (add6 (L rfl) (q 60) (Opd.int .i64 (1))) rfl (c (mv hN (q 66)) rfl cn)) ?_
              obtain rfl := Option.some.inj h
              exact ⟨rfl, (Mat.trans (mp [] [(8, (.ptr 1008 0 [])), (10, (.ptr 1010 0 [])), (13, (.ptr 1013 0 [])), (58, (qe_api_Line_3 r1.1.fLines)), (59, (i6 (r1.1.fLines.length : Int))), (60, (i6 (w64 (s19.1 + (1 : Int)))))] [(1008, some (.box 45 (.st [(i6 0), (i6 0), (i6 0), .nils, (i6 0)]))), (1010, some (.box 45 (.d (e_api_Invoice r1.1)))), (1013, some (.box 78 (.st [(.sref 100300 3 0 r29.flines.length)]))), (100300, some (we_api_Line_51_3 r29.flines))] hB) (mp [(13130, 100300)] _ _ hB))⟩
            · replace h := ite_f hg27 h
              refine AWp.exit ?_
              refine seqQ_e ?_
              obtain rfl := Option.some.inj h
              exact ⟨(fun hc => by cases hc), rfl, (mp [] _ _ hB)⟩
          · obtain ⟨rfl, hmat⟩ := hR
            refine blkQ_hit ?_
            refine seqQ_n ?_
            refine AWp.ghost hmat ?_
            refine AWp.seq ?_
            obtain ⟨r32, hr32, h⟩ := bindS h
            refine AWp.region (oc (ov (.ptr 1013 0 [0]) (fp hN Try.underlying78 0 tyS43 (.box 78 (.st [(.sref 13130 3 0 p26.length)])) (ot 13 (.ptr 1013 0 []))))
              (oc (lb hN 78 (.st [(.sref 13130 3 0 p26.length)]) (.sref 13130 3 0 p26.length) tyS43 (At.st1 (f := (.sref 13130 3 0 p26.length)) (by rfl) (by rfl) (At.here _) (by first | rfl | omega)) (ot 67 (.ptr 1013 0 [0])))
              (oc (OpJ.callFn hB fnOk42 (slices_DeleteFunc_ac p26 r32 hr32) [(0, 13130)] (by kernel_rfl) (L rfl) (by kernel_rfl) (OpdL.cons (ot 68 (.sref 13130 3 0 p26.length)) (OpdL.cons (Opd.func 43) OpdL.nil)))
              (oc (ov (.ptr 1013 0 [0]) (fp hN Try.underlying78 0 tyS43 (.box 78 (.st [(.sref 13130 3 0 p26.length)])) (ot 13 (.ptr 1013 0 []))))
              (oc (OpJ.storeB (bt := 78) (c := (.st [(.sref 13130 3 0 p26.length)])) (v := (qe_api_Line_3 r32)) (c' := (.st [(qe_api_Line_3 r32)])) tyS43 (SetAt.st1 (f := (.sref 13130 3 0 p26.length)) (by rfl) (by rfl) (SetAt.here _ _) (by rfl) (by rfl) (by first | rfl | omega)) (by rfl) (by rfl) (by simp) rfl (ot 70 (.ptr 1013 0 [0])) (ot 69 (qe_api_Line_3 r32)))
              (OpJs.nil)))))) (by rfl) (by rfl) ?_
            refine seqQ_n ?_
            refine AWp.ghost (mp [] [(8, (.ptr 1008 0 [])), (10, (.ptr 1010 0 [])), (13, (.ptr 1013 0 []))] [(1008, some (.box 45 (.st [(i6 0), (i6 0), (i6 0), .nils, (i6 0)]))), (1010, some (.box 45 (.d (e_api_Invoice r1.1)))), (1013, some (.box 78 (.st [(qe_api_Line_3 r32)])))] hB) ?_
            refine AWp.seq ?_
            refine sr (c (ov (.ptr 1013 0 [0]) (fp hN Try.underlying78 0 tyS43 _ (q 13))) rfl (c (lb hN 78 _ (qe_api_Line_3 r32) tyS43 (At.st1 (f := (qe_api_Line_3 r32)) (by rfl) (by rfl) (At.here _) (by first | rfl | omega)) (q 71)) rfl (c (OpJ.val (v' := (i6 (r32.length : Int))) (by simp) (OpJ.lenD Try.underlying43 (L rfl) (q 72))) rfl (c (OpJ.eqlI (L rfl) (q 73) (Opd.int .i64 (0))) rfl cn)))) ?_
            refine gh [(8, _), (10, _), (13, _), (74, _)] [(1008, some _), (1010, some _), (1013, some _)] hB rfl rfl (by rfl) ?_
            refine AWp.cond rfl (fun hg33 => ?_) (fun hg33 => ?_)
            · replace h := ite_t hg33 h
              refine sr (c (OpJ.build (places := [(0, 1), (1, 1), (2, 1), (3, 1), (4, 1)]) ⟨Try.underlying45, fun w => by kernel_rfl⟩ tyZS45 Opds.nil (by kernel_rfl) (r := (.st [(i6 0), (i6 0), (i6 0), .nils, (i6 0)])) (by rfl) (L rfl)) rfl (cg (OpJ.storeB tyS45 (SetAt.here _ _) (by rfl) (by rfl) (by simp) rfl (q 8) (q 75)) rfl (c (OpJ.assign (L rfl) (Opd.int .i64 (7))) rfl cn))) ?_
              refine gh [(8, _), (9, _)] [(1008, some _)] hB rfl rfl (by rfl) ?_
              refine AWp.ret ?_
              refine seqQ_r ?_
              obtain rfl := Option.some.inj h
              exact ⟨.inl rfl, _, _, (Mat.trans (Mat.coeP (Ts := []) (Bs := [(1008, some (.box 45 (.d (.st [(.int .i64 0), (.int .i64 0), (.int .i64 0), (.list 3 (([] : List api_Line).map e_api_Line)), (.int .i64 0)]))))]) TwT.nil (TwB.cons (x := (.st [(i6 0), (i6 0), (i6 0), .nils, (i6 0)])) (by rfl) (Tw.leaf ⟨_, (Co.st (CoL.cons (Co.d _) (CoL.cons (Co.d _) (CoL.cons (Co.d _) (CoL.cons (Co.nils 3) (CoL.cons (Co.d _) CoL.nil)))))), rfl⟩) TwB.nil)) (mp [] [(8, (.ptr 1008 0 [])), (9, (i6 (7 : Int)))] [(1008, some (.box 45 (.d (.st [(.int .i64 0), (.int .i64 0), (.int .i64 0), (.list 3 (([] : List api_Line).map e_api_Line)), (.int .i64 0)]))))] hB)), [(.d (.st [(.int .i64 0), (.int .i64 0), (.int .i64 0), (.list 3 (([] : List api_Line).map e_api_Line)), (.int .i64 0)])), (i6 (7 : Int))], (Res.cell (c := (.d (.st [(.int .i64 0), (.int .i64 0), (.int .i64 0), (.list 3 (([] : List api_Line).map e_api_Line)), (.int .i64 0)]))) (by rfl) (by rfl) tyS45 (by rfl) (by rfl) (by rfl) (Res.tmp (by rfl) (by rfl) Res.nil)), rfl, by rfl, by rfl, by rfl⟩
            · replace h := ite_f hg33 h
              refine AWp.skip ?_
              refine seqQ_n ?_
              refine AWp.seq ?_
              obtain ⟨r34, hr34, h⟩ := bindS h
              refine AWp.region (oc (ov (.ptr 1010 0 [0]) (fp hN Try.underlying45 0 tyS3 (.box 45 (.d (e_api_Invoice r1.1))) (ot 10 (.ptr 1010 0 []))))
                (oc (lb hN 45 (.d (e_api_Invoice r1.1)) (i6 r1.1.fMember) tyS3 (ad (.int .i64 r1.1.fMember)) (ot 76 (.ptr 1010 0 [0])))
                (oc (ov (.ptr 1010 1 [1]) (fp hN Try.underlying45 1 tyS3 (.box 45 (.d (e_api_Invoice r1.1))) (ot 10 (.ptr 1010 0 []))))
                (oc (lb hN 45 (.d (e_api_Invoice r1.1)) (i6 r1.1.fMonth) tyS3 (ad (.int .i64 r1.1.fMonth)) (ot 78 (.ptr 1010 1 [1])))
                (oc (ov (.ptr 1010 2 [2]) (fp hN Try.underlying45 2 tyS3 (.box 45 (.d (e_api_Invoice r1.1))) (ot 10 (.ptr 1010 0 []))))
                (oc (lb hN 45 (.d (e_api_Invoice r1.1)) (i6 r1.1.fVersion) tyS3 (ad (.int .i64 r1.1.fVersion)) (ot 80 (.ptr 1010 2 [2])))
                (oc (add6 (L rfl) (ot 81 (i6 r1.1.fVersion)) (Opd.int .i64 (1)))
                (oc (OpJ.callFn hB fnOk35 (invoice_sums_invoice_2_ac r32 r1.1.fMember r1.1.fMonth (w64 (r1.1.fVersion + (1 : Int))) r34 hr34) [(0, 1013)] (by kernel_rfl) (L rfl) (by kernel_rfl) (OpdL.cons (ot 13 (.ptr 1013 0 [])) (OpdL.cons (ot 77 (i6 r1.1.fMember)) (OpdL.cons (ot 79 (i6 r1.1.fMonth)) (OpdL.cons (ot 82 (i6 (w64 (r1.1.fVersion + (1 : Int))))) OpdL.nil)))))
                (oc (OpJ.alloc hB tyZ45 (nm := 1018) (by decide) (L rfl))
                (oc (OpJ.storeB (bt := 45) (c := (.st [(i6 0), (i6 0), (i6 0), .nils, (i6 0)])) (v := (.d (e_api_Invoice r34.1))) (c' := (.d (e_api_Invoice r34.1))) tyS45 (SetAt.here _ _) (by rfl) (by rfl) (by simp) rfl (ot 18 (.ptr 1018 0 [])) (ot 83 (.d (e_api_Invoice r34.1))))
                (OpJs.nil))))))))))) (by rfl) (by rfl) ?_
              refine seqQ_n ?_
              refine AWp.ghost (mp [] [(8, (.ptr 1008 0 [])), (18, (.ptr 1018 0 []))] [(1008, some (.box 45 (.st [(i6 0), (i6 0), (i6 0), .nils, (i6 0)]))), (1018, some (.box 45 (.d (e_api_Invoice r34.1))))] hB) ?_
              refine AWp.seq ?_
              obtain ⟨r35, hr35, h⟩ := bindS h
              refine sr (c (lb hN 45 _ _ tyS45 (At.here _) (q 18)) rfl (cg (OpJ.callFn hB fnOk41 (invoice_consistent_ac r34.1 r35 hr35) [] (by kernel_rfl) (L rfl) (by kernel_rfl) (OpdL.cons (q 84) OpdL.nil)) rfl (c (OpJ.not (L rfl) (q 85)) rfl cn))) ?_
              refine gh [(8, _), (18, _), (86, _)] [(1008, some _), (1018, some _)] hB rfl rfl (by rfl) ?_
              refine AWp.cond rfl (fun hg36 => ?_) (fun hg36 => ?_)
              · replace h := ite_t hg36 h
                refine sr (c (OpJ.build (places := [(0, 1), (1, 1), (2, 1), (3, 1), (4, 1)]) ⟨Try.underlying45, fun w => by kernel_rfl⟩ tyZS45 Opds.nil (by kernel_rfl) (r := (.st [(i6 0), (i6 0), (i6 0), .nils, (i6 0)])) (by rfl) (L rfl)) rfl (cg (OpJ.storeB tyS45 (SetAt.here _ _) (by rfl) (by rfl) (by simp) rfl (q 8) (q 87)) rfl (c (OpJ.assign (L rfl) (Opd.int .i64 (3))) rfl cn))) ?_
                refine gh [(8, _), (9, _)] [(1008, some _)] hB rfl rfl (by rfl) ?_
                refine AWp.ret ?_
                refine seqQ_r ?_
                obtain rfl := Option.some.inj h
                exact ⟨.inl rfl, _, _, (Mat.trans (Mat.coeP (Ts := []) (Bs := [(1008, some (.box 45 (.d (.st [(.int .i64 0), (.int .i64 0), (.int .i64 0), (.list 3 (([] : List api_Line).map e_api_Line)), (.int .i64 0)]))))]) TwT.nil (TwB.cons (x := (.st [(i6 0), (i6 0), (i6 0), .nils, (i6 0)])) (by rfl) (Tw.leaf ⟨_, (Co.st (CoL.cons (Co.d _) (CoL.cons (Co.d _) (CoL.cons (Co.d _) (CoL.cons (Co.nils 3) (CoL.cons (Co.d _) CoL.nil)))))), rfl⟩) TwB.nil)) (mp [] [(8, (.ptr 1008 0 [])), (9, (i6 (3 : Int)))] [(1008, some (.box 45 (.d (.st [(.int .i64 0), (.int .i64 0), (.int .i64 0), (.list 3 (([] : List api_Line).map e_api_Line)), (.int .i64 0)]))))] hB)), [(.d (.st [(.int .i64 0), (.int .i64 0), (.int .i64 0), (.list 3 (([] : List api_Line).map e_api_Line)), (.int .i64 0)])), (i6 (3 : Int))], (Res.cell (c := (.d (.st [(.int .i64 0), (.int .i64 0), (.int .i64 0), (.list 3 (([] : List api_Line).map e_api_Line)), (.int .i64 0)]))) (by rfl) (by rfl) tyS45 (by rfl) (by rfl) (by rfl) (Res.tmp (by rfl) (by rfl) Res.nil)), rfl, by rfl, by rfl, by rfl⟩
              · replace h := ite_f hg36 h
                refine AWp.skip ?_
                refine seqQ_n ?_
                refine sr (c (lb hN 45 _ _ tyS45 (At.here _) (q 18)) rfl (cg (OpJ.storeB tyS45 (SetAt.here _ _) (by rfl) (by rfl) (by simp) rfl (q 8) (q 88)) rfl (c (OpJ.assign (L rfl) (Opd.int .i64 (0))) rfl cn))) ?_
                refine gh [(8, _), (9, _)] [(1008, some _)] hB rfl rfl (by rfl) ?_
                refine AWp.ret ?_
                obtain rfl := Option.some.inj h
                exact ⟨.inl rfl, _, _, (kp [(8, _), (9, _)] [(1008, some _)] hB rfl rfl (by rfl)), [(.d (e_api_Invoice r34.1)), (i6 0)], (Res.cell (c := (.d (e_api_Invoice r34.1))) (by rfl) (by rfl) tyS45 (by rfl) (by rfl) (by rfl) (Res.tmp (by rfl) (by rfl) Res.nil)), rfl, by rfl, by rfl, by rfl⟩

noncomputable def exchangepointlaw41_InvoiceCorrects_L0 (a0 : (List api_Invoice)) (s3 : Int) : Option (((Bool) ⊕ (Unit)) ⊕ (Int)) :=
  (if (decide (s3 < (a0.length : Int))) = true then
  (idx a0 s3).bind fun x15 =>
  (if (decide ((30 : Int) < (x15.fLines.length : Int))) = true then
  (exchangepointlaw41_awake).bind fun r17 =>
  some (.inl (.inl r17))
  else
  some (.inr (w64 (s3 + (1 : Int)))))
  else
  some (.inl (.inr ())))
noncomputable def exchangepointlaw41_InvoiceCorrects_L2 (r21 : api_Member × api_Tariff × (List api_Series) × exchangepointmill_Deck) (r24 : Int) (r32 : api_Series × Int) (x211 : (List api_Invoice)) (s219 : Int × exchangepointmill_Deck) : Option (((Unit) ⊕ (exchangepointmill_Deck)) ⊕ (Int × exchangepointmill_Deck)) :=
  (if (decide (s219.1 < (([r21.2.2.1, (((r21.2.2.1.set r24.toNat r32.1).drop 0).take r21.2.2.1.length)] : List (List api_Series)).length : Int))) = true then
  (idx ([r21.2.2.1, (((r21.2.2.1.set r24.toNat r32.1).drop 0).take r21.2.2.1.length)] : List (List api_Series)) s219.1).bind fun x265 =>
  (invoice_Correct x211 r21.1 r21.2.1 x265).bind fun r266 =>
  (exchangepointref41_Correct x211 r21.1 r21.2.1 x265).bind fun r267 =>
  jn (fun m270 : Bool =>
  (if m270 = true then
  some (.inl (.inl ()))
  else
  (exchangepointmill_Deck_Next s219.2 (2 : Int)).bind fun r273 =>
  (exchangepointmill_Deck_Member r273.2 (w64 ((101 : Int) + r273.1))).bind fun r274 =>
  (invoice_Correct x211 r274.1 r21.2.1 x265).bind fun r275 =>
  jn (fun m278 : Bool =>
  (if m278 = true then
  some (.inl (.inl ()))
  else
  some (.inr ((w64 (s219.1 + (1 : Int))), r274.2)))) (fun j279 =>
  (if (r275.2 == (0 : Int)) = true then
  (exchangepointref41_Consistent r275.1).bind fun r282 =>
  j279 (!r282)
  else
  j279 false)))) (fun j271 =>
  (if (r266.2 != r267.2) = true then
  j271 true
  else
  (exchangepointref41_Same r266.1 r267.1).bind fun r284 =>
  j271 (!r284)))
  else
  some (.inl (.inr s219.2)))
noncomputable def exchangepointlaw41_InvoiceCorrects_L1 (a0 : (List api_Invoice)) (r21 : api_Member × api_Tariff × (List api_Series) × exchangepointmill_Deck) (r22 : api_Invoice × Int) (r24 : Int) (r32 : api_Series × Int) (r35 : api_Invoice × Int) (m45 : api_Invoice) (s47 : Int × exchangepointmill_Deck) : Option (((Unit) ⊕ (Unit)) ⊕ (Int × exchangepointmill_Deck)) :=
  (if (decide (s47.1 < (([([r22.1] : List api_Invoice), ([r22.1, r35.1] : List api_Invoice), ([r22.1, m45] : List api_Invoice), a0, ([] : List api_Invoice)] : List (List api_Invoice)).length : Int))) = true then
  (idx ([([r22.1] : List api_Invoice), ([r22.1, r35.1] : List api_Invoice), ([r22.1, m45] : List api_Invoice), a0, ([] : List api_Invoice)] : List (List api_Invoice)) s47.1).bind fun x211 =>
  (invoice_Sum x211).bind fun r212 =>
  (exchangepointref41_Sum x211).bind fun r213 =>
  jn (fun m216 : Bool =>
  (if m216 = true then
  some (.inl (.inl ()))
  else
  (loop (exchangepointlaw41_InvoiceCorrects_L2 r21 r24 r32 x211) ((0 : Int), s47.2)).bind fun x285 => match x285 with
  | (.inl _) =>
    some (.inl (.inl ()))
  | (.inr p263) =>
    some (.inr ((w64 (s47.1 + (1 : Int))), p263)))) (fun j217 =>
  (if (r212.2 != r213.2) = true then
  j217 true
  else
  (exchangepointref41_Same r212.1 r213.1).bind fun r288 =>
  j217 (!r288)))
  else
  some (.inl (.inr ())))
noncomputable def exchangepointlaw41_InvoiceCorrects (a0 : (List api_Invoice)) (a1 : (List Int)) (a2 : Int) (a3 : Int) (a4 : Int) : Option (Bool) :=
  (if (decide ((30 : Int) < (a0.length : Int))) = true then
  (exchangepointlaw41_awake).bind fun r2 =>
  some r2
  else
  (loop (exchangepointlaw41_InvoiceCorrects_L0 a0) (0 : Int)).bind fun x18 => match x18 with
  | (.inl p12) =>
    some p12
  | (.inr _) =>
    (exchangepointmill_New a1).bind fun r20 =>
    (exchangepointlaw41_bills r20).bind fun r21 =>
    (exchangepointref41_Make r21.1 (3 : Int) r21.2.1 r21.2.2.1).bind fun r22 =>
    chk (decide (r21.2.2.1.length ≤ LIM)) <|
    (exchangepointmill_Mod a3 (r21.2.2.1.length : Int)).bind fun r24 =>
    (idx r21.2.2.1 r24).bind fun x25 =>
    (idx r21.2.2.1 r24).bind fun x26 =>
    (idx r21.2.2.1 r24).bind fun x27 =>
    (idx r21.2.2.1 r24).bind fun x28 =>
    (exchangepointmill_Mod a4 (w64 ((x28.fIn.length : Int) + (1 : Int)))).bind fun r29 =>
    (exchangepointmill_Deck_Next r21.2.2.2 (1099511627776 : Int)).bind fun r30 =>
    (exchangepointmill_Deck_Next r30.2 (1099511627776 : Int)).bind fun r31 =>
    (exchangepointref40_Put x26 r29 r30.1 r31.1).bind fun r32 =>
    (idx r21.2.2.1 r24).bind fun x33 =>
    (idx r21.2.2.1 r24).bind fun x34 =>
    (exchangepointref41_Correct ([r22.1] : List api_Invoice) r21.1 r21.2.1 (((r21.2.2.1.set r24.toNat r32.1).drop 0).take r21.2.2.1.length)).bind fun r35 =>
    (exchangepointmill_Mod a2 (5 : Int)).bind fun r36 =>
    jn (fun m45 : api_Invoice =>
    (loop (exchangepointlaw41_InvoiceCorrects_L1 a0 r21 r22 r24 r32 r35 m45) ((0 : Int), r31.2)).bind fun x289 => match x289 with
    | (.inl _) =>
      some false
    | (.inr _) =>
      (exchangepointlaw41_awake).bind fun r291 =>
      some r291) (fun j46 =>
    (if (r36 == (0 : Int)) = true then
    (exchangepointmill_Mod a4 (4 : Int)).bind fun r293 =>
    j46 (api_Invoice.mk r35.1.fMember r35.1.fMonth r293 r35.1.fLines r35.1.fTotal)
    else
    (if (r36 == (1 : Int)) = true then
    j46 (api_Invoice.mk r35.1.fMember r35.1.fMonth r35.1.fVersion r35.1.fLines (w64 (r35.1.fTotal + (1 : Int))))
    else
    (if (r36 == (2 : Int)) = true then
    j46 (api_Invoice.mk r35.1.fMember (w64 (r35.1.fMonth + (1 : Int))) r35.1.fVersion r35.1.fLines r35.1.fTotal)
    else
    (if (r36 == (3 : Int)) = true then
    chk (decide (r35.1.fLines.length ≤ LIM)) <|
    (exchangepointmill_Mod a4 (12 : Int)).bind fun r298 =>
    chk (decide ((r35.1.fLines ++ ([(api_Line.mk r298 (0 : Int) (0 : Int))] : List api_Line)).length ≤ LIM)) <|
    j46 (api_Invoice.mk r35.1.fMember r35.1.fMonth r35.1.fVersion (r35.1.fLines ++ ([(api_Line.mk r298 (0 : Int) (0 : Int))] : List api_Line)) r35.1.fTotal)
    else
    j46 r35.1))))))
set_option maxHeartbeats 4000000 in
set_option maxRecDepth 100000 in
theorem exchangepointlaw41_InvoiceCorrects_ac (a0 : (List api_Invoice)) (a1 : (List Int)) (a2 : Int) (a3 : Int) (a4 : Int) (r : Bool) (h : exchangepointlaw41_InvoiceCorrects a0 a1 a2 a3 a4 = some r) : AC Try.prog 5 [(.d (.list 5 (a0.map e_api_Invoice))), (.d (.list 1 (a1.map (eI .i64)))), (.d (.int .i64 a2)), (.d (.int .i64 a3)), (.d (.int .i64 a4))] [] (.d (.bool r)) [] := by
  refine AC.of_code2 Try.func5 rfl rfl (Nat.le_of_ble_eq_true (by rfl)) fun B hB hN => ?_
  have L {d : Nat} (h : Nat.blt d Try.f5.ntmps = true) : d < B.N := ltN hN h
  delta exchangepointlaw41_InvoiceCorrects at h
  refine sr (c (OpJ.assign (L rfl) (Opd.bool false)) rfl cn) ?_
  refine gh [(0, _), (1, _), (2, _), (3, _), (4, _)] [] hB rfl rfl (by rfl) ?_
  refine AWp.seq ?_
  refine sr (c (mv hN (q 0)) rfl (c (OpJ.val (v' := (i6 (a0.length : Int))) (by simp) (OpJ.lenD Try.underlying53 (L rfl) (q 36))) rfl (c (OpJ.gtr (L rfl) (q 37) (Opd.int .i64 (30))) rfl cn))) ?_
  refine gh [(0, _), (1, _), (2, _), (3, _), (4, _), (38, _)] [] hB rfl rfl (by rfl) ?_
  refine AWp.cond rfl (fun hg1 => ?_) (fun hg1 => ?_)
  · replace h := ite_t hg1 h
    obtain ⟨r2, hr2, h⟩ := bindS h
    refine sr (cg (OpJ.callFn hB fnOk7 (exchangepointlaw41_awake_ac r2 hr2) [] (by kernel_rfl) (L rfl) (by kernel_rfl) OpdL.nil) rfl (c (OpJ.assign (L rfl) (q 39)) rfl cn)) ?_
    refine gh [(10, _)] [] hB rfl rfl (by rfl) ?_
    refine AWp.ret ?_
    refine seqQ_r ?_
    obtain rfl := Option.some.inj h
    exact ⟨.inl rfl, _, _, (kp [(10, _)] [] hB rfl rfl (by rfl)), [(bo r2)], (Res.tmp (by rfl) (by rfl) Res.nil), rfl, by rfl, by rfl, by rfl⟩
  · replace h := ite_f hg1 h
    refine AWp.skip ?_
    refine seqQ_n ?_
    refine AWp.seq ?_
    refine sr (c (mv hN (q 0)) rfl (c (OpJ.val (v' := (i6 (a0.length : Int))) (by simp) (OpJ.lenD Try.underlying53 (L rfl) (q 40))) rfl (c (mv hN (Opd.int .i64 (0))) rfl cn))) ?_
    refine gh [(0, _), (1, _), (2, _), (3, _), (4, _), (40, _), (41, _), (42, _)] [] hB rfl rfl (by rfl) ?_
    refine AWp.block ?_
    obtain ⟨x18, hx19, h⟩ := bindS h
    refine lg (exchangepointlaw41_InvoiceCorrects_L0 a0) (fun s3 : Int => ([(0, (qe_api_Invoice_5 a0)), (1, (qI_1 a1)), (2, (i6 a2)), (3, (i6 a3)), (4, (i6 a4)), (40, (qe_api_Invoice_5 a0)), (41, (i6 (a0.length : Int))), (42, (i6 s3))] : EL)) (fun s3 : Int => ([] : OL)) (fun (x : (Bool) ⊕ (Unit)) e E' O' => match x with | (.inl p12) => e = .ret ∧ Mat B E' O' ([(10, (bo p12))] : EL) ([] : OL) | (.inr _p) => e = .exit 0 ∧ Mat B E' O' ([(0, (qe_api_Invoice_5 a0)), (1, (qI_1 a1)), (2, (i6 a2)), (3, (i6 a3)), (4, (i6 a4))] : EL) ([] : OL)) hx19 (mp [] _ _ hB) (fun s3 y h => ?_) (fun e E' O' hR => ?_)
    · unfold exchangepointlaw41_InvoiceCorrects_L0 at h
      refine sr (c (OpJ.lss (L rfl) (q 42) (q 41)) rfl cn) ?_
      refine gh [(0, _), (1, _), (2, _), (3, _), (4, _), (40, _), (41, _), (42, _), (43, _)] [] hB rfl rfl (by rfl) ?_
      refine AWp.seq ?_
      refine AWp.cond rfl (fun hg14 => ?_) (fun hg14 => ?_)
      · replace h := ite_t hg14 h
        refine AWp.skip ?_
        refine seqQ_n ?_
        refine AWp.seq ?_
        refine AWp.block ?_
        obtain ⟨x15, hx15, h⟩ := bindS h
        refine sr (c (OpJ.indexD Try.underlying53 tyS45 (idx_some hx15).1 (get_map e_api_Invoice (idx_some hx15).2) (L rfl) (q 40) (q 42)) rfl (c (OpJ.loadD tyS45 (by rfl) (by rfl) (L rfl) (q 44)) rfl (cg (OpJ.alloc hB tyZ45 (nm := 1012) (by decide) (L rfl)) rfl (cg (OpJ.storeB tyS45 (SetAt.here _ _) (by rfl) (by rfl) (by simp) rfl (q 12) (q 45)) rfl cn)))) ?_
        refine gh [(0, _), (1, _), (2, _), (3, _), (4, _), (12, _), (40, _), (41, _), (42, _)] [(1012, some _)] hB rfl rfl (by rfl) ?_
        refine sr (c (ov (.ptr 1012 3 [3]) (fp hN Try.underlying45 3 tyS43 _ (q 12))) rfl (c (lb hN 45 _ _ tyS43 (ad _) (q 46)) rfl (c (OpJ.val (v' := (i6 (x15.fLines.length : Int))) (by simp) (OpJ.lenD Try.underlying43 (L rfl) (q 47))) rfl (c (OpJ.gtr (L rfl) (q 48) (Opd.int .i64 (30))) rfl cn)))) ?_
        refine gh [(0, _), (1, _), (2, _), (3, _), (4, _), (40, _), (41, _), (42, _), (49, _)] [] hB rfl rfl (by rfl) ?_
        refine AWp.cond rfl (fun hg16 => ?_) (fun hg16 => ?_)
        · replace h := ite_t hg16 h
          obtain ⟨r17, hr17, h⟩ := bindS h
          refine sr (cg (OpJ.callFn hB fnOk7 (exchangepointlaw41_awake_ac r17 hr17) [] (by kernel_rfl) (L rfl) (by kernel_rfl) OpdL.nil) rfl (c (OpJ.assign (L rfl) (q 50)) rfl cn)) ?_
          refine gh [(10, _)] [] hB rfl rfl (by rfl) ?_
          refine AWp.ret ?_
          refine blkQ_r ?_
          refine seqQ_r ?_
          obtain rfl := Option.some.inj h
          exact ⟨(fun hc => by cases hc), rfl, (mp [] _ _ hB)⟩
        · replace h := ite_f hg16 h
          refine AWp.skip ?_
          refine blkQ_n ?_
          refine seqQ_n ?_
          refine rg (c (add6 (L rfl) (q 42) (Opd.int .i64 (1))) rfl (c (mv hN (q 51)) rfl cn)) ?_
          obtain rfl := Option.some.inj h
          exact ⟨rfl, (Mat.trans (mp [] [(0, (qe_api_Invoice_5 a0)), (1, (qI_1 a1)), (2, (i6 a2)), (3, (i6 a3)), (4, (i6 a4)), (40, (qe_api_Invoice_5 a0)), (41, (i6 (a0.length : Int))), (42, (i6 (w64 (s3 + (1 : Int)))))] [] hB) (mp [] _ _ hB))⟩
      · replace h := ite_f hg14 h
        refine AWp.exit ?_
        refine seqQ_e ?_
        obtain rfl := Option.some.inj h
        exact ⟨(fun hc => by cases hc), rfl, (mp [] _ _ hB)⟩
    · rcases x18 with p12 | _
      · obtain ⟨rfl, hmat⟩ := hR
        refine blkQ_r ?_
        refine seqQ_r ?_
        obtain rfl := Option.some.inj h
        exact ⟨.inl rfl, _, _, (Mat.trans hmat (mp [] [(10, (bo p12))] [] hB)), [(bo p12)], (Res.tmp (by rfl) (by rfl) Res.nil), rfl, by rfl, by rfl, by rfl⟩
      · obtain ⟨rfl, hmat⟩ := hR
        refine blkQ_hit ?_
        refine seqQ_n ?_
        refine AWp.ghost hmat ?_
        refine AWp.seq ?_
        obtain ⟨r20, hr20, h⟩ := bindS h
        refine AWp.region (oc (mv hN (ot 1 (qI_1 a1)))
          (oc (OpJ.callFn hB fnOk9 (exchangepointmill_New_ac a1 r20 hr20) [(1005, 100200)] (by kernel_rfl) (L rfl) (by kernel_rfl) (OpdL.cons (ot 52 (qI_1 a1)) OpdL.nil))
          (oc (OpJ.assign (L rfl) (ot 53 (.ptr 100200 0 [])))
          (OpJs.nil)))) (by rfl) (by rfl) ?_
        refine seqQ_n ?_
        refine AWp.ghost (mp [] [(0, (qe_api_Invoice_5 a0)), (2, (i6 a2)), (3, (i6 a3)), (4, (i6 a4)), (13, (.ptr 100200 0 []))] [(100200, some (.box 72 (.d (e_exchangepointmill_Deck r20))))] hB) ?_
        refine AWp.seq ?_
        obtain ⟨r21, hr21, h⟩ := bindS h
        refine AWp.region (oc (mv hN (ot 13 (.ptr 100200 0 [])))
          (oc (OpJ.callFn hB fnOk8 (exchangepointlaw41_bills_ac r20 r21 hr21) [(0, 100200)] (by kernel_rfl) (L rfl) (by kernel_rfl) (OpdL.cons (ot 55 (.ptr 100200 0 [])) OpdL.nil))
          (oc (mv hN (ot 56 (.tup [(.d (e_api_Member r21.1)), (.d (e_api_Tariff r21.2.1)), (qe_api_Series_4 r21.2.2.1)])))
          (oc (OpJ.extract (v := (.d (e_api_Member r21.1))) (by rfl) rfl (L rfl) (ot 54 (.tup [(.d (e_api_Member r21.1)), (.d (e_api_Tariff r21.2.1)), (qe_api_Series_4 r21.2.2.1)])))
          (oc (OpJ.extract (v := (.d (e_api_Tariff r21.2.1))) (by rfl) rfl (L rfl) (ot 54 (.tup [(.d (e_api_Member r21.1)), (.d (e_api_Tariff r21.2.1)), (qe_api_Series_4 r21.2.2.1)])))
          (oc (OpJ.extract (v := (qe_api_Series_4 r21.2.2.1)) (by rfl) rfl (L rfl) (ot 54 (.tup [(.d (e_api_Member r21.1)), (.d (e_api_Tariff r21.2.1)), (qe_api_Series_4 r21.2.2.1)])))
          (oc (OpJ.alloc hB tyZ24 (nm := 1014) (by decide) (L rfl))
          (oc (OpJ.alloc hB tyZ27 (nm := 1015) (by decide) (L rfl))
          (oc (OpJ.storeB (bt := 24) (c := (.st [(i6 0), (.d (.str ([] : List UInt8))), (.d (.str ([] : List UInt8))), (i6 0), (i6 0), .nils])) (v := (.d (e_api_Member r21.1))) (c' := (.d (e_api_Member r21.1))) tyS24 (SetAt.here _ _) (by rfl) (by rfl) (by simp) rfl (ot 14 (.ptr 1014 0 [])) (ot 57 (.d (e_api_Member r21.1))))
          (oc (OpJ.storeB (bt := 27) (c := (.d (.st [(.int .i64 0), (.int .i64 0), (.int .i64 0)]))) (v := (.d (e_api_Tariff r21.2.1))) (c' := (.d (e_api_Tariff r21.2.1))) tyS27 (SetAt.here _ _) (by rfl) (by rfl) (by simp) rfl (ot 15 (.ptr 1015 0 [])) (ot 58 (.d (e_api_Tariff r21.2.1))))
          (oc (OpJ.assign (L rfl) (ot 59 (qe_api_Series_4 r21.2.2.1)))
          (OpJs.nil)))))))))))) (by rfl) (by rfl) ?_
        refine seqQ_n ?_
        refine AWp.ghost (mp [] [(0, (qe_api_Invoice_5 a0)), (2, (i6 a2)), (3, (i6 a3)), (4, (i6 a4)), (13, (.ptr 100200 0 [])), (14, (.ptr 1014 0 [])), (15, (.ptr 1015 0 [])), (16, (qe_api_Series_4 r21.2.2.1))] [(1014, some (.box 24 (.d (e_api_Member r21.1)))), (1015, some (.box 27 (.d (e_api_Tariff r21.2.1)))), (100200, some (.box 72 (.d (e_exchangepointmill_Deck r21.2.2.2))))] hB) ?_
        obtain ⟨r22, hr22, h⟩ := bindS h
        refine sr (c (lb hN 24 _ _ tyS24 (At.here _) (q 14)) rfl (c (lb hN 27 _ _ tyS27 (At.here _) (q 15)) rfl (c (mv hN (q 16)) rfl (cg (OpJ.callFn hB fnOk14 (exchangepointref41_Make_ac r21.1 (3 : Int) r21.2.1 r21.2.2.1 r22 hr22) [] (by kernel_rfl) (L rfl) (by kernel_rfl) (OpdL.cons (q 61) (OpdL.cons (Opd.int .i64 (3)) (OpdL.cons (q 62) (OpdL.cons (q 63) OpdL.nil))))) rfl (c (mv hN (q 64)) rfl (c (OpJ.extract (by rfl) rfl (L rfl) (q 60)) rfl (c (OpJ.extract (by rfl) rfl (L rfl) (q 60)) rfl (cg (OpJ.alloc hB tyZ45 (nm := 1017) (by decide) (L rfl)) rfl (cg (OpJ.storeB tyS45 (SetAt.here _ _) (by rfl) (by rfl) (by simp) rfl (q 17) (q 65)) rfl (c (OpJ.assign (L rfl) (q 66)) rfl cn)))))))))) ?_
        refine gh [(0, _), (2, _), (3, _), (4, _), (13, _), (14, _), (15, _), (16, _), (17, _)] [(1014, some _), (1015, some _), (1017, some _), (100200, some _)] hB rfl rfl (by rfl) ?_
        obtain ⟨hc23, h⟩ := chk_some h
        refine sr (c (mv hN (q 16)) rfl (cg (OpJ.appendN hB Try.underlying25 tyE31 (nm := 1068) (by decide) (ys := r21.2.2.1.map e_api_Series) (len := r21.2.2.1.length) (by simp) (map_sz (f := e_api_Series) (fun _ => rfl)) (by rw [List.length_map]; exact lim_mulN hc23 (by decide)) (by rw [List.length_map]; exact lim_leN hc23) (L rfl) Opd.nils (q 67)) rfl (c (OpJ.assign (L rfl) (q 68)) rfl cn))) ?_
        refine gh [(0, _), (2, _), (3, _), (4, _), (13, _), (14, _), (15, _), (16, _), (17, _), (19, _)] [(1014, some _), (1015, some _), (1017, some _), (1068, some _), (100200, some _)] hB rfl rfl (by rfl) ?_
        obtain ⟨r24, hr24, h⟩ := bindS h
        refine sr (c (mv hN (q 3)) rfl (c (mv hN (q 19)) rfl (c (OpJ.lenS Try.underlying25 (L rfl) (q 70)) rfl (cg (OpJ.callFn hB fnOk10 (exchangepointmill_Mod_ac a3 (r21.2.2.1.length : Int) r24 hr24) [] (by kernel_rfl) (L rfl) (by kernel_rfl) (OpdL.cons (q 69) (OpdL.cons (q 71) OpdL.nil))) rfl (c (OpJ.assign (L rfl) (q 72)) rfl cn))))) ?_
        refine gh [(0, _), (2, _), (4, _), (13, _), (14, _), (15, _), (16, _), (17, _), (19, _), (20, _)] [(1014, some _), (1015, some _), (1017, some _), (1068, some _), (100200, some _)] hB rfl rfl (by rfl) ?_
        refine AWp.seq ?_
        obtain ⟨x25, hx25, h⟩ := bindS h
        obtain ⟨x26, hx26, h⟩ := bindS h
        obtain ⟨x27, hx27, h⟩ := bindS h
        obtain ⟨x28, hx28, h⟩ := bindS h
        obtain ⟨r29, hr29, h⟩ := bindS h
        obtain ⟨r30, hr30, h⟩ := bindS h
        obtain ⟨r31, hr31, h⟩ := bindS h
        obtain ⟨r32, hr32, h⟩ := bindS h
        obtain ⟨x33, hx33, h⟩ := bindS h
        obtain ⟨x34, hx34, h⟩ := bindS h
        refine AWp.draws (by kernel_rfl) (oc (mv hN (ot 19 (.sref 1068 4 0 r21.2.2.1.length)))
          (oc (mv hN (ot 20 (i6 r24)))
          (oc (mv hN (ot 19 (.sref 1068 4 0 r21.2.2.1.length)))
          (oc (mv hN (ot 20 (i6 r24)))
          (oc (OpJ.val (v' := (.ptr 1068 (r24.toNat * 4) [r24.toNat])) (by simp) (OpJ.indexS Try.underlying25 tyS31 (obj := (we_api_Series_31_4 r21.2.2.1)) (idx_some hx25).1 (by have := idx_lt hx25; first | (simpa using this) | ((try simp only [List.length_map] at this); (try simp only [List.length_map]); omega)) (L rfl) (ot 76 (.sref 1068 4 0 r21.2.2.1.length)) (ot 77 (i6 r24))))
          (oc (OpJ.loadR (e := 31) (sz := 4) (es := r21.2.2.1.map e_api_Series) tyS31 (get_map e_api_Series (idx_some hx26).2) (o := 0) (v := (e_api_Series x26)) (At.here _) (by rfl) (by rfl) (by rfl) (L rfl) (ot 78 (.ptr 1068 (r24.toNat * 4) [r24.toNat])))
          (oc (mv hN (ot 4 (i6 a4)))
          (oc (mv hN (ot 19 (.sref 1068 4 0 r21.2.2.1.length)))
          (oc (mv hN (ot 20 (i6 r24)))
          (oc (OpJ.val (v' := (.ptr 1068 (r24.toNat * 4) [r24.toNat])) (by simp) (OpJ.indexS Try.underlying25 tyS31 (obj := (we_api_Series_31_4 r21.2.2.1)) (idx_some hx27).1 (by have := idx_lt hx27; first | (simpa using this) | ((try simp only [List.length_map] at this); (try simp only [List.length_map]); omega)) (L rfl) (ot 81 (.sref 1068 4 0 r21.2.2.1.length)) (ot 82 (i6 r24))))
          (oc (ov (.ptr 1068 ((r24.toNat * 4) + 2) [r24.toNat, 2]) (fp hN Try.underlying31 2 tyS28 (we_api_Series_31_4 r21.2.2.1) (ot 83 (.ptr 1068 (r24.toNat * 4) [r24.toNat]))))
          (oc (OpJ.loadR (e := 31) (sz := 4) (es := r21.2.2.1.map e_api_Series) tyS28 (get_map e_api_Series (idx_some hx28).2) (o := 2) (v := (.list 1 (x28.fIn.map (eI .i64)))) (ad (.list 1 (x28.fIn.map (eI .i64)))) (by rfl) (by rfl) (by rfl) (L rfl) (ot 84 (.ptr 1068 ((r24.toNat * 4) + 2) [r24.toNat, 2])))
          (oc (OpJ.val (v' := (i6 (x28.fIn.length : Int))) (by simp) (OpJ.lenD Try.underlying28 (L rfl) (ot 85 (qI_1 x28.fIn))))
          (oc (add6 (L rfl) (ot 86 (i6 (x28.fIn.length : Int))) (Opd.int .i64 (1)))
          (oc (OpJ.callFn hB fnOk10 (exchangepointmill_Mod_ac a4 (w64 ((x28.fIn.length : Int) + (1 : Int))) r29 hr29) [] (by kernel_rfl) (L rfl) (by kernel_rfl) (OpdL.cons (ot 80 (i6 a4)) (OpdL.cons (ot 87 (i6 (w64 ((x28.fIn.length : Int) + (1 : Int))))) OpdL.nil)))
          (oc (mv hN (ot 13 (.ptr 100200 0 [])))
          (oc (OpJ.callFn hB fnOk17 (exchangepointmill_Deck_Next_ac r21.2.2.2 (1099511627776 : Int) r30 hr30) [(0, 100200)] (by kernel_rfl) (L rfl) (by kernel_rfl) (OpdL.cons (ot 89 (.ptr 100200 0 [])) (OpdL.cons (Opd.int .i64 (1099511627776)) OpdL.nil)))
          (oc (mv hN (ot 13 (.ptr 100200 0 [])))
          (oc (OpJ.callFn hB fnOk17 (exchangepointmill_Deck_Next_ac r30.2 (1099511627776 : Int) r31 hr31) [(0, 100200)] (by kernel_rfl) (L rfl) (by kernel_rfl) (OpdL.cons (ot 91 (.ptr 100200 0 [])) (OpdL.cons (Opd.int .i64 (1099511627776)) OpdL.nil)))
          (oc (OpJ.callFn hB fnOk16 (exchangepointref40_Put_ac x26 r29 r30.1 r31.1 r32 hr32) [] (by kernel_rfl) (L rfl) (by kernel_rfl) (OpdL.cons (ot 79 (.d (e_api_Series x26))) (OpdL.cons (ot 88 (i6 r29)) (OpdL.cons (ot 90 (i6 r30.1)) (OpdL.cons (ot 92 (i6 r31.1)) OpdL.nil)))))
          (oc (mv hN (ot 93 (.tup [(.d (e_api_Series r32.1)), (i6 r32.2)])))
          (oc (OpJ.extract (v := (.d (e_api_Series r32.1))) (by rfl) rfl (L rfl) (ot 73 (.tup [(.d (e_api_Series r32.1)), (i6 r32.2)])))
          (oc (OpJ.extract (v := (i6 r32.2)) (by rfl) rfl (L rfl) (ot 73 (.tup [(.d (e_api_Series r32.1)), (i6 r32.2)])))
          (oc (OpJ.val (v' := (.ptr 1068 (r24.toNat * 4) [r24.toNat])) (by simp) (OpJ.indexS Try.underlying25 tyS31 (obj := (we_api_Series_31_4 r21.2.2.1)) (idx_some hx33).1 (by have := idx_lt hx33; first | (simpa using this) | ((try simp only [List.length_map] at this); (try simp only [List.length_map]); omega)) (L rfl) (ot 74 (.sref 1068 4 0 r21.2.2.1.length)) (ot 75 (i6 r24))))
          (oc (OpJ.storeR (e := 31) (sz := 4) (es := r21.2.2.1.map e_api_Series) (es' := (r21.2.2.1.set r24.toNat r32.1).map e_api_Series) tyS31 (get_map e_api_Series (idx_some hx34).2) (o := 0) (v := (e_api_Series r32.1)) (el' := (e_api_Series r32.1)) (SetAt.here _ _) (by rfl) (map_set _ _ _ _) (by rfl) (by rfl) (ot 96 (.ptr 1068 (r24.toNat * 4) [r24.toNat])) (ot 94 (.d (e_api_Series r32.1))))
          (OpJs.nil)))))))))))))))))))))))))) (by kernel_rfl) (by rfl) (by rfl) ?_
        refine seqQ_n ?_
        refine AWp.ghost (mp [] [(0, (qe_api_Invoice_5 a0)), (2, (i6 a2)), (4, (i6 a4)), (13, (.ptr 100200 0 [])), (14, (.ptr 1014 0 [])), (15, (.ptr 1015 0 [])), (16, (qe_api_Series_4 r21.2.2.1)), (17, (.ptr 1017 0 [])), (19, (.sref 1068 4 0 r21.2.2.1.length))] [(1014, some (.box 24 (.d (e_api_Member r21.1)))), (1015, some (.box 27 (.d (e_api_Tariff r21.2.1)))), (1017, some (.box 45 (.d (e_api_Invoice r22.1)))), (1068, some (we_api_Series_31_4 (r21.2.2.1.set r24.toNat r32.1))), (100200, some (.box 72 (.d (e_exchangepointmill_Deck r31.2))))] hB) ?_
        refine AWp.seq ?_
        refine AWp.ghost (Mat.freezeP (n := 1068) (e := 31) (sz := 4) (es := (r21.2.2.1.set r24.toNat r32.1).map e_api_Series) (Ts := [(19, (qe_api_Series_4 (((r21.2.2.1.set r24.toNat r32.1).drop 0).take r21.2.2.1.length)))]) (Bs := []) (by rfl) (TwT.cons (x := (.sref 1068 4 0 r21.2.2.1.length)) (by rfl) (FrzL.cut (fs := (((r21.2.2.1.set r24.toNat r32.1).drop 0).take r21.2.2.1.length).map e_api_Series) (by simp only [List.length_map, List.length_append, List.length_take, List.length_drop, List.length_replicate, List.length_set]; omega) (by first | rw [List.map_drop, List.map_take] | simp [List.map_take, List.map_drop])) TwT.nil) TwB.nil) ?_
        obtain ⟨r35, hr35, h⟩ := bindS h
        refine rg (c (lb hN 45 _ _ tyS45 (At.here _) (q 17)) rfl (c (OpJ.buildSlice Try.underlying53 tyS45 tyZD45 (by rfl) (by decide) (by decide) (Opds.cons (q 98) Opds.nil) (by kernel_rfl) (es := ([(e_api_Invoice r22.1)] : List D)) (by rfl) (by rfl) (by kernel_rfl) (by simp) (L rfl)) rfl (c (lb hN 24 _ _ tyS24 (At.here _) (q 14)) rfl (c (lb hN 27 _ _ tyS27 (At.here _) (q 15)) rfl (c (mv hN (q 19)) rfl (cg (OpJ.callFn hB fnOk18 (exchangepointref41_Correct_ac ([r22.1] : List api_Invoice) r21.1 r21.2.1 (((r21.2.2.1.set r24.toNat r32.1).drop 0).take r21.2.2.1.length) r35 hr35) [] (by kernel_rfl) (L rfl) (by kernel_rfl) (OpdL.cons (q 99) (OpdL.cons (q 100) (OpdL.cons (q 101) (OpdL.cons (q 102) OpdL.nil))))) rfl (c (mv hN (q 103)) rfl (c (OpJ.extract (by rfl) rfl (L rfl) (q 97)) rfl (c (OpJ.extract (by rfl) rfl (L rfl) (q 97)) rfl (cg (OpJ.alloc hB tyZ45 (nm := 1021) (by decide) (L rfl)) rfl (cg (OpJ.storeB tyS45 (SetAt.here _ _) (by rfl) (by rfl) (by simp) rfl (q 21) (q 104)) rfl (c (OpJ.assign (L rfl) (q 105)) rfl cn)))))))))))) ?_
        refine seqQ_n ?_
        refine gh [(0, _), (2, _), (4, _), (13, _), (14, _), (15, _), (16, _), (17, _), (19, _), (21, _)] [(1014, some _), (1015, some _), (1017, some _), (1021, some _), (100200, some _)] hB rfl rfl (by rfl) ?_
        refine sr (c (lb hN 45 _ _ tyS45 (At.here _) (q 21)) rfl (cg (OpJ.alloc hB tyZ45 (nm := 1023) (by decide) (L rfl)) rfl (cg (OpJ.storeB tyS45 (SetAt.here _ _) (by rfl) (by rfl) (by simp) rfl (q 23) (q 106)) rfl cn))) ?_
        refine gh [(0, _), (2, _), (4, _), (13, _), (14, _), (15, _), (16, _), (17, _), (19, _), (21, _), (23, _)] [(1014, some _), (1015, some _), (1017, some _), (1021, some _), (1023, some _), (100200, some _)] hB rfl rfl (by rfl) ?_
        refine AWp.seq ?_
        obtain ⟨r36, hr36, h⟩ := bindS h
        refine sr (c (mv hN (q 2)) rfl (cg (OpJ.callFn hB fnOk10 (exchangepointmill_Mod_ac a2 (5 : Int) r36 hr36) [] (by kernel_rfl) (L rfl) (by kernel_rfl) (OpdL.cons (q 107) (OpdL.cons (Opd.int .i64 (5)) OpdL.nil))) rfl cn)) ?_
        refine gh [(0, _), (4, _), (13, _), (14, _), (15, _), (16, _), (17, _), (19, _), (21, _), (23, _), (108, _)] [(1014, some _), (1015, some _), (1017, some _), (1021, some _), (1023, some _), (100200, some _)] hB rfl rfl (by rfl) ?_
        refine AWp.block ?_
        refine sr (c (OpJ.eqlI (L rfl) (q 108) (Opd.int .i64 (0))) rfl (c (OpJ.assign (L rfl) (q 110)) rfl cn)) ?_
        refine gh [(0, _), (4, _), (13, _), (14, _), (15, _), (16, _), (17, _), (19, _), (21, _), (23, _), (108, _), (109, _)] [(1014, some _), (1015, some _), (1017, some _), (1021, some _), (1023, some _), (100200, some _)] hB rfl rfl (by rfl) ?_
        refine AWp.cut h (fun m45 : api_Invoice => ([(0, (qe_api_Invoice_5 a0)), (13, (.ptr 100200 0 [])), (14, (.ptr 1014 0 [])), (15, (.ptr 1015 0 [])), (16, (qe_api_Series_4 r21.2.2.1)), (17, (.ptr 1017 0 [])), (19, (qe_api_Series_4 (((r21.2.2.1.set r24.toNat r32.1).drop 0).take r21.2.2.1.length))), (21, (.ptr 1021 0 [])), (23, (.ptr 1023 0 []))] : EL)) (fun m45 : api_Invoice => ([(1014, some (.box 24 (.d (e_api_Member r21.1)))), (1015, some (.box 27 (.d (e_api_Tariff r21.2.1)))), (1017, some (.box 45 (.d (e_api_Invoice r22.1)))), (1021, some (.box 45 (.d (e_api_Invoice r35.1)))), (1023, some (.box 45 (.d (e_api_Invoice m45)))), (100200, some (.box 72 (.d (e_exchangepointmill_Deck r31.2))))] : OL)) (fun m45 h E' O' hmat => ?_) (fun j46 hjj46 h => ?_)
        · refine blkQ_n ?_
          refine seqQ_n ?_
          refine AWp.ghost hmat ?_
          refine AWp.seq ?_
          refine sr (c (lb hN 45 _ _ tyS45 (At.here _) (q 17)) rfl (c (OpJ.buildSlice Try.underlying53 tyS45 tyZD45 (by rfl) (by decide) (by decide) (Opds.cons (q 137) Opds.nil) (by kernel_rfl) (es := ([(e_api_Invoice r22.1)] : List D)) (by rfl) (by rfl) (by kernel_rfl) (by simp) (L rfl)) rfl (c (lb hN 45 _ _ tyS45 (At.here _) (q 17)) rfl (c (lb hN 45 _ _ tyS45 (At.here _) (q 21)) rfl (c (OpJ.buildSlice Try.underlying53 tyS45 tyZD45 (by rfl) (by decide) (by decide) (Opds.cons (q 139) (Opds.cons (q 140) Opds.nil)) (by kernel_rfl) (es := ([(e_api_Invoice r22.1), (e_api_Invoice r35.1)] : List D)) (by rfl) (by rfl) (by kernel_rfl) (by simp) (L rfl)) rfl (c (lb hN 45 _ _ tyS45 (At.here _) (q 17)) rfl (c (lb hN 45 _ _ tyS45 (At.here _) (q 23)) rfl (c (OpJ.buildSlice Try.underlying53 tyS45 tyZD45 (by rfl) (by decide) (by decide) (Opds.cons (q 142) (Opds.cons (q 143) Opds.nil)) (by kernel_rfl) (es := ([(e_api_Invoice r22.1), (e_api_Invoice m45)] : List D)) (by rfl) (by rfl) (by kernel_rfl) (by simp) (L rfl)) rfl (c (mv hN (q 0)) rfl (c (OpJ.buildSlice Try.underlying58 tyS53 tyZD53 (by rfl) (by decide) (by decide) (Opds.cons (q 138) (Opds.cons (q 141) (Opds.cons (q 144) (Opds.cons (q 145) (Opds.cons (Opd.co (Co.nils 5) Opd.nils) Opds.nil))))) (by kernel_rfl) (es := ([(.list 5 (([r22.1] : List api_Invoice).map e_api_Invoice)), (.list 5 (([r22.1, r35.1] : List api_Invoice).map e_api_Invoice)), (.list 5 (([r22.1, m45] : List api_Invoice).map e_api_Invoice)), (.list 5 (a0.map e_api_Invoice)), (.list 5 (([] : List api_Invoice).map e_api_Invoice))] : List D)) (by rfl) (by rfl) (by kernel_rfl) (by simp) (L rfl)) rfl (c (OpJ.val (v' := (i6 (([([r22.1] : List api_Invoice), ([r22.1, r35.1] : List api_Invoice), ([r22.1, m45] : List api_Invoice), a0, ([] : List api_Invoice)] : List (List api_Invoice)).length : Int))) (by simp) (OpJ.lenD Try.underlying58 (L rfl) (q 146))) rfl (c (mv hN (Opd.int .i64 (0))) rfl cn)))))))))))) ?_
          refine gh [(13, _), (14, _), (15, _), (16, _), (19, _), (146, _), (147, _), (148, _)] [(1014, some _), (1015, some _), (100200, some _)] hB rfl rfl (by rfl) ?_
          refine AWp.block ?_
          obtain ⟨x289, hx290, h⟩ := bindS h
          refine lg (exchangepointlaw41_InvoiceCorrects_L1 a0 r21 r22 r24 r32 r35 m45) (fun s47 : Int × exchangepointmill_Deck => ([(13, (.ptr 100200 0 [])), (14, (.ptr 1014 0 [])), (15, (.ptr 1015 0 [])), (16, (qe_api_Series_4 r21.2.2.1)), (19, (qe_api_Series_4 (((r21.2.2.1.set r24.toNat r32.1).drop 0).take r21.2.2.1.length))), (146, (.d (.list 1 (([([r22.1] : List api_Invoice), ([r22.1, r35.1] : List api_Invoice), ([r22.1, m45] : List api_Invoice), a0, ([] : List api_Invoice)] : List (List api_Invoice)).map e_LeapiInvoice)))), (147, (i6 (([([r22.1] : List api_Invoice), ([r22.1, r35.1] : List api_Invoice), ([r22.1, m45] : List api_Invoice), a0, ([] : List api_Invoice)] : List (List api_Invoice)).length : Int))), (148, (i6 s47.1))] : EL)) (fun s47 : Int × exchangepointmill_Deck => ([(1014, some (.box 24 (.d (e_api_Member r21.1)))), (1015, some (.box 27 (.d (e_api_Tariff r21.2.1)))), (100200, some (.box 72 (.d (e_exchangepointmill_Deck s47.2))))] : OL)) (fun (x : (Unit) ⊕ (Unit)) e E' O' => match x with | (.inl _p) => e = .ret ∧ Mat B E' O' ([(10, (bo false))] : EL) ([] : OL) | (.inr _p) => e = .exit 3 ∧ Mat B E' O' ([] : EL) ([] : OL)) hx290 (mp [] _ _ hB) (fun s47 y h => ?_) (fun e E' O' hR => ?_)
          · unfold exchangepointlaw41_InvoiceCorrects_L1 at h
            refine sr (c (OpJ.lss (L rfl) (q 148) (q 147)) rfl cn) ?_
            refine gh [(13, _), (14, _), (15, _), (16, _), (19, _), (146, _), (147, _), (148, _), (149, _)] [(1014, some _), (1015, some _), (100200, some _)] hB rfl rfl (by rfl) ?_
            refine AWp.seq ?_
            refine AWp.cond rfl (fun hg210 => ?_) (fun hg210 => ?_)
            · replace h := ite_t hg210 h
              refine AWp.skip ?_
              refine seqQ_n ?_
              refine AWp.seq ?_
              refine AWp.block ?_
              obtain ⟨x211, hx211, h⟩ := bindS h
              refine sr (c (OpJ.indexD Try.underlying58 tyS53 (idx_some hx211).1 (get_map e_LeapiInvoice (idx_some hx211).2) (L rfl) (q 146) (q 148)) rfl (c (OpJ.loadD tyS53 (by rfl) (by rfl) (L rfl) (q 150)) rfl (c (OpJ.assign (L rfl) (q 151)) rfl cn))) ?_
              refine gh [(13, _), (14, _), (15, _), (16, _), (19, _), (25, _), (146, _), (147, _), (148, _)] [(1014, some _), (1015, some _), (100200, some _)] hB rfl rfl (by rfl) ?_
              obtain ⟨r212, hr212, h⟩ := bindS h
              refine sr (c (mv hN (q 25)) rfl (cg (OpJ.callFn hB fnOk19 (invoice_Sum_ac x211 r212 hr212) [] (by kernel_rfl) (L rfl) (by kernel_rfl) (OpdL.cons (q 153) OpdL.nil)) rfl (c (mv hN (q 154)) rfl (c (OpJ.extract (by rfl) rfl (L rfl) (q 152)) rfl (c (OpJ.extract (by rfl) rfl (L rfl) (q 152)) rfl (cg (OpJ.alloc hB tyZ45 (nm := 1026) (by decide) (L rfl)) rfl (cg (OpJ.storeB tyS45 (SetAt.here _ _) (by rfl) (by rfl) (by simp) rfl (q 26) (q 155)) rfl (c (OpJ.assign (L rfl) (q 156)) rfl cn)))))))) ?_
              refine gh [(13, _), (14, _), (15, _), (16, _), (19, _), (25, _), (26, _), (27, _), (146, _), (147, _), (148, _)] [(1014, some _), (1015, some _), (1026, some _), (100200, some _)] hB rfl rfl (by rfl) ?_
              obtain ⟨r213, hr213, h⟩ := bindS h
              refine sr (c (mv hN (q 25)) rfl (cg (OpJ.callFn hB fnOk20 (exchangepointref41_Sum_ac x211 r213 hr213) [] (by kernel_rfl) (L rfl) (by kernel_rfl) (OpdL.cons (q 158) OpdL.nil)) rfl (c (mv hN (q 159)) rfl (c (OpJ.extract (by rfl) rfl (L rfl) (q 157)) rfl (c (OpJ.extract (by rfl) rfl (L rfl) (q 157)) rfl (cg (OpJ.alloc hB tyZ45 (nm := 1028) (by decide) (L rfl)) rfl (cg (OpJ.storeB tyS45 (SetAt.here _ _) (by rfl) (by rfl) (by simp) rfl (q 28) (q 160)) rfl (c (OpJ.assign (L rfl) (q 161)) rfl cn)))))))) ?_
              refine gh [(13, _), (14, _), (15, _), (16, _), (19, _), (25, _), (26, _), (27, _), (28, _), (29, _), (146, _), (147, _), (148, _)] [(1014, some _), (1015, some _), (1026, some _), (1028, some _), (100200, some _)] hB rfl rfl (by rfl) ?_
              refine AWp.seq ?_
              refine AWp.seq ?_
              refine AWp.cut h (fun m216 : Bool => ([(13, (.ptr 100200 0 [])), (14, (.ptr 1014 0 [])), (15, (.ptr 1015 0 [])), (16, (qe_api_Series_4 r21.2.2.1)), (19, (qe_api_Series_4 (((r21.2.2.1.set r24.toNat r32.1).drop 0).take r21.2.2.1.length))), (25, (qe_api_Invoice_5 x211)), (146, (.d (.list 1 (([([r22.1] : List api_Invoice), ([r22.1, r35.1] : List api_Invoice), ([r22.1, m45] : List api_Invoice), a0, ([] : List api_Invoice)] : List (List api_Invoice)).map e_LeapiInvoice)))), (147, (i6 (([([r22.1] : List api_Invoice), ([r22.1, r35.1] : List api_Invoice), ([r22.1, m45] : List api_Invoice), a0, ([] : List api_Invoice)] : List (List api_Invoice)).length : Int))), (148, (i6 s47.1)), (170, (bo m216))] : EL)) (fun m216 : Bool => ([(1014, some (.box 24 (.d (e_api_Member r21.1)))), (1015, some (.box 27 (.d (e_api_Tariff r21.2.1)))), (100200, some (.box 72 (.d (e_exchangepointmill_Deck s47.2))))] : OL)) (fun m216 h E' O' hmat => ?_) (fun j217 hjj217 h => ?_)
              · refine seqQ_n ?_
                refine AWp.ghost hmat ?_
                refine AWp.cond rfl (fun hg218 => ?_) (fun hg218 => ?_)
                · replace h := ite_t hg218 h
                  refine sr (c (OpJ.assign (L rfl) (Opd.bool false)) rfl cn) ?_
                  refine gh [(10, _)] [] hB rfl rfl (by rfl) ?_
                  refine AWp.ret ?_
                  refine seqQ_r ?_
                  refine blkQ_r ?_
                  refine seqQ_r ?_
                  obtain rfl := Option.some.inj h
                  exact ⟨(fun hc => by cases hc), rfl, (mp [] _ _ hB)⟩
                · replace h := ite_f hg218 h
                  refine AWp.skip ?_
                  refine seqQ_n ?_
                  refine sr (c (mv hN (q 16)) rfl (c (mv hN (q 19)) rfl (c (OpJ.buildSlice Try.underlying42 tyS25 tyZD25 (by rfl) (by decide) (by decide) (Opds.cons (q 171) (Opds.cons (q 172) Opds.nil)) (by kernel_rfl) (es := ([(.list 4 (r21.2.2.1.map e_api_Series)), (.list 4 ((((r21.2.2.1.set r24.toNat r32.1).drop 0).take r21.2.2.1.length).map e_api_Series))] : List D)) (by rfl) (by rfl) (by kernel_rfl) (by simp) (L rfl)) rfl (c (OpJ.val (v' := (i6 (([r21.2.2.1, (((r21.2.2.1.set r24.toNat r32.1).drop 0).take r21.2.2.1.length)] : List (List api_Series)).length : Int))) (by simp) (OpJ.lenD Try.underlying42 (L rfl) (q 173))) rfl (c (mv hN (Opd.int .i64 (0))) rfl cn))))) ?_
                  refine gh [(13, _), (14, _), (15, _), (16, _), (19, _), (25, _), (146, _), (147, _), (148, _), (173, _), (174, _), (175, _)] [(1014, some _), (1015, some _), (100200, some _)] hB rfl rfl (by rfl) ?_
                  refine AWp.block ?_
                  obtain ⟨x285, hx286, h⟩ := bindS h
                  refine lg (exchangepointlaw41_InvoiceCorrects_L2 r21 r24 r32 x211) (fun s219 : Int × exchangepointmill_Deck => ([(13, (.ptr 100200 0 [])), (14, (.ptr 1014 0 [])), (15, (.ptr 1015 0 [])), (16, (qe_api_Series_4 r21.2.2.1)), (19, (qe_api_Series_4 (((r21.2.2.1.set r24.toNat r32.1).drop 0).take r21.2.2.1.length))), (25, (qe_api_Invoice_5 x211)), (146, (.d (.list 1 (([([r22.1] : List api_Invoice), ([r22.1, r35.1] : List api_Invoice), ([r22.1, m45] : List api_Invoice), a0, ([] : List api_Invoice)] : List (List api_Invoice)).map e_LeapiInvoice)))), (147, (i6 (([([r22.1] : List api_Invoice), ([r22.1, r35.1] : List api_Invoice), ([r22.1, m45] : List api_Invoice), a0, ([] : List api_Invoice)] : List (List api_Invoice)).length : Int))), (148, (i6 s47.1)), (173, (.d (.list 1 (([r21.2.2.1, (((r21.2.2.1.set r24.toNat r32.1).drop 0).take r21.2.2.1.length)] : List (List api_Series)).map e_LeapiSeries)))), (174, (i6 (([r21.2.2.1, (((r21.2.2.1.set r24.toNat r32.1).drop 0).take r21.2.2.1.length)] : List (List api_Series)).length : Int))), (175, (i6 s219.1))] : EL)) (fun s219 : Int × exchangepointmill_Deck => ([(1014, some (.box 24 (.d (e_api_Member r21.1)))), (1015, some (.box 27 (.d (e_api_Tariff r21.2.1)))), (100200, some (.box 72 (.d (e_exchangepointmill_Deck s219.2))))] : OL)) (fun (x : (Unit) ⊕ (exchangepointmill_Deck)) e E' O' => match x with | (.inl _p) => e = .ret ∧ Mat B E' O' ([(10, (bo false))] : EL) ([] : OL) | (.inr p263) => e = .exit 5 ∧ Mat B E' O' ([(13, (.ptr 100200 0 [])), (14, (.ptr 1014 0 [])), (15, (.ptr 1015 0 [])), (16, (qe_api_Series_4 r21.2.2.1)), (19, (qe_api_Series_4 (((r21.2.2.1.set r24.toNat r32.1).drop 0).take r21.2.2.1.length))), (146, (.d (.list 1 (([([r22.1] : List api_Invoice), ([r22.1, r35.1] : List api_Invoice), ([r22.1, m45] : List api_Invoice), a0, ([] : List api_Invoice)] : List (List api_Invoice)).map e_LeapiInvoice)))), (147, (i6 (([([r22.1] : List api_Invoice), ([r22.1, r35.1] : List api_Invoice), ([r22.1, m45] : List api_Invoice), a0, ([] : List api_Invoice)] : List (List api_Invoice)).length : Int))), (148, (i6 s47.1))] : EL) ([(1014, some (.box 24 (.d (e_api_Member r21.1)))), (1015, some (.box 27 (.d (e_api_Tariff r21.2.1)))), (100200, some (.box 72 (.d (e_exchangepointmill_Deck p263))))] : OL)) hx286 (mp [] _ _ hB) (fun s219 y h => ?_) (fun e E' O' hR => ?_)
                  · unfold exchangepointlaw41_InvoiceCorrects_L2 at h
                    refine sr (c (OpJ.lss (L rfl) (q 175) (q 174)) rfl cn) ?_
                    refine gh [(13, _), (14, _), (15, _), (16, _), (19, _), (25, _), (146, _), (147, _), (148, _), (173, _), (174, _), (175, _), (176, _)] [(1014, some _), (1015, some _), (100200, some _)] hB rfl rfl (by rfl) ?_
                    refine AWp.seq ?_
                    refine AWp.cond rfl (fun hg264 => ?_) (fun hg264 => ?_)
                    · replace h := ite_t hg264 h
                      refine AWp.skip ?_
                      refine seqQ_n ?_
                      refine AWp.seq ?_
                      refine AWp.block ?_
                      obtain ⟨x265, hx265, h⟩ := bindS h
                      refine sr (c (OpJ.indexD Try.underlying42 tyS25 (idx_some hx265).1 (get_map e_LeapiSeries (idx_some hx265).2) (L rfl) (q 173) (q 175)) rfl (c (OpJ.loadD tyS25 (by rfl) (by rfl) (L rfl) (q 177)) rfl (c (OpJ.assign (L rfl) (q 178)) rfl cn))) ?_
                      refine gh [(13, _), (14, _), (15, _), (16, _), (19, _), (25, _), (31, _), (146, _), (147, _), (148, _), (173, _), (174, _), (175, _)] [(1014, some _), (1015, some _), (100200, some _)] hB rfl rfl (by rfl) ?_
                      obtain ⟨r266, hr266, h⟩ := bindS h
                      refine sr (c (mv hN (q 25)) rfl (c (lb hN 24 _ _ tyS24 (At.here _) (q 14)) rfl (c (lb hN 27 _ _ tyS27 (At.here _) (q 15)) rfl (c (mv hN (q 31)) rfl (cg (OpJ.callFn hB fnOk21 (invoice_Correct_ac x211 r21.1 r21.2.1 x265 r266 hr266) [] (by kernel_rfl) (L rfl) (by kernel_rfl) (OpdL.cons (q 180) (OpdL.cons (q 181) (OpdL.cons (q 182) (OpdL.cons (q 183) OpdL.nil))))) rfl (c (mv hN (q 184)) rfl (c (OpJ.extract (by rfl) rfl (L rfl) (q 179)) rfl (c (OpJ.extract (by rfl) rfl (L rfl) (q 179)) rfl (cg (OpJ.alloc hB tyZ45 (nm := 1032) (by decide) (L rfl)) rfl (cg (OpJ.storeB tyS45 (SetAt.here _ _) (by rfl) (by rfl) (by simp) rfl (q 32) (q 185)) rfl (c (OpJ.assign (L rfl) (q 186)) rfl cn))))))))))) ?_
                      refine gh [(13, _), (14, _), (15, _), (16, _), (19, _), (25, _), (31, _), (32, _), (33, _), (146, _), (147, _), (148, _), (173, _), (174, _), (175, _)] [(1014, some _), (1015, some _), (1032, some _), (100200, some _)] hB rfl rfl (by rfl) ?_
                      obtain ⟨r267, hr267, h⟩ := bindS h
                      refine sr (c (mv hN (q 25)) rfl (c (lb hN 24 _ _ tyS24 (At.here _) (q 14)) rfl (c (lb hN 27 _ _ tyS27 (At.here _) (q 15)) rfl (c (mv hN (q 31)) rfl (cg (OpJ.callFn hB fnOk18 (exchangepointref41_Correct_ac x211 r21.1 r21.2.1 x265 r267 hr267) [] (by kernel_rfl) (L rfl) (by kernel_rfl) (OpdL.cons (q 188) (OpdL.cons (q 189) (OpdL.cons (q 190) (OpdL.cons (q 191) OpdL.nil))))) rfl (c (mv hN (q 192)) rfl (c (OpJ.extract (by rfl) rfl (L rfl) (q 187)) rfl (c (OpJ.extract (by rfl) rfl (L rfl) (q 187)) rfl (cg (OpJ.alloc hB tyZ45 (nm := 1034) (by decide) (L rfl)) rfl (cg (OpJ.storeB tyS45 (SetAt.here _ _) (by rfl) (by rfl) (by simp) rfl (q 34) (q 193)) rfl (c (OpJ.assign (L rfl) (q 194)) rfl cn))))))))))) ?_
                      refine gh [(13, _), (14, _), (15, _), (16, _), (19, _), (25, _), (31, _), (32, _), (33, _), (34, _), (35, _), (146, _), (147, _), (148, _), (173, _), (174, _), (175, _)] [(1014, some _), (1015, some _), (1032, some _), (1034, some _), (100200, some _)] hB rfl rfl (by rfl) ?_
                      refine AWp.seq ?_
                      refine AWp.seq ?_
                      refine AWp.cut h (fun m270 : Bool => ([(13, (.ptr 100200 0 [])), (14, (.ptr 1014 0 [])), (15, (.ptr 1015 0 [])), (16, (qe_api_Series_4 r21.2.2.1)), (19, (qe_api_Series_4 (((r21.2.2.1.set r24.toNat r32.1).drop 0).take r21.2.2.1.length))), (25, (qe_api_Invoice_5 x211)), (31, (qe_api_Series_4 x265)), (32, (.ptr 1032 0 [])), (146, (.d (.list 1 (([([r22.1] : List api_Invoice), ([r22.1, r35.1] : List api_Invoice), ([r22.1, m45] : List api_Invoice), a0, ([] : List api_Invoice)] : List (List api_Invoice)).map e_LeapiInvoice)))), (147, (i6 (([([r22.1] : List api_Invoice), ([r22.1, r35.1] : List api_Invoice), ([r22.1, m45] : List api_Invoice), a0, ([] : List api_Invoice)] : List (List api_Invoice)).length : Int))), (148, (i6 s47.1)), (173, (.d (.list 1 (([r21.2.2.1, (((r21.2.2.1.set r24.toNat r32.1).drop 0).take r21.2.2.1.length)] : List (List api_Series)).map e_LeapiSeries)))), (174, (i6 (([r21.2.2.1, (((r21.2.2.1.set r24.toNat r32.1).drop 0).take r21.2.2.1.length)] : List (List api_Series)).length : Int))), (175, (i6 s219.1)), (203, (bo m270))] : EL)) (fun m270 : Bool => ([(1014, some (.box 24 (.d (e_api_Member r21.1)))), (1015, some (.box 27 (.d (e_api_Tariff r21.2.1)))), (1032, some (.box 45 (.d (e_api_Invoice r266.1)))), (100200, some (.box 72 (.d (e_exchangepointmill_Deck s219.2))))] : OL)) (fun m270 h E' O' hmat => ?_) (fun j271 hjj271 h => ?_)
                      · refine seqQ_n ?_
                        refine AWp.ghost hmat ?_
                        refine AWp.cond rfl (fun hg272 => ?_) (fun hg272 => ?_)
                        · replace h := ite_t hg272 h
                          refine sr (c (OpJ.assign (L rfl) (Opd.bool false)) rfl cn) ?_
                          refine gh [(10, _)] [] hB rfl rfl (by rfl) ?_
                          refine AWp.ret ?_
                          refine seqQ_r ?_
                          refine blkQ_r ?_
                          refine seqQ_r ?_
                          obtain rfl := Option.some.inj h
                          exact ⟨(fun hc => by cases hc), rfl, (mp [] _ _ hB)⟩
                        · replace h := ite_f hg272 h
                          refine AWp.skip ?_
                          refine seqQ_n ?_
                          refine AWp.seq ?_
                          obtain ⟨r273, hr273, h⟩ := bindS h
                          obtain ⟨r274, hr274, h⟩ := bindS h
                          obtain ⟨r275, hr275, h⟩ := bindS h
                          refine AWp.draws (by kernel_rfl) (oc (mv hN (ot 25 (qe_api_Invoice_5 x211)))
                            (oc (mv hN (ot 13 (.ptr 100200 0 [])))
                            (oc (mv hN (ot 13 (.ptr 100200 0 [])))
                            (oc (OpJ.callFn hB fnOk17 (exchangepointmill_Deck_Next_ac s219.2 (2 : Int) r273 hr273) [(0, 100200)] (by kernel_rfl) (L rfl) (by kernel_rfl) (OpdL.cons (ot 207 (.ptr 100200 0 [])) (OpdL.cons (Opd.int .i64 (2)) OpdL.nil)))
                            (oc (add6 (L rfl) (Opd.int .i64 (101)) (ot 208 (i6 r273.1)))
                            (oc (OpJ.callFn hB fnOk22 (exchangepointmill_Deck_Member_ac r273.2 (w64 ((101 : Int) + r273.1)) r274 hr274) [(0, 100200)] (by kernel_rfl) (L rfl) (by kernel_rfl) (OpdL.cons (ot 206 (.ptr 100200 0 [])) (OpdL.cons (ot 209 (i6 (w64 ((101 : Int) + r273.1)))) OpdL.nil)))
                            (oc (lb hN 27 (.d (e_api_Tariff r21.2.1)) (.d (e_api_Tariff r21.2.1)) tyS27 (At.here _) (ot 15 (.ptr 1015 0 [])))
                            (oc (mv hN (ot 31 (qe_api_Series_4 x265)))
                            (oc (OpJ.callFn hB fnOk21 (invoice_Correct_ac x211 r274.1 r21.2.1 x265 r275 hr275) [] (by kernel_rfl) (L rfl) (by kernel_rfl) (OpdL.cons (ot 205 (qe_api_Invoice_5 x211)) (OpdL.cons (ot 210 (.d (e_api_Member r274.1))) (OpdL.cons (ot 211 (.d (e_api_Tariff r21.2.1))) (OpdL.cons (ot 212 (qe_api_Series_4 x265)) OpdL.nil)))))
                            (oc (mv hN (ot 213 (.tup [(.d (e_api_Invoice r275.1)), (i6 r275.2)])))
                            (oc (OpJ.extract (v := (.d (e_api_Invoice r275.1))) (by rfl) rfl (L rfl) (ot 204 (.tup [(.d (e_api_Invoice r275.1)), (i6 r275.2)])))
                            (oc (OpJ.extract (v := (i6 r275.2)) (by rfl) rfl (L rfl) (ot 204 (.tup [(.d (e_api_Invoice r275.1)), (i6 r275.2)])))
                            (oc (OpJ.storeB (bt := 45) (c := (.d (e_api_Invoice r266.1))) (v := (.d (e_api_Invoice r275.1))) (c' := (.d (e_api_Invoice r275.1))) tyS45 (SetAt.here _ _) (by rfl) (by rfl) (by simp) rfl (ot 32 (.ptr 1032 0 [])) (ot 214 (.d (e_api_Invoice r275.1))))
                            (oc (OpJ.assign (L rfl) (ot 215 (i6 r275.2)))
                            (OpJs.nil))))))))))))))) (by kernel_rfl) (by rfl) (by rfl) ?_
                          refine seqQ_n ?_
                          refine AWp.ghost (mp [] [(13, (.ptr 100200 0 [])), (14, (.ptr 1014 0 [])), (15, (.ptr 1015 0 [])), (16, (qe_api_Series_4 r21.2.2.1)), (19, (qe_api_Series_4 (((r21.2.2.1.set r24.toNat r32.1).drop 0).take r21.2.2.1.length))), (25, (qe_api_Invoice_5 x211)), (32, (.ptr 1032 0 [])), (33, (i6 r275.2)), (146, (.d (.list 1 (([([r22.1] : List api_Invoice), ([r22.1, r35.1] : List api_Invoice), ([r22.1, m45] : List api_Invoice), a0, ([] : List api_Invoice)] : List (List api_Invoice)).map e_LeapiInvoice)))), (147, (i6 (([([r22.1] : List api_Invoice), ([r22.1, r35.1] : List api_Invoice), ([r22.1, m45] : List api_Invoice), a0, ([] : List api_Invoice)] : List (List api_Invoice)).length : Int))), (148, (i6 s47.1)), (173, (.d (.list 1 (([r21.2.2.1, (((r21.2.2.1.set r24.toNat r32.1).drop 0).take r21.2.2.1.length)] : List (List api_Series)).map e_LeapiSeries)))), (174, (i6 (([r21.2.2.1, (((r21.2.2.1.set r24.toNat r32.1).drop 0).take r21.2.2.1.length)] : List (List api_Series)).length : Int))), (175, (i6 s219.1))] [(1014, some (.box 24 (.d (e_api_Member r21.1)))), (1015, some (.box 27 (.d (e_api_Tariff r21.2.1)))), (1032, some (.box 45 (.d (e_api_Invoice r275.1)))), (100200, some (.box 72 (.d (e_exchangepointmill_Deck r274.2))))] hB) ?_
                          refine AWp.seq ?_
                          refine AWp.cut h (fun m278 : Bool => ([(13, (.ptr 100200 0 [])), (14, (.ptr 1014 0 [])), (15, (.ptr 1015 0 [])), (16, (qe_api_Series_4 r21.2.2.1)), (19, (qe_api_Series_4 (((r21.2.2.1.set r24.toNat r32.1).drop 0).take r21.2.2.1.length))), (25, (qe_api_Invoice_5 x211)), (146, (.d (.list 1 (([([r22.1] : List api_Invoice), ([r22.1, r35.1] : List api_Invoice), ([r22.1, m45] : List api_Invoice), a0, ([] : List api_Invoice)] : List (List api_Invoice)).map e_LeapiInvoice)))), (147, (i6 (([([r22.1] : List api_Invoice), ([r22.1, r35.1] : List api_Invoice), ([r22.1, m45] : List api_Invoice), a0, ([] : List api_Invoice)] : List (List api_Invoice)).length : Int))), (148, (i6 s47.1)), (173, (.d (.list 1 (([r21.2.2.1, (((r21.2.2.1.set r24.toNat r32.1).drop 0).take r21.2.2.1.length)] : List (List api_Series)).map e_LeapiSeries)))), (174, (i6 (([r21.2.2.1, (((r21.2.2.1.set r24.toNat r32.1).drop 0).take r21.2.2.1.length)] : List (List api_Series)).length : Int))), (175, (i6 s219.1)), (222, (bo m278))] : EL)) (fun m278 : Bool => ([(1014, some (.box 24 (.d (e_api_Member r21.1)))), (1015, some (.box 27 (.d (e_api_Tariff r21.2.1)))), (100200, some (.box 72 (.d (e_exchangepointmill_Deck r274.2))))] : OL)) (fun m278 h E' O' hmat => ?_) (fun j279 hjj279 h => ?_)
                          · refine seqQ_n ?_
                            refine AWp.ghost hmat ?_
                            refine AWp.cond rfl (fun hg280 => ?_) (fun hg280 => ?_)
                            · replace h := ite_t hg280 h
                              refine sr (c (OpJ.assign (L rfl) (Opd.bool false)) rfl cn) ?_
                              refine gh [(10, _)] [] hB rfl rfl (by rfl) ?_
                              refine AWp.ret ?_
                              refine blkQ_r ?_
                              refine seqQ_r ?_
                              obtain rfl := Option.some.inj h
                              exact ⟨(fun hc => by cases hc), rfl, (mp [] _ _ hB)⟩
                            · replace h := ite_f hg280 h
                              refine AWp.skip ?_
                              refine blkQ_n ?_
                              refine seqQ_n ?_
                              refine rg (c (add6 (L rfl) (q 175) (Opd.int .i64 (1))) rfl (c (mv hN (q 223)) rfl cn)) ?_
                              obtain rfl := Option.some.inj h
                              exact ⟨rfl, (Mat.trans (mp [] [(13, (.ptr 100200 0 [])), (14, (.ptr 1014 0 [])), (15, (.ptr 1015 0 [])), (16, (qe_api_Series_4 r21.2.2.1)), (19, (qe_api_Series_4 (((r21.2.2.1.set r24.toNat r32.1).drop 0).take r21.2.2.1.length))), (25, (qe_api_Invoice_5 x211)), (146, (.d (.list 1 (([([r22.1] : List api_Invoice), ([r22.1, r35.1] : List api_Invoice), ([r22.1, m45] : List api_Invoice), a0, ([] : List api_Invoice)] : List (List api_Invoice)).map e_LeapiInvoice)))), (147, (i6 (([([r22.1] : List api_Invoice), ([r22.1, r35.1] : List api_Invoice), ([r22.1, m45] : List api_Invoice), a0, ([] : List api_Invoice)] : List (List api_Invoice)).length : Int))), (148, (i6 s47.1)), (173, (.d (.list 1 (([r21.2.2.1, (((r21.2.2.1.set r24.toNat r32.1).drop 0).take r21.2.2.1.length)] : List (List api_Series)).map e_LeapiSeries)))), (174, (i6 (([r21.2.2.1, (((r21.2.2.1.set r24.toNat r32.1).drop 0).take r21.2.2.1.length)] : List (List api_Series)).length : Int))), (175, (i6 (w64 (s219.1 + (1 : Int)))))] [(1014, some (.box 24 (.d (e_api_Member r21.1)))), (1015, some (.box 27 (.d (e_api_Tariff r21.2.1)))), (100200, some (.box 72 (.d (e_exchangepointmill_Deck r274.2))))] hB) (mp [] _ _ hB))⟩
                          · rcases Bool.eq_false_or_eq_true (r275.2 == (0 : Int)) with hg281 | hg281
                            · replace h := ite_t hg281 h
                              obtain ⟨r282, hr282, h⟩ := bindS h
                              refine rg (c (mv hN (q 33)) rfl (c (OpJ.eqlI (L rfl) (q 216) (Opd.int .i64 (0))) rfl (c (OpJ.val (v' := .d (.bool true)) (by rw [hg281]) (mv hN (q 217))) rfl (c (OpJ.guarded (g := 218) (by rfl) (lb hN 45 _ _ tyS45 (At.here _) (q 32))) rfl (cg (OpJ.guarded (g := 218) (by rfl) (OpJ.callFn hB fnOk23 (exchangepointref41_Consistent_ac r275.1 r282 hr282) [] (by kernel_rfl) (L rfl) (by kernel_rfl) (OpdL.cons (q 219) OpdL.nil))) rfl (c (OpJ.guarded (g := 218) (by rfl) (OpJ.not (L rfl) (q 220))) rfl (c (OpJ.pickT (L rfl) (q 218) (q 221)) rfl cn))))))) ?_
                              exact hjj279 _ h _ _ (Mat.trans (mp [] [(13, (.ptr 100200 0 [])), (14, (.ptr 1014 0 [])), (15, (.ptr 1015 0 [])), (16, (qe_api_Series_4 r21.2.2.1)), (19, (qe_api_Series_4 (((r21.2.2.1.set r24.toNat r32.1).drop 0).take r21.2.2.1.length))), (25, (qe_api_Invoice_5 x211)), (146, (.d (.list 1 (([([r22.1] : List api_Invoice), ([r22.1, r35.1] : List api_Invoice), ([r22.1, m45] : List api_Invoice), a0, ([] : List api_Invoice)] : List (List api_Invoice)).map e_LeapiInvoice)))), (147, (i6 (([([r22.1] : List api_Invoice), ([r22.1, r35.1] : List api_Invoice), ([r22.1, m45] : List api_Invoice), a0, ([] : List api_Invoice)] : List (List api_Invoice)).length : Int))), (148, (i6 s47.1)), (173, (.d (.list 1 (([r21.2.2.1, (((r21.2.2.1.set r24.toNat r32.1).drop 0).take r21.2.2.1.length)] : List (List api_Series)).map e_LeapiSeries)))), (174, (i6 (([r21.2.2.1, (((r21.2.2.1.set r24.toNat r32.1).drop 0).take r21.2.2.1.length)] : List (List api_Series)).length : Int))), (175, (i6 s219.1)), (222, (bo (!r282)))] [(1014, some (.box 24 (.d (e_api_Member r21.1)))), (1015, some (.box 27 (.d (e_api_Tariff r21.2.1)))), (100200, some (.box 72 (.d (e_exchangepointmill_Deck r274.2))))] hB) (mp [] _ _ hB))
                            · replace h := ite_f hg281 h
                              refine rg (c (mv hN (q 33)) rfl (c (OpJ.eqlI (L rfl) (q 216) (Opd.int .i64 (0))) rfl (c (OpJ.val (v' := .d (.bool false)) (by rw [hg281]) (mv hN (q 217))) rfl (cg (OpJ.skipU (g := 218) (L rfl) (by rfl)) rfl (cg (OpJ.skipU (g := 218) (L rfl) (by rfl)) rfl (cg (OpJ.skipU (g := 218) (L rfl) (by rfl)) rfl (c (OpJ.pickF (L rfl) (q 218) (Opd.bool false)) rfl cn))))))) ?_
                              exact hjj279 _ h _ _ (Mat.trans (mp [] [(13, (.ptr 100200 0 [])), (14, (.ptr 1014 0 [])), (15, (.ptr 1015 0 [])), (16, (qe_api_Series_4 r21.2.2.1)), (19, (qe_api_Series_4 (((r21.2.2.1.set r24.toNat r32.1).drop 0).take r21.2.2.1.length))), (25, (qe_api_Invoice_5 x211)), (146, (.d (.list 1 (([([r22.1] : List api_Invoice), ([r22.1, r35.1] : List api_Invoice), ([r22.1, m45] : List api_Invoice), a0, ([] : List api_Invoice)] : List (List api_Invoice)).map e_LeapiInvoice)))), (147, (i6 (([([r22.1] : List api_Invoice), ([r22.1, r35.1] : List api_Invoice), ([r22.1, m45] : List api_Invoice), a0, ([] : List api_Invoice)] : List (List api_Invoice)).length : Int))), (148, (i6 s47.1)), (173, (.d (.list 1 (([r21.2.2.1, (((r21.2.2.1.set r24.toNat r32.1).drop 0).take r21.2.2.1.length)] : List (List api_Series)).map e_LeapiSeries)))), (174, (i6 (([r21.2.2.1, (((r21.2.2.1.set r24.toNat r32.1).drop 0).take r21.2.2.1.length)] : List (List api_Series)).length : Int))), (175, (i6 s219.1)), (222, (bo false))] [(1014, some (.box 24 (.d (e_api_Member r21.1)))), (1015, some (.box 27 (.d (e_api_Tariff r21.2.1)))), (100200, some (.box 72 (.d (e_exchangepointmill_Deck r274.2))))] hB) (mp [] _ _ hB))
                      · rcases Bool.eq_false_or_eq_true (r266.2 != r267.2) with hg283 | hg283
                        · replace h := ite_t hg283 h
                          refine rg (c (mv hN (q 33)) rfl (c (mv hN (q 35)) rfl (c (OpJ.neqI (L rfl) (q 195) (q 196)) rfl (c (OpJ.val (v' := .d (.bool true)) (by rw [hg283]) (mv hN (q 197))) rfl (cg (OpJ.skipU (g := 198) (L rfl) (by rfl)) rfl (cg (OpJ.skipU (g := 198) (L rfl) (by rfl)) rfl (cg (OpJ.skipU (g := 198) (L rfl) (by rfl)) rfl (cg (OpJ.skipU (g := 198) (L rfl) (by rfl)) rfl (c (OpJ.pickT (L rfl) (q 198) (Opd.bool true)) rfl cn))))))))) ?_
                          exact hjj271 _ h _ _ (Mat.trans (mp [] [(13, (.ptr 100200 0 [])), (14, (.ptr 1014 0 [])), (15, (.ptr 1015 0 [])), (16, (qe_api_Series_4 r21.2.2.1)), (19, (qe_api_Series_4 (((r21.2.2.1.set r24.toNat r32.1).drop 0).take r21.2.2.1.length))), (25, (qe_api_Invoice_5 x211)), (31, (qe_api_Series_4 x265)), (32, (.ptr 1032 0 [])), (146, (.d (.list 1 (([([r22.1] : List api_Invoice), ([r22.1, r35.1] : List api_Invoice), ([r22.1, m45] : List api_Invoice), a0, ([] : List api_Invoice)] : List (List api_Invoice)).map e_LeapiInvoice)))), (147, (i6 (([([r22.1] : List api_Invoice), ([r22.1, r35.1] : List api_Invoice), ([r22.1, m45] : List api_Invoice), a0, ([] : List api_Invoice)] : List (List api_Invoice)).length : Int))), (148, (i6 s47.1)), (173, (.d (.list 1 (([r21.2.2.1, (((r21.2.2.1.set r24.toNat r32.1).drop 0).take r21.2.2.1.length)] : List (List api_Series)).map e_LeapiSeries)))), (174, (i6 (([r21.2.2.1, (((r21.2.2.1.set r24.toNat r32.1).drop 0).take r21.2.2.1.length)] : List (List api_Series)).length : Int))), (175, (i6 s219.1)), (203, (bo true))] [(1014, some (.box 24 (.d (e_api_Member r21.1)))), (1015, some (.box 27 (.d (e_api_Tariff r21.2.1)))), (1032, some (.box 45 (.d (e_api_Invoice r266.1)))), (100200, some (.box 72 (.d (e_exchangepointmill_Deck s219.2))))] hB) (mp [] _ _ hB))
                        · replace h := ite_f hg283 h
                          obtain ⟨r284, hr284, h⟩ := bindS h
                          refine rg (c (mv hN (q 33)) rfl (c (mv hN (q 35)) rfl (c (OpJ.neqI (L rfl) (q 195) (q 196)) rfl (c (OpJ.val (v' := .d (.bool false)) (by rw [hg283]) (mv hN (q 197))) rfl (c (OpJ.guarded (g := 198) (by rfl) (lb hN 45 _ _ tyS45 (At.here _) (q 32))) rfl (c (OpJ.guarded (g := 198) (by rfl) (lb hN 45 _ _ tyS45 (At.here _) (q 34))) rfl (cg (OpJ.guarded (g := 198) (by rfl) (OpJ.callFn hB fnOk15 (exchangepointref41_Same_ac r266.1 r267.1 r284 hr284) [] (by kernel_rfl) (L rfl) (by kernel_rfl) (OpdL.cons (q 199) (OpdL.cons (q 200) OpdL.nil)))) rfl (c (OpJ.guarded (g := 198) (by rfl) (OpJ.not (L rfl) (q 201))) rfl (c (OpJ.pickF (L rfl) (q 198) (q 202)) rfl cn))))))))) ?_
                          exact hjj271 _ h _ _ (Mat.trans (mp [] [(13, (.ptr 100200 0 [])), (14, (.ptr 1014 0 [])), (15, (.ptr 1015 0 [])), (16, (qe_api_Series_4 r21.2.2.1)), (19, (qe_api_Series_4 (((r21.2.2.1.set r24.toNat r32.1).drop 0).take r21.2.2.1.length))), (25, (qe_api_Invoice_5 x211)), (31, (qe_api_Series_4 x265)), (32, (.ptr 1032 0 [])), (146, (.d (.list 1 (([([r22.1] : List api_Invoice), ([r22.1, r35.1] : List api_Invoice), ([r22.1, m45] : List api_Invoice), a0, ([] : List api_Invoice)] : List (List api_Invoice)).map e_LeapiInvoice)))), (147, (i6 (([([r22.1] : List api_Invoice), ([r22.1, r35.1] : List api_Invoice), ([r22.1, m45] : List api_Invoice), a0, ([] : List api_Invoice)] : List (List api_Invoice)).length : Int))), (148, (i6 s47.1)), (173, (.d (.list 1 (([r21.2.2.1, (((r21.2.2.1.set r24.toNat r32.1).drop 0).take r21.2.2.1.length)] : List (List api_Series)).map e_LeapiSeries)))), (174, (i6 (([r21.2.2.1, (((r21.2.2.1.set r24.toNat r32.1).drop 0).take r21.2.2.1.length)] : List (List api_Series)).length : Int))), (175, (i6 s219.1)), (203, (bo (!r284)))] [(1014, some (.box 24 (.d (e_api_Member r21.1)))), (1015, some (.box 27 (.d (e_api_Tariff r21.2.1)))), (1032, some (.box 45 (.d (e_api_Invoice r266.1)))), (100200, some (.box 72 (.d (e_exchangepointmill_Deck s219.2))))] hB) (mp [] _ _ hB))
                    · replace h := ite_f hg264 h
                      refine AWp.exit ?_
                      refine seqQ_e ?_
                      obtain rfl := Option.some.inj h
                      exact ⟨(fun hc => by cases hc), rfl, (mp [] _ _ hB)⟩
                  · rcases x285 with _ | p263
                    · obtain ⟨rfl, hmat⟩ := hR
                      refine blkQ_r ?_
                      refine blkQ_r ?_
                      refine seqQ_r ?_
                      obtain rfl := Option.some.inj h
                      exact ⟨(fun hc => by cases hc), rfl, (Mat.trans hmat (mp [] _ _ hB))⟩
                    · obtain ⟨rfl, hmat⟩ := hR
                      refine blkQ_hit ?_
                      refine blkQ_n ?_
                      refine seqQ_n ?_
                      refine AWp.ghost hmat ?_
                      refine rg (c (add6 (L rfl) (q 148) (Opd.int .i64 (1))) rfl (c (mv hN (q 224)) rfl cn)) ?_
                      obtain rfl := Option.some.inj h
                      exact ⟨rfl, (Mat.trans (mp [] [(13, (.ptr 100200 0 [])), (14, (.ptr 1014 0 [])), (15, (.ptr 1015 0 [])), (16, (qe_api_Series_4 r21.2.2.1)), (19, (qe_api_Series_4 (((r21.2.2.1.set r24.toNat r32.1).drop 0).take r21.2.2.1.length))), (146, (.d (.list 1 (([([r22.1] : List api_Invoice), ([r22.1, r35.1] : List api_Invoice), ([r22.1, m45] : List api_Invoice), a0, ([] : List api_Invoice)] : List (List api_Invoice)).map e_LeapiInvoice)))), (147, (i6 (([([r22.1] : List api_Invoice), ([r22.1, r35.1] : List api_Invoice), ([r22.1, m45] : List api_Invoice), a0, ([] : List api_Invoice)] : List (List api_Invoice)).length : Int))), (148, (i6 (w64 (s47.1 + (1 : Int)))))] [(1014, some (.box 24 (.d (e_api_Member r21.1)))), (1015, some (.box 27 (.d (e_api_Tariff r21.2.1)))), (100200, some (.box 72 (.d (e_exchangepointmill_Deck p263))))] hB) (mp [] _ _ hB))⟩
              · rcases Bool.eq_false_or_eq_true (r212.2 != r213.2) with hg287 | hg287
                · replace h := ite_t hg287 h
                  refine rg (c (mv hN (q 27)) rfl (c (mv hN (q 29)) rfl (c (OpJ.neqI (L rfl) (q 162) (q 163)) rfl (c (OpJ.val (v' := .d (.bool true)) (by rw [hg287]) (mv hN (q 164))) rfl (cg (OpJ.skipU (g := 165) (L rfl) (by rfl)) rfl (cg (OpJ.skipU (g := 165) (L rfl) (by rfl)) rfl (cg (OpJ.skipU (g := 165) (L rfl) (by rfl)) rfl (cg (OpJ.skipU (g := 165) (L rfl) (by rfl)) rfl (c (OpJ.pickT (L rfl) (q 165) (Opd.bool true)) rfl cn))))))))) ?_
                  exact hjj217 _ h _ _ (Mat.trans (mp [] [(13, (.ptr 100200 0 [])), (14, (.ptr 1014 0 [])), (15, (.ptr 1015 0 [])), (16, (qe_api_Series_4 r21.2.2.1)), (19, (qe_api_Series_4 (((r21.2.2.1.set r24.toNat r32.1).drop 0).take r21.2.2.1.length))), (25, (qe_api_Invoice_5 x211)), (146, (.d (.list 1 (([([r22.1] : List api_Invoice), ([r22.1, r35.1] : List api_Invoice), ([r22.1, m45] : List api_Invoice), a0, ([] : List api_Invoice)] : List (List api_Invoice)).map e_LeapiInvoice)))), (147, (i6 (([([r22.1] : List api_Invoice), ([r22.1, r35.1] : List api_Invoice), ([r22.1, m45] : List api_Invoice), a0, ([] : List api_Invoice)] : List (List api_Invoice)).length : Int))), (148, (i6 s47.1)), (170, (bo true))] [(1014, some (.box 24 (.d (e_api_Member r21.1)))), (1015, some (.box 27 (.d (e_api_Tariff r21.2.1)))), (100200, some (.box 72 (.d (e_exchangepointmill_Deck s47.2))))] hB) (mp [] _ _ hB))
                · replace h := ite_f hg287 h
                  obtain ⟨r288, hr288, h⟩ := bindS h
                  refine rg (c (mv hN (q 27)) rfl (c (mv hN (q 29)) rfl (c (OpJ.neqI (L rfl) (q 162) (q 163)) rfl (c (OpJ.val (v' := .d (.bool false)) (by rw [hg287]) (mv hN (q 164))) rfl (c (OpJ.guarded (g := 165) (by rfl) (lb hN 45 _ _ tyS45 (At.here _) (q 26))) rfl (c (OpJ.guarded (g := 165) (by rfl) (lb hN 45 _ _ tyS45 (At.here _) (q 28))) rfl (cg (OpJ.guarded (g := 165) (by rfl) (OpJ.callFn hB fnOk15 (exchangepointref41_Same_ac r212.1 r213.1 r288 hr288) [] (by kernel_rfl) (L rfl) (by kernel_rfl) (OpdL.cons (q 166) (OpdL.cons (q 167) OpdL.nil)))) rfl (c (OpJ.guarded (g := 165) (by rfl) (OpJ.not (L rfl) (q 168))) rfl (c (OpJ.pickF (L rfl) (q 165) (q 169)) rfl cn))))))))) ?_
                  exact hjj217 _ h _ _ (Mat.trans (mp [] [(13, (.ptr 100200 0 [])), (14, (.ptr 1014 0 [])), (15, (.ptr 1015 0 [])), (16, (qe_api_Series_4 r21.2.2.1)), (19, (qe_api_Series_4 (((r21.2.2.1.set r24.toNat r32.1).drop 0).take r21.2.2.1.length))), (25, (qe_api_Invoice_5 x211)), (146, (.d (.list 1 (([([r22.1] : List api_Invoice), ([r22.1, r35.1] : List api_Invoice), ([r22.1, m45] : List api_Invoice), a0, ([] : List api_Invoice)] : List (List api_Invoice)).map e_LeapiInvoice)))), (147, (i6 (([([r22.1] : List api_Invoice), ([r22.1, r35.1] : List api_Invoice), ([r22.1, m45] : List api_Invoice), a0, ([] : List api_Invoice)] : List (List api_Invoice)).length : Int))), (148, (i6 s47.1)), (170, (bo (!r288)))] [(1014, some (.box 24 (.d (e_api_Member r21.1)))), (1015, some (.box 27 (.d (e_api_Tariff r21.2.1)))), (100200, some (.box 72 (.d (e_exchangepointmill_Deck s47.2))))] hB) (mp [] _ _ hB))
            · replace h := ite_f hg210 h
              refine AWp.exit ?_
              refine seqQ_e ?_
              obtain rfl := Option.some.inj h
              exact ⟨(fun hc => by cases hc), rfl, (mp [] _ _ hB)⟩
          · rcases x289 with _ | _
            · obtain ⟨rfl, hmat⟩ := hR
              refine blkQ_r ?_
              refine seqQ_r ?_
              obtain rfl := Option.some.inj h
              exact ⟨.inl rfl, _, _, (Mat.trans hmat (mp [] [(10, (bo false))] [] hB)), [(bo false)], (Res.tmp (by rfl) (by rfl) Res.nil), rfl, by rfl, by rfl, by rfl⟩
            · obtain ⟨rfl, hmat⟩ := hR
              refine blkQ_hit ?_
              refine seqQ_n ?_
              refine AWp.ghost hmat ?_
              obtain ⟨r291, hr291, h⟩ := bindS h
              refine sr (cg (OpJ.callFn hB fnOk7 (exchangepointlaw41_awake_ac r291 hr291) [] (by kernel_rfl) (L rfl) (by kernel_rfl) OpdL.nil) rfl (c (OpJ.assign (L rfl) (q 225)) rfl cn)) ?_
              refine gh [(10, _)] [] hB rfl rfl (by rfl) ?_
              refine AWp.ret ?_
              obtain rfl := Option.some.inj h
              exact ⟨.inl rfl, _, _, (kp [(10, _)] [] hB rfl rfl (by rfl)), [(bo r291)], (Res.tmp (by rfl) (by rfl) Res.nil), rfl, by rfl, by rfl, by rfl⟩
        · refine AWp.cond rfl (fun hg292 => ?_) (fun hg292 => ?_)
          · replace h := ite_t hg292 h
            obtain ⟨r293, hr293, h⟩ := bindS h
            refine rg (c (mv hN (q 4)) rfl (cg (OpJ.callFn hB fnOk10 (exchangepointmill_Mod_ac a4 (4 : Int) r293 hr293) [] (by kernel_rfl) (L rfl) (by kernel_rfl) (OpdL.cons (q 111) (OpdL.cons (Opd.int .i64 (4)) OpdL.nil))) rfl (c (ov (.ptr 1023 2 [2]) (fp hN Try.underlying45 2 tyS3 _ (q 23))) rfl (cg (OpJ.storeB tyS3 (SetAt.dst1 (by rfl) (by rfl) (SetAt.here _ _) (by rfl) (by rfl) (by first | rfl | omega)) (by rfl) (by rfl) (by simp) rfl (q 113) (q 112)) rfl cn)))) ?_
            exact hjj46 _ h _ _ (Mat.trans (mp [] [(0, (qe_api_Invoice_5 a0)), (13, (.ptr 100200 0 [])), (14, (.ptr 1014 0 [])), (15, (.ptr 1015 0 [])), (16, (qe_api_Series_4 r21.2.2.1)), (17, (.ptr 1017 0 [])), (19, (qe_api_Series_4 (((r21.2.2.1.set r24.toNat r32.1).drop 0).take r21.2.2.1.length))), (21, (.ptr 1021 0 [])), (23, (.ptr 1023 0 []))] [(1014, some (.box 24 (.d (e_api_Member r21.1)))), (1015, some (.box 27 (.d (e_api_Tariff r21.2.1)))), (1017, some (.box 45 (.d (e_api_Invoice r22.1)))), (1021, some (.box 45 (.d (e_api_Invoice r35.1)))), (1023, some (.box 45 (.d (.st [(.int .i64 r35.1.fMember), (.int .i64 r35.1.fMonth), (.int .i64 r293), (.list 3 (r35.1.fLines.map e_api_Line)), (.int .i64 r35.1.fTotal)])))), (100200, some (.box 72 (.d (e_exchangepointmill_Deck r31.2))))] hB) (mp [] _ _ hB))
          · replace h := ite_f hg292 h
            refine sr (c (OpJ.eqlI (L rfl) (q 108) (Opd.int .i64 (1))) rfl (c (OpJ.assign (L rfl) (q 115)) rfl cn)) ?_
            refine gh [(0, _), (4, _), (13, _), (14, _), (15, _), (16, _), (17, _), (19, _), (21, _), (23, _), (108, _), (114, _)] [(1014, some _), (1015, some _), (1017, some _), (1021, some _), (1023, some _), (100200, some _)] hB rfl rfl (by rfl) ?_
            refine AWp.cond rfl (fun hg294 => ?_) (fun hg294 => ?_)
            · replace h := ite_t hg294 h
              refine rg (c (ov (.ptr 1023 4 [4]) (fp hN Try.underlying45 4 tyS3 _ (q 23))) rfl (c (lb hN 45 _ _ tyS3 (ad _) (q 116)) rfl (c (add6 (L rfl) (q 117) (Opd.int .i64 (1))) rfl (c (ov (.ptr 1023 4 [4]) (fp hN Try.underlying45 4 tyS3 _ (q 23))) rfl (cg (OpJ.storeB tyS3 (SetAt.dst1 (by rfl) (by rfl) (SetAt.here _ _) (by rfl) (by rfl) (by first | rfl | omega)) (by rfl) (by rfl) (by simp) rfl (q 119) (q 118)) rfl cn))))) ?_
              exact hjj46 _ h _ _ (Mat.trans (mp [] [(0, (qe_api_Invoice_5 a0)), (13, (.ptr 100200 0 [])), (14, (.ptr 1014 0 [])), (15, (.ptr 1015 0 [])), (16, (qe_api_Series_4 r21.2.2.1)), (17, (.ptr 1017 0 [])), (19, (qe_api_Series_4 (((r21.2.2.1.set r24.toNat r32.1).drop 0).take r21.2.2.1.length))), (21, (.ptr 1021 0 [])), (23, (.ptr 1023 0 []))] [(1014, some (.box 24 (.d (e_api_Member r21.1)))), (1015, some (.box 27 (.d (e_api_Tariff r21.2.1)))), (1017, some (.box 45 (.d (e_api_Invoice r22.1)))), (1021, some (.box 45 (.d (e_api_Invoice r35.1)))), (1023, some (.box 45 (.d (.st [(.int .i64 r35.1.fMember), (.int .i64 r35.1.fMonth), (.int .i64 r35.1.fVersion), (.list 3 (r35.1.fLines.map e_api_Line)), (.int .i64 (w64 (r35.1.fTotal + (1 : Int))))])))), (100200, some (.box 72 (.d (e_exchangepointmill_Deck r31.2))))] hB) (mp [] _ _ hB))
            · replace h := ite_f hg294 h
              refine sr (c (OpJ.eqlI (L rfl) (q 108) (Opd.int .i64 (2))) rfl (c (OpJ.assign (L rfl) (q 121)) rfl cn)) ?_
              refine gh [(0, _), (4, _), (13, _), (14, _), (15, _), (16, _), (17, _), (19, _), (21, _), (23, _), (108, _), (120, _)] [(1014, some _), (1015, some _), (1017, some _), (1021, some _), (1023, some _), (100200, some _)] hB rfl rfl (by rfl) ?_
              refine AWp.cond rfl (fun hg295 => ?_) (fun hg295 => ?_)
              · replace h := ite_t hg295 h
                refine rg (c (ov (.ptr 1023 1 [1]) (fp hN Try.underlying45 1 tyS3 _ (q 23))) rfl (c (lb hN 45 _ _ tyS3 (ad _) (q 122)) rfl (c (add6 (L rfl) (q 123) (Opd.int .i64 (1))) rfl (c (ov (.ptr 1023 1 [1]) (fp hN Try.underlying45 1 tyS3 _ (q 23))) rfl (cg (OpJ.storeB tyS3 (SetAt.dst1 (by rfl) (by rfl) (SetAt.here _ _) (by rfl) (by rfl) (by first | rfl | omega)) (by rfl) (by rfl) (by simp) rfl (q 125) (q 124)) rfl cn))))) ?_
                exact hjj46 _ h _ _ (Mat.trans (mp [] [(0, (qe_api_Invoice_5 a0)), (13, (.ptr 100200 0 [])), (14, (.ptr 1014 0 [])), (15, (.ptr 1015 0 [])), (16, (qe_api_Series_4 r21.2.2.1)), (17, (.ptr 1017 0 [])), (19, (qe_api_Series_4 (((r21.2.2.1.set r24.toNat r32.1).drop 0).take r21.2.2.1.length))), (21, (.ptr 1021 0 [])), (23, (.ptr 1023 0 []))] [(1014, some (.box 24 (.d (e_api_Member r21.1)))), (1015, some (.box 27 (.d (e_api_Tariff r21.2.1)))), (1017, some (.box 45 (.d (e_api_Invoice r22.1)))), (1021, some (.box 45 (.d (e_api_Invoice r35.1)))), (1023, some (.box 45 (.d (.st [(.int .i64 r35.1.fMember), (.int .i64 (w64 (r35.1.fMonth + (1 : Int)))), (.int .i64 r35.1.fVersion), (.list 3 (r35.1.fLines.map e_api_Line)), (.int .i64 r35.1.fTotal)])))), (100200, some (.box 72 (.d (e_exchangepointmill_Deck r31.2))))] hB) (mp [] _ _ hB))
              · replace h := ite_f hg295 h
                refine sr (c (OpJ.eqlI (L rfl) (q 108) (Opd.int .i64 (3))) rfl (c (OpJ.assign (L rfl) (q 127)) rfl cn)) ?_
                refine gh [(0, _), (4, _), (13, _), (14, _), (15, _), (16, _), (17, _), (19, _), (21, _), (23, _), (126, _)] [(1014, some _), (1015, some _), (1017, some _), (1021, some _), (1023, some _), (100200, some _)] hB rfl rfl (by rfl) ?_
                refine AWp.cond rfl (fun hg296 => ?_) (fun hg296 => ?_)
                · replace h := ite_t hg296 h
                  obtain ⟨hc297, h⟩ := chk_some h
                  obtain ⟨r298, hr298, h⟩ := bindS h
                  obtain ⟨hc299, h⟩ := chk_some h
                  refine rg (c (ov (.ptr 1021 3 [3]) (fp hN Try.underlying45 3 tyS43 _ (q 21))) rfl (c (lb hN 45 _ _ tyS43 (ad _) (q 128)) rfl (cg (OpJ.appendN hB Try.underlying43 tyE51 (nm := 1130) (by decide) (ys := r35.1.fLines.map e_api_Line) (len := r35.1.fLines.length) (by simp) (map_sz (f := e_api_Line) (fun _ => rfl)) (by rw [List.length_map]; exact lim_mulN hc297 (by decide)) (by rw [List.length_map]; exact lim_leN hc297) (L rfl) Opd.nils (q 129)) rfl (c (mv hN (q 4)) rfl (cg (OpJ.callFn hB fnOk10 (exchangepointmill_Mod_ac a4 (12 : Int) r298 hr298) [] (by kernel_rfl) (L rfl) (by kernel_rfl) (OpdL.cons (q 131) (OpdL.cons (Opd.int .i64 (12)) OpdL.nil))) rfl (c (OpJ.coe (v := (.st [(i6 r298), (i6 0), (i6 0)])) (y := (.st [(.int .i64 r298), (.int .i64 0), (.int .i64 0)])) (Co.st (CoL.cons (Co.d _) (CoL.cons (Co.d _) (CoL.cons (Co.d _) CoL.nil)))) rfl (OpJ.build (places := [(0, 1), (1, 1), (2, 1)]) ⟨Try.underlying51, fun w => by kernel_rfl⟩ tyZS51 (Opds.cons (q 132) Opds.nil) (by kernel_rfl) (r := (.st [(i6 r298), (i6 0), (i6 0)])) (by rfl) (L rfl))) rfl (c (OpJ.buildSlice Try.underlying43 tyS51 tyZD51 (by rfl) (by decide) (by decide) (Opds.cons (q 133) Opds.nil) (by kernel_rfl) (es := ([(.st [(.int .i64 r298), (.int .i64 0), (.int .i64 0)])] : List D)) (by rfl) (by rfl) (by kernel_rfl) (by simp) (L rfl)) rfl (cg (OpJ.append hB Try.underlying43 tyE51 (nm := 1135) (by decide) (es := r35.1.fLines.map e_api_Line) (ys := ([(api_Line.mk r298 (0 : Int) (0 : Int))] : List api_Line).map e_api_Line) (es' := (r35.1.fLines ++ ([(api_Line.mk r298 (0 : Int) (0 : Int))] : List api_Line)).map e_api_Line) (len := (r35.1.fLines ++ ([(api_Line.mk r298 (0 : Int) (0 : Int))] : List api_Line)).length) (by simp) (by simp) (map_sz (f := e_api_Line) (fun _ => rfl)) (by rw [List.length_map]; exact lim_mulN hc299 (by decide)) (by rw [List.length_map]; exact lim_leN hc299) (L rfl) (by simp) (q 130) (q 134)) rfl (c (ov (.ptr 1023 3 [3]) (fp hN Try.underlying45 3 tyS43 _ (q 23))) rfl (cg (OpJ.storeB (c' := (.st [(i6 r35.1.fMember), (i6 r35.1.fMonth), (i6 r35.1.fVersion), (.sref 1135 3 0 ((r35.1.fLines ++ ([(api_Line.mk r298 (0 : Int) (0 : Int))] : List api_Line)).length)), (i6 r35.1.fTotal)])) tyS43 (SetAt.lift (fs := [(.int .i64 r35.1.fMember), (.int .i64 r35.1.fMonth), (.int .i64 r35.1.fVersion), (.list 3 (r35.1.fLines.map e_api_Line)), (.int .i64 r35.1.fTotal)]) (SetAt.st1 (by rfl) (by rfl) (SetAt.here _ _) (by rfl) (by rfl) (by first | rfl | omega))) (by rfl) (by rfl) (by simp) rfl (q 136) (q 135)) rfl cn)))))))))) ?_
                  exact hjj46 _ h _ _ (Mat.trans (mp [] [(0, (qe_api_Invoice_5 a0)), (13, (.ptr 100200 0 [])), (14, (.ptr 1014 0 [])), (15, (.ptr 1015 0 [])), (16, (qe_api_Series_4 r21.2.2.1)), (17, (.ptr 1017 0 [])), (19, (qe_api_Series_4 (((r21.2.2.1.set r24.toNat r32.1).drop 0).take r21.2.2.1.length))), (21, (.ptr 1021 0 [])), (23, (.ptr 1023 0 []))] [(1014, some (.box 24 (.d (e_api_Member r21.1)))), (1015, some (.box 27 (.d (e_api_Tariff r21.2.1)))), (1017, some (.box 45 (.d (e_api_Invoice r22.1)))), (1021, some (.box 45 (.d (e_api_Invoice r35.1)))), (1023, some (.box 45 (.st [(i6 r35.1.fMember), (i6 r35.1.fMonth), (i6 r35.1.fVersion), (.sref 1135 3 0 ((r35.1.fLines ++ ([(api_Line.mk r298 (0 : Int) (0 : Int))] : List api_Line)).length)), (i6 r35.1.fTotal)]))), (1135, some (we_api_Line_51_3 (r35.1.fLines ++ ([(api_Line.mk r298 (0 : Int) (0 : Int))] : List api_Line)))), (100200, some (.box 72 (.d (e_exchangepointmill_Deck r31.2))))] hB) (Mat.trans (Mat.freezeP (n := 1135) (e := 51) (sz := 3) (es := (r35.1.fLines ++ ([(api_Line.mk r298 (0 : Int) (0 : Int))] : List api_Line)).map e_api_Line) (Ts := []) (Bs := [(1023, some (.box 45 (.st [(i6 r35.1.fMember), (i6 r35.1.fMonth), (i6 r35.1.fVersion), (qe_api_Line_3 (r35.1.fLines ++ ([(api_Line.mk r298 (0 : Int) (0 : Int))] : List api_Line))), (i6 r35.1.fTotal)])))]) (by rfl) TwT.nil (TwB.cons (x := (.st [(i6 r35.1.fMember), (i6 r35.1.fMonth), (i6 r35.1.fVersion), (.sref 1135 3 0 ((r35.1.fLines ++ ([(api_Line.mk r298 (0 : Int) (0 : Int))] : List api_Line)).length)), (i6 r35.1.fTotal)])) (by rfl) (Tw.st (TwL.cons (Tw.same _) (TwL.cons (Tw.same _) (TwL.cons (Tw.same _) (TwL.cons (FrzL.all (by first | rfl | (simp; done) | (simp; omega))) (TwL.cons (Tw.same _) TwL.nil)))))) TwB.nil)) (Mat.trans (Mat.coeP (Ts := []) (Bs := [(1023, some (.box 45 (.d (.st [(.int .i64 r35.1.fMember), (.int .i64 r35.1.fMonth), (.int .i64 r35.1.fVersion), (.list 3 ((r35.1.fLines ++ ([(api_Line.mk r298 (0 : Int) (0 : Int))] : List api_Line)).map e_api_Line)), (.int .i64 r35.1.fTotal)]))))]) TwT.nil (TwB.cons (x := (.st [(i6 r35.1.fMember), (i6 r35.1.fMonth), (i6 r35.1.fVersion), (qe_api_Line_3 (r35.1.fLines ++ ([(api_Line.mk r298 (0 : Int) (0 : Int))] : List api_Line))), (i6 r35.1.fTotal)])) (by rfl) (Tw.leaf ⟨_, (Co.st (CoL.cons (Co.d _) (CoL.cons (Co.d _) (CoL.cons (Co.d _) (CoL.cons (Co.d _) (CoL.cons (Co.d _) CoL.nil)))))), rfl⟩) TwB.nil)) (mp [] _ _ hB))))
                · replace h := ite_f hg296 h
                  refine AWp.skip ?_
                  exact hjj46 _ h _ _ (mp [] _ _ hB)

noncomputable def invoice_Sum_2_L0 (a0 : (List api_Invoice)) (s2 : Int) : Option (((Unit) ⊕ (Unit)) ⊕ (Int)) :=
  (if (decide (s2 < (a0.length : Int))) = true then
  (idx a0 s2).bind fun x16 =>
  (idx a0 s2).bind fun x17 =>
  (invoice_consistent x17).bind fun r18 =>
  (if (!r18) = true then
  some (.inl (.inl ()))
  else
  some (.inr (w64 (s2 + (1 : Int)))))
  else
  some (.inl (.inr ())))
noncomputable def invoice_Sum_2_L2 (x91 : api_Invoice) (s101 : Int × (List api_Line)) : Option ((((List api_Line))) ⊕ (Int × (List api_Line))) :=
  (if (decide (s101.1 < (x91.fLines.length : Int))) = true then
  (idx x91.fLines s101.1).bind fun x110 =>
  (invoice_sums_add_2 s101.2 x110 (1 : Int)).bind fun r111 =>
  some (.inr ((w64 (s101.1 + (1 : Int))), r111.flines))
  else
  some (.inl s101.2))
noncomputable def invoice_Sum_2_L1 (a0 : (List api_Invoice)) (s22 : Int × (List api_Line)) : Option (((Unit) ⊕ ((List api_Line))) ⊕ (Int × (List api_Line))) :=
  (if (decide (s22.1 < (a0.length : Int))) = true then
  (idx a0 s22.1).bind fun x90 =>
  (idx a0 s22.1).bind fun x91 =>
  jn (fun m98 : Bool =>
  (if m98 = true then
  some (.inl (.inl ()))
  else
  (loop (invoice_Sum_2_L2 x91) ((0 : Int), s22.2)).bind fun p108 =>
  some (.inr ((w64 (s22.1 + (1 : Int))), p108)))) (fun j99 =>
  (if (x91.fVersion != (w64 (s22.1 + (1 : Int)))) = true then
  j99 true
  else
  (idx a0 (0 : Int)).bind fun x115 =>
  (idx a0 (0 : Int)).bind fun x116 =>
  (if (x91.fMember != x116.fMember) = true then
  j99 true
  else
  (idx a0 (0 : Int)).bind fun x118 =>
  (idx a0 (0 : Int)).bind fun x119 =>
  j99 (x91.fMonth != x119.fMonth))))
  else
  some (.inl (.inr s22.2)))
noncomputable def invoice_Sum_2 (a0 : (List api_Invoice)) : Option (api_Invoice × Int) :=
  (if (((a0.length : Int) == (0 : Int)) || (decide ((1000 : Int) < (a0.length : Int)))) = true then
  some ((api_Invoice.mk (0 : Int) (0 : Int) (0 : Int) ([] : List api_Line) (0 : Int)), (1 : Int))
  else
  (loop (invoice_Sum_2_L0 a0) (0 : Int)).bind fun x20 => match x20 with
  | (.inl _) =>
    some ((api_Invoice.mk (0 : Int) (0 : Int) (0 : Int) ([] : List api_Line) (0 : Int)), (1 : Int))
  | (.inr _) =>
    (loop (invoice_Sum_2_L1 a0) ((0 : Int), ([] : List api_Line))).bind fun x120 => match x120 with
    | (.inl _) =>
      some ((api_Invoice.mk (0 : Int) (0 : Int) (0 : Int) ([] : List api_Line) (0 : Int)), (35 : Int))
    | (.inr p88) =>
      (idx a0 (0 : Int)).bind fun x122 =>
      (idx a0 (0 : Int)).bind fun x123 =>
      (idx a0 (0 : Int)).bind fun x124 =>
      (idx a0 (0 : Int)).bind fun x125 =>
      (invoice_sums_invoice p88 x123.fMember x125.fMonth (a0.length : Int)).bind fun r126 =>
      (invoice_consistent r126.1).bind fun r127 =>
      (if (!r127) = true then
      some ((api_Invoice.mk (0 : Int) (0 : Int) (0 : Int) ([] : List api_Line) (0 : Int)), (3 : Int))
      else
      some (r126.1, (0 : Int))))
set_option maxHeartbeats 4000000 in
set_option maxRecDepth 100000 in
theorem invoice_Sum_2_ac (a0 : (List api_Invoice)) (r : api_Invoice × Int) (h : invoice_Sum_2 a0 = some r) : AC Try.prog 19 [(.sref 0 5 0 a0.length)] [(0, (.row 45 5 (a0.map e_api_Invoice)))] (.tup [(.d (e_api_Invoice r.1)), (.d (.int .i64 r.2))]) [(0, some (.row 45 5 (a0.map e_api_Invoice)))] := by
  refine AC.of_code2 Try.func19 rfl rfl (Nat.le_of_ble_eq_true (by rfl)) fun B hB hN => ?_
  have L {d : Nat} (h : Nat.blt d Try.f19.ntmps = true) : d < B.N := ltN hN h
  delta invoice_Sum_2 at h
  refine sr (cg (OpJ.alloc hB tyZ45 (nm := 1002) (by decide) (L rfl)) rfl (c (OpJ.assign (L rfl) (Opd.int .i64 (0))) rfl cn)) ?_
  refine gh [(0, _), (2, _)] [(0, some _), (1002, some _)] hB rfl rfl (by rfl) ?_
  refine AWp.seq ?_
  refine sr (c (mv hN (q 0)) rfl (c (OpJ.lenS Try.underlying53 (L rfl) (q 12)) rfl (c (OpJ.eqlI (L rfl) (q 13) (Opd.int .i64 (0))) rfl (c (mv hN (q 14)) rfl (c (oq hN 15 (mv hN (q 0)) (OptL.keep (by rfl) OptL.nil) (GuardV.plain _)) rfl (c (oq hN 15 (OpJ.lenS Try.underlying53 (L rfl) (q 16)) (OptL.opt OptL.nil) (GuardV.plain _)) rfl (c (oq hN 15 (OpJ.gtr (L rfl) (q 17) (Opd.int .i64 (1000))) (OptL.opt OptL.nil) (GuardV.plain _)) rfl (c (OpJ.pickOr rfl (L rfl) (q 15) (q 18)) rfl cn)))))))) ?_
  refine gh [(0, _), (2, _), (19, _)] [(0, some _), (1002, some _)] hB rfl rfl (by rfl) ?_
  refine AWp.cond rfl (fun hg1 => ?_) (fun hg1 => ?_)
  · replace h := ite_t hg1 h
    refine sr (c (OpJ.build (places := [(0, 1), (1, 1), (2, 1), (3, 1), (4, 1)]) ⟨Try.underlying45, fun w => by kernel_rfl⟩ tyZS45 Opds.nil (by kernel_rfl) (r := (.st [(i6 0), (i6 0), (i6 0), .nils, (i6 0)])) (by rfl) (L rfl)) rfl (cg (OpJ.storeB tyS45 (SetAt.here _ _) (by rfl) (by rfl) (by simp) rfl (q 2) (q 20)) rfl (c (OpJ.assign (L rfl) (Opd.int .i64 (1))) rfl cn))) ?_
    refine gh [(2, _), (3, _)] [(0, some _), (1002, some _)] hB rfl rfl (by rfl) ?_
    refine AWp.ret ?_
    refine seqQ_r ?_
    obtain rfl := Option.some.inj h
    exact ⟨.inl rfl, _, _, (Mat.trans (Mat.coeP (Ts := []) (Bs := [(1002, some (.box 45 (.d (.st [(.int .i64 0), (.int .i64 0), (.int .i64 0), (.list 3 (([] : List api_Line).map e_api_Line)), (.int .i64 0)]))))]) TwT.nil (TwB.cons (x := (.st [(i6 0), (i6 0), (i6 0), .nils, (i6 0)])) (by rfl) (Tw.leaf ⟨_, (Co.st (CoL.cons (Co.d _) (CoL.cons (Co.d _) (CoL.cons (Co.d _) (CoL.cons (Co.nils 3) (CoL.cons (Co.d _) CoL.nil)))))), rfl⟩) TwB.nil)) (mp [] [(2, (.ptr 1002 0 [])), (3, (i6 1))] [(0, some (we_api_Invoice_45_5 a0)), (1002, some (.box 45 (.d (.st [(.int .i64 0), (.int .i64 0), (.int .i64 0), (.list 3 (([] : List api_Line).map e_api_Line)), (.int .i64 0)]))))] hB)), [(.d (.st [(.int .i64 0), (.int .i64 0), (.int .i64 0), (.list 3 (([] : List api_Line).map e_api_Line)), (.int .i64 0)])), (i6 1)], (Res.cell (c := (.d (.st [(.int .i64 0), (.int .i64 0), (.int .i64 0), (.list 3 (([] : List api_Line).map e_api_Line)), (.int .i64 0)]))) (by rfl) (by rfl) tyS45 (by rfl) (by rfl) (by rfl) (Res.tmp (by rfl) (by rfl) Res.nil)), rfl, by rfl, by rfl, by rfl⟩
  · replace h := ite_f hg1 h
    refine AWp.skip ?_
    refine seqQ_n ?_
    refine AWp.seq ?_
    refine sr (c (mv hN (q 0)) rfl (c (OpJ.lenS Try.underlying53 (L rfl) (q 21)) rfl (c (mv hN (Opd.int .i64 (0))) rfl cn))) ?_
    refine gh [(0, _), (2, _), (21, _), (22, _), (23, _)] [(0, some _), (1002, some _)] hB rfl rfl (by rfl) ?_
    refine AWp.block ?_
    obtain ⟨x20, hx21, h⟩ := bindS h
    refine lg (invoice_Sum_2_L0 a0) (fun s2 : Int => ([(0, (.sref 0 5 0 a0.length)), (2, (.ptr 1002 0 [])), (21, (.sref 0 5 0 a0.length)), (22, (i6 (a0.length : Int))), (23, (i6 s2))] : EL)) (fun s2 : Int => ([(0, some (we_api_Invoice_45_5 a0)), (1002, some (.box 45 (.st [(i6 0), (i6 0), (i6 0), .nils, (i6 0)])))] : OL)) (fun (x : (Unit) ⊕ (Unit)) e E' O' => match x with | (.inl _p) => e = .ret ∧ Mat B E' O' ([(2, (.ptr 1002 0 [])), (3, (i6 1))] : EL) ([(0, some (we_api_Invoice_45_5 a0)), (1002, some (.box 45 (.st [(i6 0), (i6 0), (i6 0), .nils, (i6 0)])))] : OL) | (.inr _p) => e = .exit 0 ∧ Mat B E' O' ([(0, (.sref 0 5 0 a0.length)), (2, (.ptr 1002 0 []))] : EL) ([(0, some (we_api_Invoice_45_5 a0)), (1002, some (.box 45 (.st [(i6 0), (i6 0), (i6 0), .nils, (i6 0)])))] : OL)) hx21 (mp [] _ _ hB) (fun s2 y h => ?_) (fun e E' O' hR => ?_)
    · unfold invoice_Sum_2_L0 at h
      refine sr (c (OpJ.lss (L rfl) (q 23) (q 22)) rfl cn) ?_
      refine gh [(0, _), (2, _), (21, _), (22, _), (23, _), (24, _)] [(0, some _), (1002, some _)] hB rfl rfl (by rfl) ?_
      refine AWp.seq ?_
      refine AWp.cond rfl (fun hg15 => ?_) (fun hg15 => ?_)
      · replace h := ite_t hg15 h
        refine AWp.skip ?_
        refine seqQ_n ?_
        refine AWp.seq ?_
        refine AWp.block ?_
        obtain ⟨x16, hx16, h⟩ := bindS h
        obtain ⟨x17, hx17, h⟩ := bindS h
        refine sr (c (OpJ.val (v' := (.ptr 0 (s2.toNat * 5) [s2.toNat])) (by simp) (OpJ.indexS Try.underlying53 tyS45 (idx_some hx16).1 (by have := idx_lt hx16; first | (simpa using this) | ((try simp only [List.length_map] at this); (try simp only [List.length_map]); omega)) (L rfl) (q 21) (q 23))) rfl (c (OpJ.loadR (e := 45) (sz := 5) tyS45 (get_map e_api_Invoice (idx_some hx17).2) (o := 0) (At.here _) (by rfl) (by rfl) (by rfl) (L rfl) (q 25)) rfl (cg (OpJ.alloc hB tyZ45 (nm := 1005) (by decide) (L rfl)) rfl (cg (OpJ.storeB tyS45 (SetAt.here _ _) (by rfl) (by rfl) (by simp) rfl (q 5) (q 26)) rfl cn)))) ?_
        refine gh [(0, _), (2, _), (5, _), (21, _), (22, _), (23, _)] [(0, some _), (1002, some _), (1005, some _)] hB rfl rfl (by rfl) ?_
        obtain ⟨r18, hr18, h⟩ := bindS h
        refine sr (c (lb hN 45 _ _ tyS45 (At.here _) (q 5)) rfl (cg (OpJ.callFn hB fnOk41 (invoice_consistent_ac x17 r18 hr18) [] (by kernel_rfl) (L rfl) (by kernel_rfl) (OpdL.cons (q 27) OpdL.nil)) rfl (c (OpJ.not (L rfl) (q 28)) rfl cn))) ?_
        refine gh [(0, _), (2, _), (21, _), (22, _), (23, _), (29, _)] [(0, some _), (1002, some _)] hB rfl rfl (by rfl) ?_
        refine AWp.cond rfl (fun hg19 => ?_) (fun hg19 => ?_)
        · replace h := ite_t hg19 h
          refine sr (c (OpJ.build (places := [(0, 1), (1, 1), (2, 1), (3, 1), (4, 1)]) ⟨Try.underlying45, fun w => by kernel_rfl⟩ tyZS45 Opds.nil (by kernel_rfl) (r := (.st [(i6 0), (i6 0), (i6 0), .nils, (i6 0)])) (by rfl) (L rfl)) rfl (cg (OpJ.storeB tyS45 (SetAt.here _ _) (by rfl) (by rfl) (by simp) rfl (q 2) (q 30)) rfl (c (OpJ.assign (L rfl) (Opd.int .i64 (1))) rfl cn))) ?_
          refine gh [(2, _), (3, _)] [(0, some _), (1002, some _)] hB rfl rfl (by rfl) ?_
          refine AWp.ret ?_
          refine blkQ_r ?_
          refine seqQ_r ?_
          obtain rfl := Option.some.inj h
          exact ⟨(fun hc => by cases hc), rfl, (mp [] _ _ hB)⟩
        · replace h := ite_f hg19 h
          refine AWp.skip ?_
          refine blkQ_n ?_
          refine seqQ_n ?_
          refine rg (c (add6 (L rfl) (q 23) (Opd.int .i64 (1))) rfl (c (mv hN (q 31)) rfl cn)) ?_
          obtain rfl := Option.some.inj h
          exact ⟨rfl, (Mat.trans (mp [] [(0, (.sref 0 5 0 a0.length)), (2, (.ptr 1002 0 [])), (21, (.sref 0 5 0 a0.length)), (22, (i6 (a0.length : Int))), (23, (i6 (w64 (s2 + (1 : Int)))))] [(0, some (we_api_Invoice_45_5 a0)), (1002, some (.box 45 (.st [(i6 0), (i6 0), (i6 0), .nils, (i6 0)])))] hB) (mp [] _ _ hB))⟩
      · replace h := ite_f hg15 h
        refine AWp.exit ?_
        refine seqQ_e ?_
        obtain rfl := Option.some.inj h
        exact ⟨(fun hc => by cases hc), rfl, (mp [] _ _ hB)⟩
    · rcases x20 with _ | _
      · obtain ⟨rfl, hmat⟩ := hR
        refine blkQ_r ?_
        refine seqQ_r ?_
        obtain rfl := Option.some.inj h
        exact ⟨.inl rfl, _, _, (Mat.trans hmat (Mat.trans (Mat.coeP (Ts := []) (Bs := [(1002, some (.box 45 (.d (.st [(.int .i64 0), (.int .i64 0), (.int .i64 0), (.list 3 (([] : List api_Line).map e_api_Line)), (.int .i64 0)]))))]) TwT.nil (TwB.cons (x := (.st [(i6 0), (i6 0), (i6 0), .nils, (i6 0)])) (by rfl) (Tw.leaf ⟨_, (Co.st (CoL.cons (Co.d _) (CoL.cons (Co.d _) (CoL.cons (Co.d _) (CoL.cons (Co.nils 3) (CoL.cons (Co.d _) CoL.nil)))))), rfl⟩) TwB.nil)) (mp [] [(2, (.ptr 1002 0 [])), (3, (i6 1))] [(0, some (we_api_Invoice_45_5 a0)), (1002, some (.box 45 (.d (.st [(.int .i64 0), (.int .i64 0), (.int .i64 0), (.list 3 (([] : List api_Line).map e_api_Line)), (.int .i64 0)]))))] hB))), [(.d (.st [(.int .i64 0), (.int .i64 0), (.int .i64 0), (.list 3 (([] : List api_Line).map e_api_Line)), (.int .i64 0)])), (i6 1)], (Res.cell (c := (.d (.st [(.int .i64 0), (.int .i64 0), (.int .i64 0), (.list 3 (([] : List api_Line).map e_api_Line)), (.int .i64 0)]))) (by rfl) (by rfl) tyS45 (by rfl) (by rfl) (by rfl) (Res.tmp (by rfl) (by rfl) Res.nil)), rfl, by rfl, by rfl, by rfl⟩
      · obtain ⟨rfl, hmat⟩ := hR
        refine blkQ_hit ?_
        refine seqQ_n ?_
        refine AWp.ghost hmat ?_
        refine sr (cg (OpJ.alloc hB tyZ78 (nm := 1006) (by decide) (L rfl)) rfl cn) ?_
        refine gh [(0, _), (2, _), (6, _)] [(0, some _), (1002, some _), (1006, some _)] hB rfl rfl (by rfl) ?_
        refine AWp.seq ?_
        refine sr (c (mv hN (q 0)) rfl (c (OpJ.lenS Try.underlying53 (L rfl) (q 32)) rfl (c (mv hN (Opd.int .i64 (0))) rfl cn))) ?_
        refine gh [(0, _), (2, _), (6, _), (32, _), (33, _), (34, _)] [(0, some _), (1002, some _), (1006, some _)] hB rfl rfl (by rfl) ?_
        refine AWp.block ?_
        obtain ⟨x120, hx121, h⟩ := bindS h
        refine lg (invoice_Sum_2_L1 a0) (fun s22 : Int × (List api_Line) => ([(0, (.sref 0 5 0 a0.length)), (2, (.ptr 1002 0 [])), (6, (.ptr 1006 0 [])), (32, (.sref 0 5 0 a0.length)), (33, (i6 (a0.length : Int))), (34, (i6 s22.1))] : EL)) (fun s22 : Int × (List api_Line) => ([(0, some (we_api_Invoice_45_5 a0)), (1002, some (.box 45 (.st [(i6 0), (i6 0), (i6 0), .nils, (i6 0)]))), (1006, some (.box 78 (.st [(.sref 13060 3 0 s22.2.length)]))), (13060, some (we_api_Line_51_3 s22.2))] : OL)) (fun (x : (Unit) ⊕ ((List api_Line))) e E' O' => match x with | (.inl _p) => e = .ret ∧ Mat B E' O' ([(2, (.ptr 1002 0 [])), (3, (i6 (35 : Int)))] : EL) ([(0, some (we_api_Invoice_45_5 a0)), (1002, some (.box 45 (.st [(i6 0), (i6 0), (i6 0), .nils, (i6 0)])))] : OL) | (.inr p88) => e = .exit 2 ∧ Mat B E' O' ([(0, (.sref 0 5 0 a0.length)), (2, (.ptr 1002 0 [])), (6, (.ptr 1006 0 []))] : EL) ([(0, some (we_api_Invoice_45_5 a0)), (1002, some (.box 45 (.st [(i6 0), (i6 0), (i6 0), .nils, (i6 0)]))), (1006, some (.box 78 (.st [(.sref 13060 3 0 p88.length)]))), (13060, some (we_api_Line_51_3 p88))] : OL)) hx121 (Mat.trans (Mat.beginP (n := 13060) (e := 51) (sz := 3) (Ts := []) (Bs := [(1006, some (.box 78 (.st [(.sref 13060 3 0 0)])))]) hB (by decide) (by rfl) (by decide) TwT.nil (TwB.cons (x := (.st [.nils])) (by rfl) (Tw.st (TwL.cons (Tw.leaf ⟨rfl, rfl⟩) TwL.nil)) TwB.nil)) (mp [] _ _ hB)) (fun s22 y h => ?_) (fun e E' O' hR => ?_)
        · unfold invoice_Sum_2_L1 at h
          refine sr (c (OpJ.lss (L rfl) (q 34) (q 33)) rfl cn) ?_
          refine gh [(0, _), (2, _), (6, _), (32, _), (33, _), (34, _), (35, _)] [(0, some _), (1002, some _), (1006, some _), (13060, some _)] hB rfl rfl (by rfl) ?_
          refine AWp.seq ?_
          refine AWp.cond rfl (fun hg89 => ?_) (fun hg89 => ?_)
          · replace h := ite_t hg89 h
            refine AWp.skip ?_
            refine seqQ_n ?_
            refine AWp.seq ?_
            refine AWp.block ?_
            obtain ⟨x90, hx90, h⟩ := bindS h
            obtain ⟨x91, hx91, h⟩ := bindS h
            refine sr (c (mv hN (q 34)) rfl (c (OpJ.val (v' := (.ptr 0 (s22.1.toNat * 5) [s22.1.toNat])) (by simp) (OpJ.indexS Try.underlying53 tyS45 (idx_some hx90).1 (by have := idx_lt hx90; first | (simpa using this) | ((try simp only [List.length_map] at this); (try simp only [List.length_map]); omega)) (L rfl) (q 32) (q 34))) rfl (c (OpJ.loadR (e := 45) (sz := 5) tyS45 (get_map e_api_Invoice (idx_some hx91).2) (o := 0) (At.here _) (by rfl) (by rfl) (by rfl) (L rfl) (q 37)) rfl (cg (OpJ.alloc hB tyZ45 (nm := 1008) (by decide) (L rfl)) rfl (c (OpJ.assign (L rfl) (q 36)) rfl (cg (OpJ.storeB tyS45 (SetAt.here _ _) (by rfl) (by rfl) (by simp) rfl (q 8) (q 38)) rfl cn)))))) ?_
            refine gh [(0, _), (2, _), (6, _), (7, _), (8, _), (32, _), (33, _), (34, _)] [(0, some _), (1002, some _), (1006, some _), (1008, some _), (13060, some _)] hB rfl rfl (by rfl) ?_
            refine AWp.seq ?_
            refine AWp.seq ?_
            refine AWp.cut h (fun m98 : Bool => ([(0, (.sref 0 5 0 a0.length)), (2, (.ptr 1002 0 [])), (6, (.ptr 1006 0 [])), (8, (.ptr 1008 0 [])), (32, (.sref 0 5 0 a0.length)), (33, (i6 (a0.length : Int))), (34, (i6 s22.1)), (61, (bo m98))] : EL)) (fun m98 : Bool => ([(0, some (we_api_Invoice_45_5 a0)), (1002, some (.box 45 (.st [(i6 0), (i6 0), (i6 0), .nils, (i6 0)]))), (1006, some (.box 78 (.st [(.sref 13060 3 0 s22.2.length)]))), (1008, some (.box 45 (.d (e_api_Invoice x91)))), (13060, some (we_api_Line_51_3 s22.2))] : OL)) (fun m98 h E' O' hmat => ?_) (fun j99 hjj99 h => ?_)
            · refine seqQ_n ?_
              refine AWp.ghost hmat ?_
              refine AWp.cond rfl (fun hg100 => ?_) (fun hg100 => ?_)
              · replace h := ite_t hg100 h
                refine sr (c (OpJ.build (places := [(0, 1), (1, 1), (2, 1), (3, 1), (4, 1)]) ⟨Try.underlying45, fun w => by kernel_rfl⟩ tyZS45 Opds.nil (by kernel_rfl) (r := (.st [(i6 0), (i6 0), (i6 0), .nils, (i6 0)])) (by rfl) (L rfl)) rfl (cg (OpJ.storeB tyS45 (SetAt.here _ _) (by rfl) (by rfl) (by simp) rfl (q 2) (q 62)) rfl (c (OpJ.assign (L rfl) (Opd.int .i64 (35))) rfl cn))) ?_
                refine gh [(2, _), (3, _)] [(0, some _), (1002, some _)] hB rfl rfl (by rfl) ?_
                refine AWp.ret ?_
                refine seqQ_r ?_
                refine blkQ_r ?_
                refine seqQ_r ?_
                obtain rfl := Option.some.inj h
                exact ⟨(fun hc => by cases hc), rfl, (mp [] _ _ hB)⟩
              · replace h := ite_f hg100 h
                refine AWp.skip ?_
                refine seqQ_n ?_
                refine sr (c (ov (.ptr 1008 3 [3]) (fp hN Try.underlying45 3 tyS43 _ (q 8))) rfl (c (lb hN 45 _ _ tyS43 (ad _) (q 63)) rfl (c (OpJ.val (v' := (i6 (x91.fLines.length : Int))) (by simp) (OpJ.lenD Try.underlying43 (L rfl) (q 64))) rfl (c (mv hN (Opd.int .i64 (0))) rfl cn)))) ?_
                refine gh [(0, _), (2, _), (6, _), (32, _), (33, _), (34, _), (64, _), (65, _), (66, _)] [(0, some _), (1002, some _), (1006, some _), (13060, some _)] hB rfl rfl (by rfl) ?_
                refine AWp.block ?_
                obtain ⟨p108, hx113, h⟩ := bindS h
                refine lg (invoice_Sum_2_L2 x91) (fun s101 : Int × (List api_Line) => ([(0, (.sref 0 5 0 a0.length)), (2, (.ptr 1002 0 [])), (6, (.ptr 1006 0 [])), (32, (.sref 0 5 0 a0.length)), (33, (i6 (a0.length : Int))), (34, (i6 s22.1)), (64, (qe_api_Line_3 x91.fLines)), (65, (i6 (x91.fLines.length : Int))), (66, (i6 s101.1))] : EL)) (fun s101 : Int × (List api_Line) => ([(0, some (we_api_Invoice_45_5 a0)), (1002, some (.box 45 (.st [(i6 0), (i6 0), (i6 0), .nils, (i6 0)]))), (1006, some (.box 78 (.st [(.sref 13060 3 0 s101.2.length)]))), (13060, some (we_api_Line_51_3 s101.2))] : OL)) (fun (p108 : ((List api_Line))) e E' O' => e = .exit 4 ∧ Mat B E' O' ([(0, (.sref 0 5 0 a0.length)), (2, (.ptr 1002 0 [])), (6, (.ptr 1006 0 [])), (32, (.sref 0 5 0 a0.length)), (33, (i6 (a0.length : Int))), (34, (i6 s22.1))] : EL) ([(0, some (we_api_Invoice_45_5 a0)), (1002, some (.box 45 (.st [(i6 0), (i6 0), (i6 0), .nils, (i6 0)]))), (1006, some (.box 78 (.st [(.sref 13060 3 0 p108.length)]))), (13060, some (we_api_Line_51_3 p108))] : OL)) hx113 (mp [] _ _ hB) (fun s101 y h => ?_) (fun e E' O' hR => ?_)
                · unfold invoice_Sum_2_L2 at h
                  refine sr (c (OpJ.lss (L rfl) (q 66) (q 65)) rfl cn) ?_
                  refine gh [(0, _), (2, _), (6, _), (32, _), (33, _), (34, _), (64, _), (65, _), (66, _), (67, _)] [(0, some _), (1002, some _), (1006, some _), (13060, some _)] hB rfl rfl (by rfl) ?_
                  refine AWp.seq ?_
                  refine AWp.cond rfl (fun hg109 => ?_) (fun hg109 => ?_)
                  · replace h := ite_t hg109 h
                    refine AWp.skip ?_
                    refine seqQ_n ?_
                    refine AWp.seq ?_
                    refine AWp.block ?_
                    obtain ⟨x110, hx110, h⟩ := bindS h
                    refine sr (c (OpJ.indexD Try.underlying43 tyS51 (idx_some hx110).1 (get_map e_api_Line (idx_some hx110).2) (L rfl) (q 64) (q 66)) rfl (c (OpJ.loadD tyS51 (by rfl) (by rfl) (L rfl) (q 68)) rfl (cg (OpJ.alloc hB tyZ51 (nm := 1010) (by decide) (L rfl)) rfl (cg (OpJ.storeB tyS51 (SetAt.here _ _) (by rfl) (by rfl) (by simp) rfl (q 10) (q 69)) rfl cn)))) ?_
                    refine gh [(0, _), (2, _), (6, _), (10, _), (32, _), (33, _), (34, _), (64, _), (65, _), (66, _)] [(0, some _), (1002, some _), (1006, some _), (1010, some _), (13060, some _)] hB rfl rfl (by rfl) ?_
                    obtain ⟨r111, hr111, h⟩ := bindS h
                    refine AWp.region (oc (lb hN 51 (.d (e_api_Line x110)) (.d (e_api_Line x110)) tyS51 (At.here _) (ot 10 (.ptr 1010 0 [])))
                      (oc (OpJ.callFn hB fnOk34 (invoice_sums_add_2_ac s101.2 x110 (1 : Int) r111 hr111) [(0, 1006), (1, 13060), (950000, 100100)] (by kernel_rfl) (L rfl) (by kernel_rfl) (OpdL.cons (ot 6 (.ptr 1006 0 [])) (OpdL.cons (ot 70 (.d (e_api_Line x110))) (OpdL.cons (Opd.int .i64 (1)) OpdL.nil))))
                      (OpJs.nil))) (by rfl) (by rfl) ?_
                    refine blkQ_n ?_
                    refine seqQ_n ?_
                    refine AWp.ghost (mp [] [(0, (.sref 0 5 0 a0.length)), (2, (.ptr 1002 0 [])), (6, (.ptr 1006 0 [])), (32, (.sref 0 5 0 a0.length)), (33, (i6 (a0.length : Int))), (34, (i6 s22.1)), (64, (qe_api_Line_3 x91.fLines)), (65, (i6 (x91.fLines.length : Int))), (66, (i6 s101.1))] [(0, some (we_api_Invoice_45_5 a0)), (1002, some (.box 45 (.st [(i6 0), (i6 0), (i6 0), .nils, (i6 0)]))), (1006, some (.box 78 (.st [(.sref 100100 3 0 r111.flines.length)]))), (100100, some (we_api_Line_51_3 r111.flines))] hB) ?_
                    refine rg (c (add6 (L rfl) (q 66) (Opd.int .i64 (1))) rfl (c (mv hN (q 72)) rfl cn)) ?_
                    obtain rfl := Option.some.inj h
                    exact ⟨rfl, (Mat.trans (mp [] [(0, (.sref 0 5 0 a0.length)), (2, (.ptr 1002 0 [])), (6, (.ptr 1006 0 [])), (32, (.sref 0 5 0 a0.length)), (33, (i6 (a0.length : Int))), (34, (i6 s22.1)), (64, (qe_api_Line_3 x91.fLines)), (65, (i6 (x91.fLines.length : Int))), (66, (i6 (w64 (s101.1 + (1 : Int)))))] [(0, some (we_api_Invoice_45_5 a0)), (1002, some (.box 45 (.st [(i6 0), (i6 0), (i6 0), .nils, (i6 0)]))), (1006, some (.box 78 (.st [(.sref 100100 3 0 r111.flines.length)]))), (100100, some (we_api_Line_51_3 r111.flines))] hB) (mp [(13060, 100100)] _ _ hB))⟩
                  · replace h := ite_f hg109 h
                    refine AWp.exit ?_
                    refine seqQ_e ?_
                    obtain rfl := Option.some.inj h
                    exact ⟨(fun hc => by cases hc), rfl, (mp [] _ _ hB)⟩
                · obtain ⟨rfl, hmat⟩ := hR
                  refine blkQ_hit ?_
                  refine blkQ_n ?_
                  refine seqQ_n ?_
                  refine AWp.ghost hmat ?_
                  refine rg (c (add6 (L rfl) (q 34) (Opd.int .i64 (1))) rfl (c (mv hN (q 73)) rfl cn)) ?_
                  obtain rfl := Option.some.inj h
                  exact ⟨rfl, (Mat.trans (mp [] [(0, (.sref 0 5 0 a0.length)), (2, (.ptr 1002 0 [])), (6, (.ptr 1006 0 [])), (32, (.sref 0 5 0 a0.length)), (33, (i6 (a0.length : Int))), (34, (i6 (w64 (s22.1 + (1 : Int)))))] [(0, some (we_api_Invoice_45_5 a0)), (1002, some (.box 45 (.st [(i6 0), (i6 0), (i6 0), .nils, (i6 0)]))), (1006, some (.box 78 (.st [(.sref 13060 3 0 p108.length)]))), (13060, some (we_api_Line_51_3 p108))] hB) (mp [] _ _ hB))⟩
            · rcases Bool.eq_false_or_eq_true (x91.fVersion != (w64 (s22.1 + (1 : Int)))) with hg114 | hg114
              · replace h := ite_t hg114 h
                refine dr (c (ov (.ptr 1008 2 [2]) (fp hN Try.underlying45 2 tyS3 _ (q 8))) rfl (c (lb hN 45 _ _ tyS3 (ad _) (q 39)) rfl (c (mv hN (q 7)) rfl (c (add6 (L rfl) (q 41) (Opd.int .i64 (1))) rfl (c (OpJ.neqI (L rfl) (q 40) (q 42)) rfl (c (OpJ.val (v' := .d (.bool true)) (by rw [hg114]) (mv hN (q 43))) rfl (cg (OpJ.skipU (g := 44) (L rfl) (by rfl)) rfl (cg (OpJ.skipU (g := 44) (L rfl) (by rfl)) rfl (cg (OpJ.skipU (g := 44) (L rfl) (by rfl)) rfl (cg (OpJ.skipU (g := 44) (L rfl) (by rfl)) rfl (cg (OpJ.skipU (g := 44) (L rfl) (by rfl)) rfl (cg (OpJ.skipU (g := 44) (L rfl) (by rfl)) rfl (cg (OpJ.skipU (g := 44) (L rfl) (by rfl)) rfl (c (OpJ.pickT (L rfl) (q 44) (Opd.bool true)) rfl (c (mv hN (q 52)) rfl (cg (OpJ.skipU (g := 53) (L rfl) (by rfl)) rfl (cg (OpJ.skipU (g := 53) (L rfl) (by rfl)) rfl (cg (OpJ.skipU (g := 53) (L rfl) (by rfl)) rfl (cg (OpJ.skipU (g := 53) (L rfl) (by rfl)) rfl (cg (OpJ.skipU (g := 53) (L rfl) (by rfl)) rfl (cg (OpJ.skipU (g := 53) (L rfl) (by rfl)) rfl (cg (OpJ.skipU (g := 53) (L rfl) (by rfl)) rfl (c (OpJ.pickT (L rfl) (q 53) (Opd.bool true)) rfl cn))))))))))))))))))))))) (by kernel_rfl) (by kernel_rfl) ?_
                exact hjj99 _ h _ _ (Mat.trans (mp [] [(0, (.sref 0 5 0 a0.length)), (2, (.ptr 1002 0 [])), (6, (.ptr 1006 0 [])), (8, (.ptr 1008 0 [])), (32, (.sref 0 5 0 a0.length)), (33, (i6 (a0.length : Int))), (34, (i6 s22.1)), (61, (bo true))] [(0, some (we_api_Invoice_45_5 a0)), (1002, some (.box 45 (.st [(i6 0), (i6 0), (i6 0), .nils, (i6 0)]))), (1006, some (.box 78 (.st [(.sref 13060 3 0 s22.2.length)]))), (1008, some (.box 45 (.d (e_api_Invoice x91)))), (13060, some (we_api_Line_51_3 s22.2))] hB) (mp [] _ _ hB))
              · replace h := ite_f hg114 h
                obtain ⟨x115, hx115, h⟩ := bindS h
                obtain ⟨x116, hx116, h⟩ := bindS h
                rcases Bool.eq_false_or_eq_true (x91.fMember != x116.fMember) with hg117 | hg117
                · replace h := ite_t hg117 h
                  refine dr (c (ov (.ptr 1008 2 [2]) (fp hN Try.underlying45 2 tyS3 _ (q 8))) rfl (c (lb hN 45 _ _ tyS3 (ad _) (q 39)) rfl (c (mv hN (q 7)) rfl (c (add6 (L rfl) (q 41) (Opd.int .i64 (1))) rfl (c (OpJ.neqI (L rfl) (q 40) (q 42)) rfl (c (OpJ.val (v' := .d (.bool false)) (by rw [hg114]) (mv hN (q 43))) rfl (c (OpJ.guarded (g := 44) (by rfl) (ov (.ptr 1008 0 [0]) (fp hN Try.underlying45 0 tyS3 _ (q 8)))) rfl (c (OpJ.guarded (g := 44) (by rfl) (lb hN 45 _ _ tyS3 (ad _) (q 45))) rfl (c (OpJ.guarded (g := 44) (by rfl) (mv hN (q 0))) rfl (c (OpJ.guarded (g := 44) (by rfl) (OpJ.val (v' := (.ptr 0 (0 * 5) [0])) (by simp) (OpJ.indexS Try.underlying53 tyS45 (idx_some hx115).1 (by have := idx_lt hx115; first | (simpa using this) | ((try simp only [List.length_map] at this); (try simp only [List.length_map]); omega)) (L rfl) (q 47) (Opd.int .i64 (0))))) rfl (c (OpJ.guarded (g := 44) (by rfl) (ov (.ptr 0 ((0 * 5) + 0) [0, 0]) (fp hN Try.underlying45 0 tyS3 _ (q 48)))) rfl (c (OpJ.guarded (g := 44) (by rfl) (OpJ.loadR (e := 45) (sz := 5) tyS3 (get_map e_api_Invoice (idx_some hx116).2) (o := 0) (ad _) (by rfl) (by rfl) (by rfl) (L rfl) (q 49))) rfl (c (OpJ.guarded (g := 44) (by rfl) (OpJ.neqI (L rfl) (q 46) (q 50))) rfl (c (OpJ.pickF (L rfl) (q 44) (q 51)) rfl (c (OpJ.val (v' := .d (.bool true)) (by rw [hg117]) (mv hN (q 52))) rfl (cg (OpJ.skipU (g := 53) (L rfl) (by rfl)) rfl (cg (OpJ.skipU (g := 53) (L rfl) (by rfl)) rfl (cg (OpJ.skipU (g := 53) (L rfl) (by rfl)) rfl (cg (OpJ.skipU (g := 53) (L rfl) (by rfl)) rfl (cg (OpJ.skipU (g := 53) (L rfl) (by rfl)) rfl (cg (OpJ.skipU (g := 53) (L rfl) (by rfl)) rfl (cg (OpJ.skipU (g := 53) (L rfl) (by rfl)) rfl (c (OpJ.pickT (L rfl) (q 53) (Opd.bool true)) rfl cn))))))))))))))))))))))) (by kernel_rfl) (by kernel_rfl) ?_
                  exact hjj99 _ h _ _ (Mat.trans (mp [] [(0, (.sref 0 5 0 a0.length)), (2, (.ptr 1002 0 [])), (6, (.ptr 1006 0 [])), (8, (.ptr 1008 0 [])), (32, (.sref 0 5 0 a0.length)), (33, (i6 (a0.length : Int))), (34, (i6 s22.1)), (61, (bo true))] [(0, some (we_api_Invoice_45_5 a0)), (1002, some (.box 45 (.st [(i6 0), (i6 0), (i6 0), .nils, (i6 0)]))), (1006, some (.box 78 (.st [(.sref 13060 3 0 s22.2.length)]))), (1008, some (.box 45 (.d (e_api_Invoice x91)))), (13060, some (we_api_Line_51_3 s22.2))] hB) (mp [] _ _ hB))
                · replace h := ite_f hg117 h
                  obtain ⟨x118, hx118, h⟩ := bindS h
                  obtain ⟨x119, hx119, h⟩ := bindS h
                  refine dr (c (ov (.ptr 1008 2 [2]) (fp hN Try.underlying45 2 tyS3 _ (q 8))) rfl (c (lb hN 45 _ _ tyS3 (ad _) (q 39)) rfl (c (mv hN (q 7)) rfl (c (add6 (L rfl) (q 41) (Opd.int .i64 (1))) rfl (c (OpJ.neqI (L rfl) (q 40) (q 42)) rfl (c (OpJ.val (v' := .d (.bool false)) (by rw [hg114]) (mv hN (q 43))) rfl (c (OpJ.guarded (g := 44) (by rfl) (ov (.ptr 1008 0 [0]) (fp hN Try.underlying45 0 tyS3 _ (q 8)))) rfl (c (OpJ.guarded (g := 44) (by rfl) (lb hN 45 _ _ tyS3 (ad _) (q 45))) rfl (c (OpJ.guarded (g := 44) (by rfl) (mv hN (q 0))) rfl (c (OpJ.guarded (g := 44) (by rfl) (OpJ.val (v' := (.ptr 0 (0 * 5) [0])) (by simp) (OpJ.indexS Try.underlying53 tyS45 (idx_some hx115).1 (by have := idx_lt hx115; first | (simpa using this) | ((try simp only [List.length_map] at this); (try simp only [List.length_map]); omega)) (L rfl) (q 47) (Opd.int .i64 (0))))) rfl (c (OpJ.guarded (g := 44) (by rfl) (ov (.ptr 0 ((0 * 5) + 0) [0, 0]) (fp hN Try.underlying45 0 tyS3 _ (q 48)))) rfl (c (OpJ.guarded (g := 44) (by rfl) (OpJ.loadR (e := 45) (sz := 5) tyS3 (get_map e_api_Invoice (idx_some hx116).2) (o := 0) (ad _) (by rfl) (by rfl) (by rfl) (L rfl) (q 49))) rfl (c (OpJ.guarded (g := 44) (by rfl) (OpJ.neqI (L rfl) (q 46) (q 50))) rfl (c (OpJ.pickF (L rfl) (q 44) (q 51)) rfl (c (OpJ.val (v' := .d (.bool false)) (by rw [hg117]) (mv hN (q 52))) rfl (c (OpJ.guarded (g := 53) (by rfl) (ov (.ptr 1008 1 [1]) (fp hN Try.underlying45 1 tyS3 _ (q 8)))) rfl (c (OpJ.guarded (g := 53) (by rfl) (lb hN 45 _ _ tyS3 (ad _) (q 54))) rfl (c (OpJ.guarded (g := 53) (by rfl) (mv hN (q 0))) rfl (c (OpJ.guarded (g := 53) (by rfl) (OpJ.val (v' := (.ptr 0 (0 * 5) [0])) (by simp) (OpJ.indexS Try.underlying53 tyS45 (idx_some hx118).1 (by have := idx_lt hx118; first | (simpa using this) | ((try simp only [List.length_map] at this); (try simp only [List.length_map]); omega)) (L rfl) (q 56) (Opd.int .i64 (0))))) rfl (c (OpJ.guarded (g := 53) (by rfl) (ov (.ptr 0 ((0 * 5) + 1) [0, 1]) (fp hN Try.underlying45 1 tyS3 _ (q 57)))) rfl (c (OpJ.guarded (g := 53) (by rfl) (OpJ.loadR (e := 45) (sz := 5) tyS3 (get_map e_api_Invoice (idx_some hx119).2) (o := 1) (ad _) (by rfl) (by rfl) (by rfl) (L rfl) (q 58))) rfl (c (OpJ.guarded (g := 53) (by rfl) (OpJ.neqI (L rfl) (q 55) (q 59))) rfl (c (OpJ.pickF (L rfl) (q 53) (q 60)) rfl cn))))))))))))))))))))))) (by kernel_rfl) (by kernel_rfl) ?_
                  exact hjj99 _ h _ _ (Mat.trans (mp [] [(0, (.sref 0 5 0 a0.length)), (2, (.ptr 1002 0 [])), (6, (.ptr 1006 0 [])), (8, (.ptr 1008 0 [])), (32, (.sref 0 5 0 a0.length)), (33, (i6 (a0.length : Int))), (34, (i6 s22.1)), (61, (bo (x91.fMonth != x119.fMonth)))] [(0, some (we_api_Invoice_45_5 a0)), (1002, some (.box 45 (.st [(i6 0), (i6 0), (i6 0), .nils, (i6 0)]))), (1006, some (.box 78 (.st [(.sref 13060 3 0 s22.2.length)]))), (1008, some (.box 45 (.d (e_api_Invoice x91)))), (13060, some (we_api_Line_51_3 s22.2))] hB) (mp [] _ _ hB))
          · replace h := ite_f hg89 h
            refine AWp.exit ?_
            refine seqQ_e ?_
            obtain rfl := Option.some.inj h
            exact ⟨(fun hc => by cases hc), rfl, (mp [] _ _ hB)⟩
        · rcases x120 with _ | p88
          · obtain ⟨rfl, hmat⟩ := hR
            refine blkQ_r ?_
            refine seqQ_r ?_
            obtain rfl := Option.some.inj h
            exact ⟨.inl rfl, _, _, (Mat.trans hmat (Mat.trans (Mat.coeP (Ts := []) (Bs := [(1002, some (.box 45 (.d (.st [(.int .i64 0), (.int .i64 0), (.int .i64 0), (.list 3 (([] : List api_Line).map e_api_Line)), (.int .i64 0)]))))]) TwT.nil (TwB.cons (x := (.st [(i6 0), (i6 0), (i6 0), .nils, (i6 0)])) (by rfl) (Tw.leaf ⟨_, (Co.st (CoL.cons (Co.d _) (CoL.cons (Co.d _) (CoL.cons (Co.d _) (CoL.cons (Co.nils 3) (CoL.cons (Co.d _) CoL.nil)))))), rfl⟩) TwB.nil)) (mp [] [(2, (.ptr 1002 0 [])), (3, (i6 (35 : Int)))] [(0, some (we_api_Invoice_45_5 a0)), (1002, some (.box 45 (.d (.st [(.int .i64 0), (.int .i64 0), (.int .i64 0), (.list 3 (([] : List api_Line).map e_api_Line)), (.int .i64 0)]))))] hB))), [(.d (.st [(.int .i64 0), (.int .i64 0), (.int .i64 0), (.list 3 (([] : List api_Line).map e_api_Line)), (.int .i64 0)])), (i6 (35 : Int))], (Res.cell (c := (.d (.st [(.int .i64 0), (.int .i64 0), (.int .i64 0), (.list 3 (([] : List api_Line).map e_api_Line)), (.int .i64 0)]))) (by rfl) (by rfl) tyS45 (by rfl) (by rfl) (by rfl) (Res.tmp (by rfl) (by rfl) Res.nil)), rfl, by rfl, by rfl, by rfl⟩
          · obtain ⟨rfl, hmat⟩ := hR
            refine blkQ_hit ?_
            refine seqQ_n ?_
            refine AWp.ghost hmat ?_
            refine AWp.seq ?_
            obtain ⟨x122, hx122, h⟩ := bindS h
            obtain ⟨x123, hx123, h⟩ := bindS h
            obtain ⟨x124, hx124, h⟩ := bindS h
            obtain ⟨x125, hx125, h⟩ := bindS h
            obtain ⟨r126, hr126, h⟩ := bindS h
            refine AWp.draws (by kernel_rfl) (oc (mv hN (ot 0 (.sref 0 5 0 a0.length)))
              (oc (OpJ.val (v' := (.ptr 0 (0 * 5) [0])) (by simp) (OpJ.indexS Try.underlying53 tyS45 (obj := (we_api_Invoice_45_5 a0)) (idx_some hx122).1 (by have := idx_lt hx122; first | (simpa using this) | ((try simp only [List.length_map] at this); (try simp only [List.length_map]); omega)) (L rfl) (ot 74 (.sref 0 5 0 a0.length)) (Opd.int .i64 (0))))
              (oc (ov (.ptr 0 ((0 * 5) + 0) [0, 0]) (fp hN Try.underlying45 0 tyS3 (we_api_Invoice_45_5 a0) (ot 75 (.ptr 0 (0 * 5) [0]))))
              (oc (OpJ.loadR (e := 45) (sz := 5) (es := a0.map e_api_Invoice) tyS3 (get_map e_api_Invoice (idx_some hx123).2) (o := 0) (v := (.int .i64 x123.fMember)) (ad (.int .i64 x123.fMember)) (by rfl) (by rfl) (by rfl) (L rfl) (ot 76 (.ptr 0 ((0 * 5) + 0) [0, 0])))
              (oc (mv hN (ot 0 (.sref 0 5 0 a0.length)))
              (oc (OpJ.val (v' := (.ptr 0 (0 * 5) [0])) (by simp) (OpJ.indexS Try.underlying53 tyS45 (obj := (we_api_Invoice_45_5 a0)) (idx_some hx124).1 (by have := idx_lt hx124; first | (simpa using this) | ((try simp only [List.length_map] at this); (try simp only [List.length_map]); omega)) (L rfl) (ot 78 (.sref 0 5 0 a0.length)) (Opd.int .i64 (0))))
              (oc (ov (.ptr 0 ((0 * 5) + 1) [0, 1]) (fp hN Try.underlying45 1 tyS3 (we_api_Invoice_45_5 a0) (ot 79 (.ptr 0 (0 * 5) [0]))))
              (oc (OpJ.loadR (e := 45) (sz := 5) (es := a0.map e_api_Invoice) tyS3 (get_map e_api_Invoice (idx_some hx125).2) (o := 1) (v := (.int .i64 x125.fMonth)) (ad (.int .i64 x125.fMonth)) (by rfl) (by rfl) (by rfl) (L rfl) (ot 80 (.ptr 0 ((0 * 5) + 1) [0, 1])))
              (oc (mv hN (ot 0 (.sref 0 5 0 a0.length)))
              (oc (OpJ.lenS (obj := (we_api_Invoice_45_5 a0)) Try.underlying53 (L rfl) (ot 82 (.sref 0 5 0 a0.length)))
              (oc (OpJ.callFn hB fnOk35 (invoice_sums_invoice_ac p88 x123.fMember x125.fMonth (a0.length : Int) r126 hr126) [(0, 1006), (1, 13060)] (by kernel_rfl) (L rfl) (by kernel_rfl) (OpdL.cons (ot 6 (.ptr 1006 0 [])) (OpdL.cons (ot 77 (i6 x123.fMember)) (OpdL.cons (ot 81 (i6 x125.fMonth)) (OpdL.cons (ot 83 (i6 (a0.length : Int))) OpdL.nil)))))
              (oc (OpJ.alloc hB tyZ45 (nm := 1011) (by decide) (L rfl))
              (oc (OpJ.storeB (bt := 45) (c := (.st [(i6 0), (i6 0), (i6 0), .nils, (i6 0)])) (v := (.d (e_api_Invoice r126.1))) (c' := (.d (e_api_Invoice r126.1))) tyS45 (SetAt.here _ _) (by rfl) (by rfl) (by simp) rfl (ot 11 (.ptr 1011 0 [])) (ot 84 (.d (e_api_Invoice r126.1))))
              (OpJs.nil)))))))))))))) (by kernel_rfl) (by rfl) (by rfl) ?_
            refine seqQ_n ?_
            refine AWp.ghost (mp [] [(2, (.ptr 1002 0 [])), (11, (.ptr 1011 0 []))] [(0, some (we_api_Invoice_45_5 a0)), (1002, some (.box 45 (.st [(i6 0), (i6 0), (i6 0), .nils, (i6 0)]))), (1011, some (.box 45 (.d (e_api_Invoice r126.1))))] hB) ?_
            refine AWp.seq ?_
            obtain ⟨r127, hr127, h⟩ := bindS h
            refine sr (c (lb hN 45 _ _ tyS45 (At.here _) (q 11)) rfl (cg (OpJ.callFn hB fnOk41 (invoice_consistent_ac r126.1 r127 hr127) [] (by kernel_rfl) (L rfl) (by kernel_rfl) (OpdL.cons (q 85) OpdL.nil)) rfl (c (OpJ.not (L rfl) (q 86)) rfl cn))) ?_
            refine gh [(2, _), (11, _), (87, _)] [(0, some _), (1002, some _), (1011, some _)] hB rfl rfl (by rfl) ?_
            refine AWp.cond rfl (fun hg128 => ?_) (fun hg128 => ?_)
            · replace h := ite_t hg128 h
              refine sr (c (OpJ.build (places := [(0, 1), (1, 1), (2, 1), (3, 1), (4, 1)]) ⟨Try.underlying45, fun w => by kernel_rfl⟩ tyZS45 Opds.nil (by kernel_rfl) (r := (.st [(i6 0), (i6 0), (i6 0), .nils, (i6 0)])) (by rfl) (L rfl)) rfl (cg (OpJ.storeB tyS45 (SetAt.here _ _) (by rfl) (by rfl) (by simp) rfl (q 2) (q 88)) rfl (c (OpJ.assign (L rfl) (Opd.int .i64 (3))) rfl cn))) ?_
              refine gh [(2, _), (3, _)] [(0, some _), (1002, some _)] hB rfl rfl (by rfl) ?_
              refine AWp.ret ?_
              refine seqQ_r ?_
              obtain rfl := Option.some.inj h
              exact ⟨.inl rfl, _, _, (Mat.trans (Mat.coeP (Ts := []) (Bs := [(1002, some (.box 45 (.d (.st [(.int .i64 0), (.int .i64 0), (.int .i64 0), (.list 3 (([] : List api_Line).map e_api_Line)), (.int .i64 0)]))))]) TwT.nil (TwB.cons (x := (.st [(i6 0), (i6 0), (i6 0), .nils, (i6 0)])) (by rfl) (Tw.leaf ⟨_, (Co.st (CoL.cons (Co.d _) (CoL.cons (Co.d _) (CoL.cons (Co.d _) (CoL.cons (Co.nils 3) (CoL.cons (Co.d _) CoL.nil)))))), rfl⟩) TwB.nil)) (mp [] [(2, (.ptr 1002 0 [])), (3, (i6 (3 : Int)))] [(0, some (we_api_Invoice_45_5 a0)), (1002, some (.box 45 (.d (.st [(.int .i64 0), (.int .i64 0), (.int .i64 0), (.list 3 (([] : List api_Line).map e_api_Line)), (.int .i64 0)]))))] hB)), [(.d (.st [(.int .i64 0), (.int .i64 0), (.int .i64 0), (.list 3 (([] : List api_Line).map e_api_Line)), (.int .i64 0)])), (i6 (3 : Int))], (Res.cell (c := (.d (.st [(.int .i64 0), (.int .i64 0), (.int .i64 0), (.list 3 (([] : List api_Line).map e_api_Line)), (.int .i64 0)]))) (by rfl) (by rfl) tyS45 (by rfl) (by rfl) (by rfl) (Res.tmp (by rfl) (by rfl) Res.nil)), rfl, by rfl, by rfl, by rfl⟩
            · replace h := ite_f hg128 h
              refine AWp.skip ?_
              refine seqQ_n ?_
              refine sr (c (lb hN 45 _ _ tyS45 (At.here _) (q 11)) rfl (cg (OpJ.storeB tyS45 (SetAt.here _ _) (by rfl) (by rfl) (by simp) rfl (q 2) (q 89)) rfl (c (OpJ.assign (L rfl) (Opd.int .i64 (0))) rfl cn))) ?_
              refine gh [(2, _), (3, _)] [(0, some _), (1002, some _)] hB rfl rfl (by rfl) ?_
              refine AWp.ret ?_
              obtain rfl := Option.some.inj h
              exact ⟨.inl rfl, _, _, (kp [(2, _), (3, _)] [(0, some _), (1002, some _)] hB rfl rfl (by rfl)), [(.d (e_api_Invoice r126.1)), (i6 0)], (Res.cell (c := (.d (e_api_Invoice r126.1))) (by rfl) (by rfl) tyS45 (by rfl) (by rfl) (by rfl) (Res.tmp (by rfl) (by rfl) Res.nil)), rfl, by rfl, by rfl, by rfl⟩

noncomputable def invoice_Correct_2_L0 (r4 : api_Invoice × Int) (s6 : Int × (List api_Line)) : Option ((((List api_Line))) ⊕ (Int × (List api_Line))) :=
  (if (decide (s6.1 < (r4.1.fLines.length : Int))) = true then
  (idx r4.1.fLines s6.1).bind fun x15 =>
  (invoice_sums_add_2 s6.2 x15 (1 : Int)).bind fun r16 =>
  some (.inr ((w64 (s6.1 + (1 : Int))), r16.flines))
  else
  some (.inl s6.2))
noncomputable def invoice_Correct_2_L1 (r1 : api_Invoice × Int) (s19 : Int × (List api_Line)) : Option ((((List api_Line))) ⊕ (Int × (List api_Line))) :=
  (if (decide (s19.1 < (r1.1.fLines.length : Int))) = true then
  (idx r1.1.fLines s19.1).bind fun x28 =>
  (invoice_sums_add_2 s19.2 x28 (-1 : Int)).bind fun r29 =>
  some (.inr ((w64 (s19.1 + (1 : Int))), r29.flines))
  else
  some (.inl s19.2))
noncomputable def invoice_Correct_2 (a0 : (List api_Invoice)) (a1 : api_Member) (a2 : api_Tariff) (a3 : (List api_Series)) : Option (api_Invoice × Int) :=
  (invoice_Sum_2 a0).bind fun r1 =>
  (if (r1.2 != (0 : Int)) = true then
  some ((api_Invoice.mk (0 : Int) (0 : Int) (0 : Int) ([] : List api_Line) (0 : Int)), r1.2)
  else
  (if (a1.fASN != r1.1.fMember) = true then
  some ((api_Invoice.mk (0 : Int) (0 : Int) (0 : Int) ([] : List api_Line) (0 : Int)), (32 : Int))
  else
  (invoice_Make a1 r1.1.fMonth a2 a3).bind fun r4 =>
  (if (r4.2 != (0 : Int)) = true then
  some ((api_Invoice.mk (0 : Int) (0 : Int) (0 : Int) ([] : List api_Line) (0 : Int)), r4.2)
  else
  (loop (invoice_Correct_2_L0 r4) ((0 : Int), ([] : List api_Line))).bind fun p13 =>
  (loop (invoice_Correct_2_L1 r1) ((0 : Int), p13)).bind fun p26 =>
  (slices_DeleteFunc p26).bind fun r32 =>
  (if ((r32.length : Int) == (0 : Int)) = true then
  some ((api_Invoice.mk (0 : Int) (0 : Int) (0 : Int) ([] : List api_Line) (0 : Int)), (7 : Int))
  else
  (invoice_sums_invoice_2 r32 r1.1.fMember r1.1.fMonth (w64 (r1.1.fVersion + (1 : Int)))).bind fun r34 =>
  (invoice_consistent r34.1).bind fun r35 =>
  (if (!r35) = true then
  some ((api_Invoice.mk (0 : Int) (0 : Int) (0 : Int) ([] : List api_Line) (0 : Int)), (3 : Int))
  else
  some (r34.1, (0 : Int)))))))
set_option maxHeartbeats 4000000 in
set_option maxRecDepth 100000 in
theorem invoice_Correct_2_ac (a0 : (List api_Invoice)) (a1 : api_Member) (a2 : api_Tariff) (a3 : (List api_Series)) (r : api_Invoice × Int) (h : invoice_Correct_2 a0 a1 a2 a3 = some r) : AC Try.prog 21 [(.sref 0 5 0 a0.length), (.d (e_api_Member a1)), (.d (e_api_Tariff a2)), (.d (.list 4 (a3.map e_api_Series)))] [(0, (.row 45 5 (a0.map e_api_Invoice)))] (.tup [(.d (e_api_Invoice r.1)), (.d (.int .i64 r.2))]) [(0, some (.row 45 5 (a0.map e_api_Invoice)))] := by
  refine AC.of_code2 Try.func21 rfl rfl (Nat.le_of_ble_eq_true (by rfl)) fun B hB hN => ?_
  have L {d : Nat} (h : Nat.blt d Try.f21.ntmps = true) : d < B.N := ltN hN h
  delta invoice_Correct_2 at h
  refine sr (cg (OpJ.box hB (nm := 1005) (by decide) (by simp) rfl (L rfl) (q 1)) rfl (cg (OpJ.box hB (nm := 1006) (by decide) (by simp) rfl (L rfl) (q 2)) rfl (cg (OpJ.alloc hB tyZ45 (nm := 1008) (by decide) (L rfl)) rfl (c (OpJ.assign (L rfl) (Opd.int .i64 (0))) rfl cn)))) ?_
  refine gh [(0, _), (3, _), (5, _), (6, _), (8, _)] [(0, some _), (1005, some _), (1006, some _), (1008, some _)] hB rfl rfl (by rfl) ?_
  refine AWp.seq ?_
  obtain ⟨r1, hr1, h⟩ := bindS h
  refine AWp.region (oc (mv hN (ot 0 (.sref 0 5 0 a0.length)))
  (oc (OpJ.callFn hB fnOk19 (invoice_Sum_2_ac a0 r1 hr1) [(0, 0)] (by kernel_rfl) (L rfl) (by kernel_rfl) (OpdL.cons (ot 20 (.sref 0 5 0 a0.length)) OpdL.nil))
  (oc (mv hN (ot 21 (.tup [(.d (e_api_Invoice r1.1)), (i6 r1.2)])))
  (oc (OpJ.extract (v := (.d (e_api_Invoice r1.1))) (by rfl) rfl (L rfl) (ot 19 (.tup [(.d (e_api_Invoice r1.1)), (i6 r1.2)])))
  (oc (OpJ.extract (v := (i6 r1.2)) (by rfl) rfl (L rfl) (ot 19 (.tup [(.d (e_api_Invoice r1.1)), (i6 r1.2)])))
  (oc (OpJ.alloc hB tyZ45 (nm := 1010) (by decide) (L rfl))
  (oc (OpJ.storeB (bt := 45) (c := (.st [(i6 0), (i6 0), (i6 0), .nils, (i6 0)])) (v := (.d (e_api_Invoice r1.1))) (c' := (.d (e_api_Invoice r1.1))) tyS45 (SetAt.here _ _) (by rfl) (by rfl) (by simp) rfl (ot 10 (.ptr 1010 0 [])) (ot 22 (.d (e_api_Invoice r1.1))))
  (oc (OpJ.assign (L rfl) (ot 23 (i6 r1.2)))
  (OpJs.nil))))))))) (by rfl) (by rfl) ?_
  refine seqQ_n ?_
  refine AWp.ghost (mp [] [(3, (qe_api_Series_4 a3)), (5, (.ptr 1005 0 [])), (6, (.ptr 1006 0 [])), (8, (.ptr 1008 0 [])), (10, (.ptr 1010 0 [])), (11, (i6 r1.2))] [(0, some (we_api_Invoice_45_5 a0)), (1005, some (.box 24 (.d (e_api_Member a1)))), (1006, some (.box 27 (.d (e_api_Tariff a2)))), (1008, some (.box 45 (.st [(i6 0), (i6 0), (i6 0), .nils, (i6 0)]))), (1010, some (.box 45 (.d (e_api_Invoice r1.1))))] hB) ?_
  refine AWp.seq ?_
  refine sr (c (mv hN (q 11)) rfl (c (OpJ.neqI (L rfl) (q 24) (Opd.int .i64 (0))) rfl cn)) ?_
  refine gh [(3, _), (5, _), (6, _), (8, _), (10, _), (11, _), (25, _)] [(0, some _), (1005, some _), (1006, some _), (1008, some _), (1010, some _)] hB rfl rfl (by rfl) ?_
  refine AWp.cond rfl (fun hg2 => ?_) (fun hg2 => ?_)
  · replace h := ite_t hg2 h
    refine sr (c (OpJ.build (places := [(0, 1), (1, 1), (2, 1), (3, 1), (4, 1)]) ⟨Try.underlying45, fun w => by kernel_rfl⟩ tyZS45 Opds.nil (by kernel_rfl) (r := (.st [(i6 0), (i6 0), (i6 0), .nils, (i6 0)])) (by rfl) (L rfl)) rfl (c (mv hN (q 11)) rfl (cg (OpJ.storeB tyS45 (SetAt.here _ _) (by rfl) (by rfl) (by simp) rfl (q 8) (q 26)) rfl (c (OpJ.assign (L rfl) (q 27)) rfl cn)))) ?_
    refine gh [(8, _), (9, _)] [(0, some _), (1008, some _)] hB rfl rfl (by rfl) ?_
    refine AWp.ret ?_
    refine seqQ_r ?_
    obtain rfl := Option.some.inj h
    exact ⟨.inl rfl, _, _, (Mat.trans (Mat.coeP (Ts := []) (Bs := [(1008, some (.box 45 (.d (.st [(.int .i64 0), (.int .i64 0), (.int .i64 0), (.list 3 (([] : List api_Line).map e_api_Line)), (.int .i64 0)]))))]) TwT.nil (TwB.cons (x := (.st [(i6 0), (i6 0), (i6 0), .nils, (i6 0)])) (by rfl) (Tw.leaf ⟨_, (Co.st (CoL.cons (Co.d _) (CoL.cons (Co.d _) (CoL.cons (Co.d _) (CoL.cons (Co.nils 3) (CoL.cons (Co.d _) CoL.nil)))))), rfl⟩) TwB.nil)) (mp [] [(8, (.ptr 1008 0 [])), (9, (i6 r1.2))] [(0, some (we_api_Invoice_45_5 a0)), (1008, some (.box 45 (.d (.st [(.int .i64 0), (.int .i64 0), (.int .i64 0), (.list 3 (([] : List api_Line).map e_api_Line)), (.int .i64 0)]))))] hB)), [(.d (.st [(.int .i64 0), (.int .i64 0), (.int .i64 0), (.list 3 (([] : List api_Line).map e_api_Line)), (.int .i64 0)])), (i6 r1.2)], (Res.cell (c := (.d (.st [(.int .i64 0), (.int .i64 0), (.int .i64 0), (.list 3 (([] : List api_Line).map e_api_Line)), (.int .i64 0)]))) (by rfl) (by rfl) tyS45 (by rfl) (by rfl) (by rfl) (Res.tmp (by rfl) (by rfl) Res.nil)), rfl, by rfl, by rfl, by rfl⟩
  · replace h := ite_f hg2 h
    refine AWp.skip ?_
    refine seqQ_n ?_
    refine AWp.seq ?_
    refine sr (c (ov (.ptr 1005 0 [0]) (fp hN Try.underlying24 0 tyS3 _ (q 5))) rfl (c (lb hN 24 _ _ tyS3 (ad _) (q 28)) rfl (c (ov (.ptr 1010 0 [0]) (fp hN Try.underlying45 0 tyS3 _ (q 10))) rfl (c (lb hN 45 _ _ tyS3 (ad _) (q 30)) rfl (c (OpJ.neqI (L rfl) (q 29) (q 31)) rfl cn))))) ?_
    refine gh [(3, _), (5, _), (6, _), (8, _), (10, _), (32, _)] [(0, some _), (1005, some _), (1006, some _), (1008, some _), (1010, some _)] hB rfl rfl (by rfl) ?_
    refine AWp.cond rfl (fun hg3 => ?_) (fun hg3 => ?_)
    · replace h := ite_t hg3 h
      refine sr (c (OpJ.build (places := [(0, 1), (1, 1), (2, 1), (3, 1), (4, 1)]) ⟨Try.underlying45, fun w => by kernel_rfl⟩ tyZS45 Opds.nil (by kernel_rfl) (r := (.st [(i6 0), (i6 0), (i6 0), .nils, (i6 0)])) (by rfl) (L rfl)) rfl (cg (OpJ.storeB tyS45 (SetAt.here _ _) (by rfl) (by rfl) (by simp) rfl (q 8) (q 33)) rfl (c (OpJ.assign (L rfl) (Opd.int .i64 (32))) rfl cn))) ?_
      refine gh [(8, _), (9, _)] [(0, some _), (1008, some _)] hB rfl rfl (by rfl) ?_
      refine AWp.ret ?_
      refine seqQ_r ?_
      obtain rfl := Option.some.inj h
      exact ⟨.inl rfl, _, _, (Mat.trans (Mat.coeP (Ts := []) (Bs := [(1008, some (.box 45 (.d (.st [(.int .i64 0), (.int .i64 0), (.int .i64 0), (.list 3 (([] : List api_Line).map e_api_Line)), (.int .i64 0)]))))]) TwT.nil (TwB.cons (x := (.st [(i6 0), (i6 0), (i6 0), .nils, (i6 0)])) (by rfl) (Tw.leaf ⟨_, (Co.st (CoL.cons (Co.d _) (CoL.cons (Co.d _) (CoL.cons (Co.d _) (CoL.cons (Co.nils 3) (CoL.cons (Co.d _) CoL.nil)))))), rfl⟩) TwB.nil)) (mp [] [(8, (.ptr 1008 0 [])), (9, (i6 (32 : Int)))] [(0, some (we_api_Invoice_45_5 a0)), (1008, some (.box 45 (.d (.st [(.int .i64 0), (.int .i64 0), (.int .i64 0), (.list 3 (([] : List api_Line).map e_api_Line)), (.int .i64 0)]))))] hB)), [(.d (.st [(.int .i64 0), (.int .i64 0), (.int .i64 0), (.list 3 (([] : List api_Line).map e_api_Line)), (.int .i64 0)])), (i6 (32 : Int))], (Res.cell (c := (.d (.st [(.int .i64 0), (.int .i64 0), (.int .i64 0), (.list 3 (([] : List api_Line).map e_api_Line)), (.int .i64 0)]))) (by rfl) (by rfl) tyS45 (by rfl) (by rfl) (by rfl) (Res.tmp (by rfl) (by rfl) Res.nil)), rfl, by rfl, by rfl, by rfl⟩
    · replace h := ite_f hg3 h
      refine AWp.skip ?_
      refine seqQ_n ?_
      obtain ⟨r4, hr4, h⟩ := bindS h
      refine sr (c (lb hN 24 _ _ tyS24 (At.here _) (q 5)) rfl (c (ov (.ptr 1010 1 [1]) (fp hN Try.underlying45 1 tyS3 _ (q 10))) rfl (c (lb hN 45 _ _ tyS3 (ad _) (q 36)) rfl (c (lb hN 27 _ _ tyS27 (At.here _) (q 6)) rfl (c (mv hN (q 3)) rfl (cg (OpJ.callFn hB fnOk13 (invoice_Make_ac a1 r1.1.fMonth a2 a3 r4 hr4) [] (by kernel_rfl) (L rfl) (by kernel_rfl) (OpdL.cons (q 35) (OpdL.cons (q 37) (OpdL.cons (q 38) (OpdL.cons (q 39) OpdL.nil))))) rfl (c (mv hN (q 40)) rfl (c (OpJ.extract (by rfl) rfl (L rfl) (q 34)) rfl (c (OpJ.extract (by rfl) rfl (L rfl) (q 34)) rfl (cg (OpJ.alloc hB tyZ45 (nm := 1012) (by decide) (L rfl)) rfl (cg (OpJ.storeB tyS45 (SetAt.here _ _) (by rfl) (by rfl) (by simp) rfl (q 12) (q 41)) rfl (c (OpJ.assign (L rfl) (q 42)) rfl cn)))))))))))) ?_
      refine gh [(8, _), (10, _), (11, _), (12, _)] [(0, some _), (1008, some _), (1010, some _), (1012, some _)] hB rfl rfl (by rfl) ?_
      refine AWp.seq ?_
      refine sr (c (mv hN (q 11)) rfl (c (OpJ.neqI (L rfl) (q 43) (Opd.int .i64 (0))) rfl cn)) ?_
      refine gh [(8, _), (10, _), (11, _), (12, _), (44, _)] [(0, some _), (1008, some _), (1010, some _), (1012, some _)] hB rfl rfl (by rfl) ?_
      refine AWp.cond rfl (fun hg5 => ?_) (fun hg5 => ?_)
      · replace h := ite_t hg5 h
        refine sr (c (OpJ.build (places := [(0, 1), (1, 1), (2, 1), (3, 1), (4, 1)]) ⟨Try.underlying45, fun w => by kernel_rfl⟩ tyZS45 Opds.nil (by kernel_rfl) (r := (.st [(i6 0), (i6 0), (i6 0), .nils, (i6 0)])) (by rfl) (L rfl)) rfl (c (mv hN (q 11)) rfl (cg (OpJ.storeB tyS45 (SetAt.here _ _) (by rfl) (by rfl) (by simp) rfl (q 8) (q 45)) rfl (c (OpJ.assign (L rfl) (q 46)) rfl cn)))) ?_
        refine gh [(8, _), (9, _)] [(0, some _), (1008, some _)] hB rfl rfl (by rfl) ?_
        refine AWp.ret ?_
        refine seqQ_r ?_
        obtain rfl := Option.some.inj h
        exact ⟨.inl rfl, _, _, (Mat.trans (Mat.coeP (Ts := []) (Bs := [(1008, some (.box 45 (.d (.st [(.int .i64 0), (.int .i64 0), (.int .i64 0), (.list 3 (([] : List api_Line).map e_api_Line)), (.int .i64 0)]))))]) TwT.nil (TwB.cons (x := (.st [(i6 0), (i6 0), (i6 0), .nils, (i6 0)])) (by rfl) (Tw.leaf ⟨_, (Co.st (CoL.cons (Co.d _) (CoL.cons (Co.d _) (CoL.cons (Co.d _) (CoL.cons (Co.nils 3) (CoL.cons (Co.d _) CoL.nil)))))), rfl⟩) TwB.nil)) (mp [] [(8, (.ptr 1008 0 [])), (9, (i6 r4.2))] [(0, some (we_api_Invoice_45_5 a0)), (1008, some (.box 45 (.d (.st [(.int .i64 0), (.int .i64 0), (.int .i64 0), (.list 3 (([] : List api_Line).map e_api_Line)), (.int .i64 0)]))))] hB)), [(.d (.st [(.int .i64 0), (.int .i64 0), (.int .i64 0), (.list 3 (([] : List api_Line).map e_api_Line)), (.int .i64 0)])), (i6 r4.2)], (Res.cell (c := (.d (.st [(.int .i64 0), (.int .i64 0), (.int .i64 0), (.list 3 (([] : List api_Line).map e_api_Line)), (.int .i64 0)]))) (by rfl) (by rfl) tyS45 (by rfl) (by rfl) (by rfl) (Res.tmp (by rfl) (by rfl) Res.nil)), rfl, by rfl, by rfl, by rfl⟩
      · replace h := ite_f hg5 h
        refine AWp.skip ?_
        refine seqQ_n ?_
        refine sr (cg (OpJ.alloc hB tyZ78 (nm := 1013) (by decide) (L rfl)) rfl cn) ?_
        refine gh [(8, _), (10, _), (12, _), (13, _)] [(0, some _), (1008, some _), (1010, some _), (1012, some _), (1013, some _)] hB rfl rfl (by rfl) ?_
        refine AWp.seq ?_
        refine sr (c (ov (.ptr 1012 3 [3]) (fp hN Try.underlying45 3 tyS43 _ (q 12))) rfl (c (lb hN 45 _ _ tyS43 (ad _) (q 47)) rfl (c (OpJ.val (v' := (i6 (r4.1.fLines.length : Int))) (by simp) (OpJ.lenD Try.underlying43 (L rfl) (q 48))) rfl (c (mv hN (Opd.int .i64 (0))) rfl cn)))) ?_
        refine gh [(8, _), (10, _), (13, _), (48, _), (49, _), (50, _)] [(0, some _), (1008, some _), (1010, some _), (1013, some _)] hB rfl rfl (by rfl) ?_
        refine AWp.block ?_
        obtain ⟨p13, hx18, h⟩ := bindS h
        refine lg (invoice_Correct_2_L0 r4) (fun s6 : Int × (List api_Line) => ([(8, (.ptr 1008 0 [])), (10, (.ptr 1010 0 [])), (13, (.ptr 1013 0 [])), (48, (qe_api_Line_3 r4.1.fLines)), (49, (i6 (r4.1.fLines.length : Int))), (50, (i6 s6.1))] : EL)) (fun s6 : Int × (List api_Line) => ([(0, some (we_api_Invoice_45_5 a0)), (1008, some (.box 45 (.st [(i6 0), (i6 0), (i6 0), .nils, (i6 0)]))), (1010, some (.box 45 (.d (e_api_Invoice r1.1)))), (1013, some (.box 78 (.st [(.sref 13130 3 0 s6.2.length)]))), (13130, some (we_api_Line_51_3 s6.2))] : OL)) (fun (p13 : ((List api_Line))) e E' O' => e = .exit 0 ∧ Mat B E' O' ([(8, (.ptr 1008 0 [])), (10, (.ptr 1010 0 [])), (13, (.ptr 1013 0 []))] : EL) ([(0, some (we_api_Invoice_45_5 a0)), (1008, some (.box 45 (.st [(i6 0), (i6 0), (i6 0), .nils, (i6 0)]))), (1010, some (.box 45 (.d (e_api_Invoice r1.1)))), (1013, some (.box 78 (.st [(.sref 13130 3 0 p13.length)]))), (13130, some (we_api_Line_51_3 p13))] : OL)) hx18 (Mat.trans (Mat.beginP (n := 13130) (e := 51) (sz := 3) (Ts := []) (Bs := [(1013, some (.box 78 (.st [(.sref 13130 3 0 0)])))]) hB (by decide) (by rfl) (by decide) TwT.nil (TwB.cons (x := (.st [.nils])) (by rfl) (Tw.st (TwL.cons (Tw.leaf ⟨rfl, rfl⟩) TwL.nil)) TwB.nil)) (mp [] _ _ hB)) (fun s6 y h => ?_) (fun e E' O' hR => ?_)
        · unfold invoice_Correct_2_L0 at h
          refine sr (c (OpJ.lss (L rfl) (q 50) (q 49)) rfl cn) ?_
          refine gh [(8, _), (10, _), (13, _), (48, _), (49, _), (50, _), (51, _)] [(0, some _), (1008, some _), (1010, some _), (1013, some _), (13130, some _)] hB rfl rfl (by rfl) ?_
          refine AWp.seq ?_
          refine AWp.cond rfl (fun hg14 => ?_) (fun hg14 => ?_)
          · replace h := ite_t hg14 h
            refine AWp.skip ?_
            refine seqQ_n ?_
            refine AWp.seq ?_
            refine AWp.block ?_
            obtain ⟨x15, hx15, h⟩ := bindS h
            refine sr (c (OpJ.indexD Try.underlying43 tyS51 (idx_some hx15).1 (get_map e_api_Line (idx_some hx15).2) (L rfl) (q 48) (q 50)) rfl (c (OpJ.loadD tyS51 (by rfl) (by rfl) (L rfl) (q 52)) rfl (cg (OpJ.alloc hB tyZ51 (nm := 1015) (by decide) (L rfl)) rfl (cg (OpJ.storeB tyS51 (SetAt.here _ _) (by rfl) (by rfl) (by simp) rfl (q 15) (q 53)) rfl cn)))) ?_
            refine gh [(8, _), (10, _), (13, _), (15, _), (48, _), (49, _), (50, _)] [(0, some _), (1008, some _), (1010, some _), (1013, some _), (1015, some _), (13130, some _)] hB rfl rfl (by rfl) ?_
            obtain ⟨r16, hr16, h⟩ := bindS h
            refine AWp.region (oc (lb hN 51 (.d (e_api_Line x15)) (.d (e_api_Line x15)) tyS51 (At.here _) (ot 15 (.ptr 1015 0 [])))
              (oc (OpJ.callFn hB fnOk34 (invoice_sums_add_2_ac s6.2 x15 (1 : Int) r16 hr16) [(0, 1013), (1, 13130), (950000, 100200)] (by kernel_rfl) (L rfl) (by kernel_rfl) (OpdL.cons (ot 13 (.ptr 1013 0 [])) (OpdL.cons (ot 54 (.d (e_api_Line x15))) (OpdL.cons (Opd.int .i64 (1)) OpdL.nil))))
              (OpJs.nil))) (by rfl) (by rfl) ?_
            refine blkQ_n ?_
            refine seqQ_n ?_
            refine AWp.ghost (mp [] [(8, (.ptr 1008 0 [])), (10, (.ptr 1010 0 [])), (13, (.ptr 1013 0 [])), (48, (qe_api_Line_3 r4.1.fLines)), (49, (i6 (r4.1.fLines.length : Int))), (50, (i6 s6.1))] [(0, some (we_api_Invoice_45_5 a0)), (1008, some (.box 45 (.st [(i6 0), (i6 0), (i6 0), .nils, (i6 0)]))), (1010, some (.box 45 (.d (e_api_Invoice r1.1)))), (1013, some (.box 78 (.st [(.sref 100200 3 0 r16.flines.length)]))), (100200, some (we_api_Line_51_3 r16.flines))] hB) ?_
            refine rg (c (add6 (L rfl) (q 50) (Opd.int .i64 (1))) rfl (c (mv hN (q 56)) rfl cn)) ?_
            obtain rfl := Option.some.inj h
            exact ⟨rfl, (Mat.trans (mp [] [(8, (.ptr 1008 0 [])), (10, (.ptr 1010 0 [])), (13, (.ptr 1013 0 [])), (48, (qe_api_Line_3 r4.1.fLines)), (49, (i6 (r4.1.fLines.length : Int))), (50, (i6 (w64 (s6.1 + (1 : Int)))))] [(0, some (we_api_Invoice_45_5 a0)), (1008, some (.box 45 (.st [(i6 0), (i6 0), (i6 0), .nils, (i6 0)]))), (1010, some (.box 45 (.d (e_api_Invoice r1.1)))), (1013, some (.box 78 (.st [(.sref 100200 3 0 r16.flines.length)]))), (100200, some (we_api_Line_51_3 r16.flines))] hB) (mp [(13130, 100200)] _ _ hB))⟩
          · replace h := ite_f hg14 h
            refine AWp.exit ?_
            refine seqQ_e ?_
            obtain rfl := Option.some.inj h
            exact ⟨(fun hc => by cases hc), rfl, (mp [] _ _ hB)⟩
        · obtain ⟨rfl, hmat⟩ := hR
          refine blkQ_hit ?_
          refine seqQ_n ?_
          refine AWp.ghost hmat ?_
          refine AWp.seq ?_
          refine sr (c (ov (.ptr 1010 3 [3]) (fp hN Try.underlying45 3 tyS43 _ (q 10))) rfl (c (lb hN 45 _ _ tyS43 (ad _) (q 57)) rfl (c (OpJ.val (v' := (i6 (r1.1.fLines.length : Int))) (by simp) (OpJ.lenD Try.underlying43 (L rfl) (q 58))) rfl (c (mv hN (Opd.int .i64 (0))) rfl cn)))) ?_
          refine gh [(8, _), (10, _), (13, _), (58, _), (59, _), (60, _)] [(0, some _), (1008, some _), (1010, some _), (1013, some _), (13130, some _)] hB rfl rfl (by rfl) ?_
          refine AWp.block ?_
          obtain ⟨p26, hx31, h⟩ := bindS h
          refine lg (invoice_Correct_2_L1 r1) (fun s19 : Int × (List api_Line) => ([(8, (.ptr 1008 0 [])), (10, (.ptr 1010 0 [])), (13, (.ptr 1013 0 [])), (58, (qe_api_Line_3 r1.1.fLines)), (59, (i6 (r1.1.fLines.length : Int))), (60, (i6 s19.1))] : EL)) (fun s19 : Int × (List api_Line) => ([(0, some (we_api_Invoice_45_5 a0)), (1008, some (.box 45 (.st [(i6 0), (i6 0), (i6 0), .nils, (i6 0)]))), (1010, some (.box 45 (.d (e_api_Invoice r1.1)))), (1013, some (.box 78 (.st [(.sref 13130 3 0 s19.2.length)]))), (13130, some (we_api_Line_51_3 s19.2))] : OL)) (fun (p26 : ((List api_Line))) e E' O' => e = .exit 2 ∧ Mat B E' O' ([(8, (.ptr 1008 0 [])), (10, (.ptr 1010 0 [])), (13, (.ptr 1013 0 []))] : EL) ([(0, some (we_api_Invoice_45_5 a0)), (1008, some (.box 45 (.st [(i6 0), (i6 0), (i6 0), .nils, (i6 0)]))), (1010, some (.box 45 (.d (e_api_Invoice r1.1)))), (1013, some (.box 78 (.st [(.sref 13130 3 0 p26.length)]))), (13130, some (we_api_Line_51_3 p26))] : OL)) hx31 (mp [] _ _ hB) (fun s19 y h => ?_) (fun e E' O' hR => ?_)
          · unfold invoice_Correct_2_L1 at h
            refine sr (c (OpJ.lss (L rfl) (q 60) (q 59)) rfl cn) ?_
            refine gh [(8, _), (10, _), (13, _), (58, _), (59, _), (60, _), (61, _)] [(0, some _), (1008, some _), (1010, some _), (1013, some _), (13130, some _)] hB rfl rfl (by rfl) ?_
            refine AWp.seq ?_
            refine AWp.cond rfl (fun hg27 => ?_) (fun hg27 => ?_)
            · replace h := ite_t hg27 h
              refine AWp.skip ?_
              refine seqQ_n ?_
              refine AWp.seq ?_
              refine AWp.block ?_
              obtain ⟨x28, hx28, h⟩ := bindS h
              refine sr (c (OpJ.indexD Try.underlying43 tyS51 (idx_some hx28).1 (get_map e_api_Line (idx_some hx28).2) (L rfl) (q 58) (q 60)) rfl (c (OpJ.loadD tyS51 (by rfl) (by rfl) (L rfl) (q 62)) rfl (cg (OpJ.alloc hB tyZ51 (nm := 1017) (by decide) (L rfl)) rfl (cg (OpJ.storeB tyS51 (SetAt.here _ _) (by rfl) (by rfl) (by simp) rfl (q 17) (q 63)) rfl cn)))) ?_
              refine gh [(8, _), (10, _), (13, _), (17, _), (58, _), (59, _), (60, _)] [(0, some _), (1008, some _), (1010, some _), (1013, some _), (1017, some _), (13130, some _)] hB rfl rfl (by rfl) ?_
              obtain ⟨r29, hr29, h⟩ := bindS h
              refine AWp.region (oc (lb hN 51 (.d (e_api_Line x28)) (.d (e_api_Line x28)) tyS51 (At.here _) (ot 17 (.ptr 1017 0 [])))
                (oc (OpJ.callFn hB fnOk34 (invoice_sums_add_2_ac s19.2 x28 (-1 : Int) r29 hr29) [(0, 1013), (1, 13130), (950000, 100300)] (by kernel_rfl) (L rfl) (by kernel_rfl) (OpdL.cons (ot 13 (.ptr 1013 0 [])) (OpdL.cons (ot 64 (.d (e_api_Line x28))) (OpdL.cons (Opd.int .i64 (-1)) OpdL.nil))))
                (OpJs.nil))) (by rfl) (by rfl) ?_
              refine blkQ_n ?_
              refine seqQ_n ?_
              refine AWp.ghost (mp [] [(8, (.ptr 1008 0 [])), (10, (.ptr 1010 0 [])), (13, (.ptr 1013 0 [])), (58, (qe_api_Line_3 r1.1.fLines)), (59, (i6 (r1.1.fLines.length : Int))), (60, (i6 s19.1))] [(0, some (we_api_Invoice_45_5 a0)), (1008, some (.box 45 (.st [(i6 0), (i6 0), (i6 0), .nils, (i6 0)]))), (1010, some (.box 45 (.d (e_api_Invoice r1.1)))), (1013, some (.box 78 (.st [(.sref 100300 3 0 r29.flines.length)]))), (100300, some (we_api_Line_51_3 r29.flines))] hB) ?_
              refine rg (c (add6 (L rfl) (q 60) (Opd.int .i64 (1))) rfl (c (mv hN (q 66)) rfl cn)) ?_
              obtain rfl := Option.some.inj h
              exact ⟨rfl, (Mat.trans (mp [] [(8, (.ptr 1008 0 [])), (10, (.ptr 1010 0 [])), (13, (.ptr 1013 0 [])), (58, (qe_api_Line_3 r1.1.fLines)), (59, (i6 (r1.1.fLines.length : Int))), (60, (i6 (w64 (s19.1 + (1 : Int)))))] [(0, some (we_api_Invoice_45_5 a0)), (1008, some (.box 45 (.st [(i6 0), (i6 0), (i6 0), .nils, (i6 0)]))), (1010, some (.box 45 (.d (e_api_Invoice r1.1)))), (1013, some (.box 78 (.st [(.sref 100300 3 0 r29.flines.length)]))), (100300, some (we_api_Line_51_3 r29.flines))] hB) (mp [(13130, 100300)] _ _ hB))⟩
            · replace h := ite_f hg27 h
              refine AWp.exit ?_
              refine seqQ_e ?_
              obtain rfl := Option.some.inj h
              exact ⟨(fun hc => by cases hc), rfl, (mp [] _ _ hB)⟩
          · obtain ⟨rfl, hmat⟩ := hR
            refine blkQ_hit ?_
            refine seqQ_n ?_
            refine AWp.ghost hmat ?_
            refine AWp.seq ?_
            obtain ⟨r32, hr32, h⟩ := bindS h
            refine AWp.region (oc (ov (.ptr 1013 0 [0]) (fp hN Try.underlying78 0 tyS43 (.box 78 (.st [(.sref 13130 3 0 p26.length)])) (ot 13 (.ptr 1013 0 []))))
              (oc (lb hN 78 (.st [(.sref 13130 3 0 p26.length)]) (.sref 13130 3 0 p26.length) tyS43 (At.st1 (f := (.sref 13130 3 0 p26.length)) (by rfl) (by rfl) (At.here _) (by first | rfl | omega)) (ot 67 (.ptr 1013 0 [0])))
              (oc (OpJ.callFn hB fnOk42 (slices_DeleteFunc_ac p26 r32 hr32) [(0, 13130)] (by kernel_rfl) (L rfl) (by kernel_rfl) (OpdL.cons (ot 68 (.sref 13130 3 0 p26.length)) (OpdL.cons (Opd.func 43) OpdL.nil)))
              (oc (ov (.ptr 1013 0 [0]) (fp hN Try.underlying78 0 tyS43 (.box 78 (.st [(.sref 13130 3 0 p26.length)])) (ot 13 (.ptr 1013 0 []))))
              (oc (OpJ.storeB (bt := 78) (c := (.st [(.sref 13130 3 0 p26.length)])) (v := (qe_api_Line_3 r32)) (c' := (.st [(qe_api_Line_3 r32)])) tyS43 (SetAt.st1 (f := (.sref 13130 3 0 p26.length)) (by rfl) (by rfl) (SetAt.here _ _) (by rfl) (by rfl) (by first | rfl | omega)) (by rfl) (by rfl) (by simp) rfl (ot 70 (.ptr 1013 0 [0])) (ot 69 (qe_api_Line_3 r32)))
              (OpJs.nil)))))) (by rfl) (by rfl) ?_
            refine seqQ_n ?_
            refine AWp.ghost (mp [] [(8, (.ptr 1008 0 [])), (10, (.ptr 1010 0 [])), (13, (.ptr 1013 0 []))] [(0, some (we_api_Invoice_45_5 a0)), (1008, some (.box 45 (.st [(i6 0), (i6 0), (i6 0), .nils, (i6 0)]))), (1010, some (.box 45 (.d (e_api_Invoice r1.1)))), (1013, some (.box 78 (.st [(qe_api_Line_3 r32)])))] hB) ?_
            refine AWp.seq ?_
            refine sr (c (ov (.ptr 1013 0 [0]) (fp hN Try.underlying78 0 tyS43 _ (q 13))) rfl (c (lb hN 78 _ (qe_api_Line_3 r32) tyS43 (At.st1 (f := (qe_api_Line_3 r32)) (by rfl) (by rfl) (At.here _) (by first | rfl | omega)) (q 71)) rfl (c (OpJ.val (v' := (i6 (r32.length : Int))) (by simp) (OpJ.lenD Try.underlying43 (L rfl) (q 72))) rfl (c (OpJ.eqlI (L rfl) (q 73) (Opd.int .i64 (0))) rfl cn)))) ?_
            refine gh [(8, _), (10, _), (13, _), (74, _)] [(0, some _), (1008, some _), (1010, some _), (1013, some _)] hB rfl rfl (by rfl) ?_
            refine AWp.cond rfl (fun hg33 => ?_) (fun hg33 => ?_)
            · replace h := ite_t hg33 h
              refine sr (c (OpJ.build (places := [(0, 1), (1, 1), (2, 1), (3, 1), (4, 1)]) ⟨Try.underlying45, fun w => by kernel_rfl⟩ tyZS45 Opds.nil (by kernel_rfl) (r := (.st [(i6 0), (i6 0), (i6 0), .nils, (i6 0)])) (by rfl) (L rfl)) rfl (cg (OpJ.storeB tyS45 (SetAt.here _ _) (by rfl) (by rfl) (by simp) rfl (q 8) (q 75)) rfl (c (OpJ.assign (L rfl) (Opd.int .i64 (7))) rfl cn))) ?_
              refine gh [(8, _), (9, _)] [(0, some _), (1008, some _)] hB rfl rfl (by rfl) ?_
              refine AWp.ret ?_
              refine seqQ_r ?_
              obtain rfl := Option.some.inj h
              exact ⟨.inl rfl, _, _, (Mat.trans (Mat.coeP (Ts := []) (Bs := [(1008, some (.box 45 (.d (.st [(.int .i64 0), (.int .i64 0), (.int .i64 0), (.list 3 (([] : List api_Line).map e_api_Line)), (.int .i64 0)]))))]) TwT.nil (TwB.cons (x := (.st [(i6 0), (i6 0), (i6 0), .nils, (i6 0)])) (by rfl) (Tw.leaf ⟨_, (Co.st (CoL.cons (Co.d _) (CoL.cons (Co.d _) (CoL.cons (Co.d _) (CoL.cons (Co.nils 3) (CoL.cons (Co.d _) CoL.nil)))))), rfl⟩) TwB.nil)) (mp [] [(8, (.ptr 1008 0 [])), (9, (i6 (7 : Int)))] [(0, some (we_api_Invoice_45_5 a0)), (1008, some (.box 45 (.d (.st [(.int .i64 0), (.int .i64 0), (.int .i64 0), (.list 3 (([] : List api_Line).map e_api_Line)), (.int .i64 0)]))))] hB)), [(.d (.st [(.int .i64 0), (.int .i64 0), (.int .i64 0), (.list 3 (([] : List api_Line).map e_api_Line)), (.int .i64 0)])), (i6 (7 : Int))], (Res.cell (c := (.d (.st [(.int .i64 0), (.int .i64 0), (.int .i64 0), (.list 3 (([] : List api_Line).map e_api_Line)), (.int .i64 0)]))) (by rfl) (by rfl) tyS45 (by rfl) (by rfl) (by rfl) (Res.tmp (by rfl) (by rfl) Res.nil)), rfl, by rfl, by rfl, by rfl⟩
            · replace h := ite_f hg33 h
              refine AWp.skip ?_
              refine seqQ_n ?_
              refine AWp.seq ?_
              obtain ⟨r34, hr34, h⟩ := bindS h
              refine AWp.region (oc (ov (.ptr 1010 0 [0]) (fp hN Try.underlying45 0 tyS3 (.box 45 (.d (e_api_Invoice r1.1))) (ot 10 (.ptr 1010 0 []))))
                (oc (lb hN 45 (.d (e_api_Invoice r1.1)) (i6 r1.1.fMember) tyS3 (ad (.int .i64 r1.1.fMember)) (ot 76 (.ptr 1010 0 [0])))
                (oc (ov (.ptr 1010 1 [1]) (fp hN Try.underlying45 1 tyS3 (.box 45 (.d (e_api_Invoice r1.1))) (ot 10 (.ptr 1010 0 []))))
                (oc (lb hN 45 (.d (e_api_Invoice r1.1)) (i6 r1.1.fMonth) tyS3 (ad (.int .i64 r1.1.fMonth)) (ot 78 (.ptr 1010 1 [1])))
                (oc (ov (.ptr 1010 2 [2]) (fp hN Try.underlying45 2 tyS3 (.box 45 (.d (e_api_Invoice r1.1))) (ot 10 (.ptr 1010 0 []))))
                (oc (lb hN 45 (.d (e_api_Invoice r1.1)) (i6 r1.1.fVersion) tyS3 (ad (.int .i64 r1.1.fVersion)) (ot 80 (.ptr 1010 2 [2])))
                (oc (add6 (L rfl) (ot 81 (i6 r1.1.fVersion)) (Opd.int .i64 (1)))
                (oc (OpJ.callFn hB fnOk35 (invoice_sums_invoice_2_ac r32 r1.1.fMember r1.1.fMonth (w64 (r1.1.fVersion + (1 : Int))) r34 hr34) [(0, 1013)] (by kernel_rfl) (L rfl) (by kernel_rfl) (OpdL.cons (ot 13 (.ptr 1013 0 [])) (OpdL.cons (ot 77 (i6 r1.1.fMember)) (OpdL.cons (ot 79 (i6 r1.1.fMonth)) (OpdL.cons (ot 82 (i6 (w64 (r1.1.fVersion + (1 : Int))))) OpdL.nil)))))
                (oc (OpJ.alloc hB tyZ45 (nm := 1018) (by decide) (L rfl))
                (oc (OpJ.storeB (bt := 45) (c := (.st [(i6 0), (i6 0), (i6 0), .nils, (i6 0)])) (v := (.d (e_api_Invoice r34.1))) (c' := (.d (e_api_Invoice r34.1))) tyS45 (SetAt.here _ _) (by rfl) (by rfl) (by simp) rfl (ot 18 (.ptr 1018 0 [])) (ot 83 (.d (e_api_Invoice r34.1))))
                (OpJs.nil))))))))))) (by rfl) (by rfl) ?_
              refine seqQ_n ?_
              refine AWp.ghost (mp [] [(8, (.ptr 1008 0 [])), (18, (.ptr 1018 0 []))] [(0, some (we_api_Invoice_45_5 a0)), (1008, some (.box 45 (.st [(i6 0), (i6 0), (i6 0), .nils, (i6 0)]))), (1018, some (.box 45 (.d (e_api_Invoice r34.1))))] hB) ?_
              refine AWp.seq ?_
              obtain ⟨r35, hr35, h⟩ := bindS h
              refine sr (c (lb hN 45 _ _ tyS45 (At.here _) (q 18)) rfl (cg (OpJ.callFn hB fnOk41 (invoice_consistent_ac r34.1 r35 hr35) [] (by kernel_rfl) (L rfl) (by kernel_rfl) (OpdL.cons (q 84) OpdL.nil)) rfl (c (OpJ.not (L rfl) (q 85)) rfl cn))) ?_
              refine gh [(8, _), (18, _), (86, _)] [(0, some _), (1008, some _), (1018, some _)] hB rfl rfl (by rfl) ?_
              refine AWp.cond rfl (fun hg36 => ?_) (fun hg36 => ?_)
              · replace h := ite_t hg36 h
                refine sr (c (OpJ.build (places := [(0, 1), (1, 1), (2, 1), (3, 1), (4, 1)]) ⟨Try.underlying45, fun w => by kernel_rfl⟩ tyZS45 Opds.nil (by kernel_rfl) (r := (.st [(i6 0), (i6 0), (i6 0), .nils, (i6 0)])) (by rfl) (L rfl)) rfl (cg (OpJ.storeB tyS45 (SetAt.here _ _) (by rfl) (by rfl) (by simp) rfl (q 8) (q 87)) rfl (c (OpJ.assign (L rfl) (Opd.int .i64 (3))) rfl cn))) ?_
                refine gh [(8, _), (9, _)] [(0, some _), (1008, some _)] hB rfl rfl (by rfl) ?_
                refine AWp.ret ?_
                refine seqQ_r ?_
                obtain rfl := Option.some.inj h
                exact ⟨.inl rfl, _, _, (Mat.trans (Mat.coeP (Ts := []) (Bs := [(1008, some (.box 45 (.d (.st [(.int .i64 0), (.int .i64 0), (.int .i64 0), (.list 3 (([] : List api_Line).map e_api_Line)), (.int .i64 0)]))))]) TwT.nil (TwB.cons (x := (.st [(i6 0), (i6 0), (i6 0), .nils, (i6 0)])) (by rfl) (Tw.leaf ⟨_, (Co.st (CoL.cons (Co.d _) (CoL.cons (Co.d _) (CoL.cons (Co.d _) (CoL.cons (Co.nils 3) (CoL.cons (Co.d _) CoL.nil)))))), rfl⟩) TwB.nil)) (mp [] [(8, (.ptr 1008 0 [])), (9, (i6 (3 : Int)))] [(0, some (we_api_Invoice_45_5 a0)), (1008, some (.box 45 (.d (.st [(.int .i64 0), (.int .i64 0), (.int .i64 0), (.list 3 (([] : List api_Line).map e_api_Line)), (.int .i64 0)]))))] hB)), [(.d (.st [(.int .i64 0), (.int .i64 0), (.int .i64 0), (.list 3 (([] : List api_Line).map e_api_Line)), (.int .i64 0)])), (i6 (3 : Int))], (Res.cell (c := (.d (.st [(.int .i64 0), (.int .i64 0), (.int .i64 0), (.list 3 (([] : List api_Line).map e_api_Line)), (.int .i64 0)]))) (by rfl) (by rfl) tyS45 (by rfl) (by rfl) (by rfl) (Res.tmp (by rfl) (by rfl) Res.nil)), rfl, by rfl, by rfl, by rfl⟩
              · replace h := ite_f hg36 h
                refine AWp.skip ?_
                refine seqQ_n ?_
                refine sr (c (lb hN 45 _ _ tyS45 (At.here _) (q 18)) rfl (cg (OpJ.storeB tyS45 (SetAt.here _ _) (by rfl) (by rfl) (by simp) rfl (q 8) (q 88)) rfl (c (OpJ.assign (L rfl) (Opd.int .i64 (0))) rfl cn))) ?_
                refine gh [(8, _), (9, _)] [(0, some _), (1008, some _)] hB rfl rfl (by rfl) ?_
                refine AWp.ret ?_
                obtain rfl := Option.some.inj h
                exact ⟨.inl rfl, _, _, (kp [(8, _), (9, _)] [(0, some _), (1008, some _)] hB rfl rfl (by rfl)), [(.d (e_api_Invoice r34.1)), (i6 0)], (Res.cell (c := (.d (e_api_Invoice r34.1))) (by rfl) (by rfl) tyS45 (by rfl) (by rfl) (by rfl) (Res.tmp (by rfl) (by rfl) Res.nil)), rfl, by rfl, by rfl, by rfl⟩


end Go.Proofs.Ytimcphncaffenaa
