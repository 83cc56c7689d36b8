/- Printed by gen.py: the Go functions as plain functions, and that the code does what they say. -/
import Derived.Test.YtimcphncaffenaaChecked
import Derived.Test.YtimcphncaffenaaVcYB
import Derived.Test.YtimcphncaffenaaVcZ
import Derived.KernelRfl
import Derived.Test.YtimcphncaffenaaFnsB
import Derived.Test.YtimcphncaffenaaExt
import Derived.Test.YtimcphncaffenaaVcV
import Derived.Test.YtimcphncaffenaaVcQ
namespace Go.Proofs.Ytimcphncaffenaa
open Go Go.Vc
noncomputable def invoice_sums_invoice_2_L0 (a0 : (List api_Line)) (s1 : Int × Int) : Option (((Int)) ⊕ (Int × Int)) :=
  (if (decide (s1.1 < (a0.length : Int))) = true then
  (idx a0 s1.1).bind fun x8 =>
  some (.inr ((w64 (s1.1 + (1 : Int))), (w64 (s1.2 + x8.fAmount))))
  else
  some (.inl s1.2))
noncomputable def invoice_sums_invoice_2 (a0 : (List api_Line)) (a1 : Int) (a2 : Int) (a3 : Int) : Option (api_Invoice × invoice_sums) :=
  (loop (invoice_sums_invoice_2_L0 a0) ((0 : Int), (0 : Int))).bind fun p6 =>
  some ((api_Invoice.mk a1 a2 a3 a0 p6), (invoice_sums.mk a0))
set_option maxHeartbeats 4000000 in
set_option maxRecDepth 100000 in
theorem invoice_sums_invoice_2_ac (a0 : (List api_Line)) (a1 : Int) (a2 : Int) (a3 : Int) (r : api_Invoice × invoice_sums) (h : invoice_sums_invoice_2 a0 a1 a2 a3 = some r) : AC Try.prog 35 [(.ptr 0 0 []), (.d (.int .i64 a1)), (.d (.int .i64 a2)), (.d (.int .i64 a3))] [(0, (.box 78 (.st [(.d (.list 3 (a0.map e_api_Line)))])))] (.d (e_api_Invoice r.1)) [(0, some (.box 78 (.d (e_invoice_sums r.2))))] := by
  refine AC.of_code2 Try.func35 rfl rfl (Nat.le_of_ble_eq_true (by rfl)) fun B hB hN => ?_
  delta invoice_sums_invoice_2 at h
  refine sr (cg (OpJ.alloc hB tyZ45 (nm := 1008) (by decide) (ltN hN rfl)) rfl cn) ?_
  refine gh [(0, _), (1, _), (2, _), (3, _), (8, _)] [(0, some _), (1008, some _)] hB rfl rfl (by rfl) ?_
  refine sr (c (mv hN (q 1)) rfl (c (mv hN (q 2)) rfl (c (mv hN (q 3)) rfl (c (mv hN (q 0)) rfl (c (OpJ.nilP (ltN hN rfl) (q 15)) rfl (c (ov (.ptr 0 0 [0]) (fp hN Try.underlying78 0 tyS43 _ (q 16))) rfl (c (lb hN 78 _ (qe_api_Line_3 a0) tyS43 (At.st1 (f := (qe_api_Line_3 a0)) (by rfl) (by rfl) (At.here _) (by first | rfl | omega)) (q 17)) rfl (c (OpJ.coe (v := (.st [(i6 a1), (i6 a2), (i6 a3), (qe_api_Line_3 a0), (i6 0)])) (y := (.st [(.int .i64 a1), (.int .i64 a2), (.int .i64 a3), (.list 3 (a0.map e_api_Line)), (.int .i64 0)])) (Co.st (CoL.cons (Co.d _) (CoL.cons (Co.d _) (CoL.cons (Co.d _) (CoL.cons (Co.d _) (CoL.cons (Co.d _) CoL.nil)))))) rfl (OpJ.build (places := [(0, 1), (1, 1), (2, 1), (3, 1), (4, 1)]) ⟨Try.underlying45, fun w => by kernel_rfl⟩ tyZS45 (Opds.cons (q 12) (Opds.cons (q 13) (Opds.cons (q 14) (Opds.cons (q 18) Opds.nil)))) (by kernel_rfl) (r := (.st [(i6 a1), (i6 a2), (i6 a3), (qe_api_Line_3 a0), (i6 0)])) (by rfl) (ltN hN rfl))) rfl (cg (OpJ.alloc hB tyZ45 (nm := 1009) (by decide) (ltN hN rfl)) rfl (cg (OpJ.storeB tyS45 (SetAt.here _ _) (by rfl) (by rfl) (by simp) rfl (q 9) (q 19)) rfl cn)))))))))) ?_
  refine gh [(0, _), (8, _), (9, _)] [(0, some _), (1008, some _), (1009, some _)] hB rfl rfl (by rfl) ?_
  refine AWp.seq ?_
  refine sr (c (mv hN (q 0)) rfl (c (OpJ.nilP (ltN hN rfl) (q 20)) rfl (c (ov (.ptr 0 0 [0]) (fp hN Try.underlying78 0 tyS43 _ (q 21))) rfl (c (lb hN 78 _ (qe_api_Line_3 a0) tyS43 (At.st1 (f := (qe_api_Line_3 a0)) (by rfl) (by rfl) (At.here _) (by first | rfl | omega)) (q 22)) rfl (c (OpJ.val (v' := (i6 (a0.length : Int))) (by simp) (OpJ.lenD Try.underlying43 (ltN hN rfl) (q 23))) rfl (c (mv hN (Opd.int .i64 (0))) rfl cn)))))) ?_
  refine gh [(8, _), (9, _), (23, _), (24, _), (25, _)] [(0, some _), (1008, some _), (1009, some _)] hB rfl rfl (by rfl) ?_
  refine AWp.block ?_
  obtain ⟨p6, hx10, h⟩ := bindS h
  refine lg (invoice_sums_invoice_2_L0 a0) (fun s1 : Int × Int => ([(8, (.ptr 1008 0 [])), (9, (.ptr 1009 0 [])), (23, (qe_api_Line_3 a0)), (24, (i6 (a0.length : Int))), (25, (i6 s1.1))] : EL)) (fun s1 : Int × Int => ([(0, some (.box 78 (.st [(qe_api_Line_3 a0)]))), (1008, some (.box 45 (.st [(i6 0), (i6 0), (i6 0), .nils, (i6 0)]))), (1009, some (.box 45 (.d (.st [(.int .i64 a1), (.int .i64 a2), (.int .i64 a3), (.list 3 (a0.map e_api_Line)), (.int .i64 s1.2)]))))] : OL)) (fun (p6 : (Int)) e E' O' => e = .exit 0 ∧ Mat B E' O' ([(8, (.ptr 1008 0 [])), (9, (.ptr 1009 0 []))] : EL) ([(0, some (.box 78 (.st [(qe_api_Line_3 a0)]))), (1008, some (.box 45 (.st [(i6 0), (i6 0), (i6 0), .nils, (i6 0)]))), (1009, some (.box 45 (.d (.st [(.int .i64 a1), (.int .i64 a2), (.int .i64 a3), (.list 3 (a0.map e_api_Line)), (.int .i64 p6)]))))] : OL)) hx10 (mp [] _ _ hB) (fun s1 y h => ?_) (fun e E' O' hR => ?_)
  · unfold invoice_sums_invoice_2_L0 at h
    refine sr (c (OpJ.lss (ltN hN rfl) (q 25) (q 24)) rfl cn) ?_
    refine gh [(8, _), (9, _), (23, _), (24, _), (25, _), (26, _)] [(0, some _), (1008, some _), (1009, some _)] hB rfl rfl (by rfl) ?_
    refine AWp.seq ?_
    refine AWp.cond rfl (fun hg7 => ?_) (fun hg7 => ?_)
    · replace h := ite_t hg7 h
      refine AWp.skip ?_
      refine seqQ_n ?_
      refine AWp.seq ?_
      refine AWp.block ?_
      obtain ⟨x8, hx8, h⟩ := bindS h
      refine sr (c (OpJ.indexD Try.underlying43 tyS51 (idx_some hx8).1 (get_map e_api_Line (idx_some hx8).2) (ltN hN rfl) (q 23) (q 25)) rfl (c (OpJ.loadD tyS51 (by rfl) (by rfl) (ltN hN rfl) (q 27)) rfl (cg (OpJ.alloc hB tyZ51 (nm := 1011) (by decide) (ltN hN rfl)) rfl (cg (OpJ.storeB tyS51 (SetAt.here _ _) (by rfl) (by rfl) (by simp) rfl (q 11) (q 28)) rfl cn)))) ?_
      refine gh [(8, _), (9, _), (11, _), (23, _), (24, _), (25, _)] [(0, some _), (1008, some _), (1009, some _), (1011, some _)] hB rfl rfl (by rfl) ?_
      refine rg (c (ov (.ptr 1009 4 [4]) (fp hN Try.underlying45 4 tyS3 _ (q 9))) rfl (c (lb hN 45 _ _ tyS3 (ad _) (q 29)) rfl (c (ov (.ptr 1011 2 [2]) (fp hN Try.underlying51 2 tyS3 _ (q 11))) rfl (c (lb hN 51 _ _ tyS3 (ad _) (q 31)) rfl (c (add6 (ltN hN rfl) (q 30) (q 32)) rfl (c (ov (.ptr 1009 4 [4]) (fp hN Try.underlying45 4 tyS3 _ (q 9))) rfl (cg (OpJ.storeB tyS3 (SetAt.dst1 (by rfl) (by rfl) (SetAt.here _ _) (by rfl) (by rfl) (by first | rfl | omega)) (by rfl) (by rfl) (by simp) rfl (q 34) (q 33)) rfl cn))))))) ?_
      refine blkQ_n ?_
      refine seqQ_n ?_
      refine gh [(8, _), (9, _), (23, _), (24, _), (25, _)] [(0, some _), (1008, some _), (1009, some _)] hB rfl rfl (by rfl) ?_
      refine rg (c (add6 (ltN hN rfl) (q 25) (Opd.int .i64 (1))) rfl (c (mv hN (q 35)) rfl cn)) ?_
      obtain rfl := Option.some.inj h
      exact ⟨rfl, (Mat.trans (mp [] [(8, (.ptr 1008 0 [])), (9, (.ptr 1009 0 [])), (23, (qe_api_Line_3 a0)), (24, (i6 (a0.length : Int))), (25, (i6 (w64 (s1.1 + (1 : Int)))))] [(0, some (.box 78 (.st [(qe_api_Line_3 a0)]))), (1008, some (.box 45 (.st [(i6 0), (i6 0), (i6 0), .nils, (i6 0)]))), (1009, some (.box 45 (.d (.st [(.int .i64 a1), (.int .i64 a2), (.int .i64 a3), (.list 3 (a0.map e_api_Line)), (.int .i64 (w64 (s1.2 + x8.fAmount)))]))))] hB) (mp [] _ _ hB))⟩
    · replace h := ite_f hg7 h
      refine AWp.exit ?_
      refine seqQ_e ?_
      obtain rfl := Option.some.inj h
      exact ⟨(fun hc => by cases hc), rfl, (mp [] _ _ hB)⟩
  · obtain ⟨rfl, hmat⟩ := hR
    refine blkQ_hit ?_
    refine seqQ_n ?_
    refine AWp.ghost hmat ?_
    refine sr (c (lb hN 45 _ _ tyS45 (At.here _) (q 9)) rfl (cg (OpJ.storeB tyS45 (SetAt.here _ _) (by rfl) (by rfl) (by simp) rfl (q 8) (q 36)) rfl cn)) ?_
    refine gh [(8, _)] [(0, some _), (1008, some _)] hB rfl rfl (by rfl) ?_
    refine AWp.ret ?_
    obtain rfl := Option.some.inj h
    exact ⟨.inl rfl, _, _, (Mat.trans (Mat.coeP (Ts := []) (Bs := [(0, some (.box 78 (.d (.st [(.list 3 (a0.map e_api_Line))]))))]) TwT.nil (TwB.cons (x := (.st [(qe_api_Line_3 a0)])) (by rfl) (Tw.leaf ⟨_, (Co.st (CoL.cons (Co.d _) CoL.nil)), rfl⟩) TwB.nil)) (mp [] [(8, (.ptr 1008 0 []))] [(0, some (.box 78 (.d (.st [(.list 3 (a0.map e_api_Line))])))), (1008, some (.box 45 (.d (.st [(.int .i64 a1), (.int .i64 a2), (.int .i64 a3), (.list 3 (a0.map e_api_Line)), (.int .i64 p6)]))))] hB)), [(.d (.st [(.int .i64 a1), (.int .i64 a2), (.int .i64 a3), (.list 3 (a0.map e_api_Line)), (.int .i64 p6)]))], (Res.cell (c := (.d (.st [(.int .i64 a1), (.int .i64 a2), (.int .i64 a3), (.list 3 (a0.map e_api_Line)), (.int .i64 p6)]))) (by rfl) (by rfl) tyS45 (by rfl) (by rfl) (by rfl) Res.nil), rfl, by rfl, by rfl, by rfl⟩


end Go.Proofs.Ytimcphncaffenaa
