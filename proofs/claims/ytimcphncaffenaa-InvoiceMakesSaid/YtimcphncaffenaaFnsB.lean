/- Printed by gen.py: the Go functions as plain functions, and that the code does what they say. -/
import Derived.Test.YtimcphncaffenaaChecked
import Derived.Test.YtimcphncaffenaaVcY
import Derived.Test.YtimcphncaffenaaVcZ
import Derived.KernelRfl
import Derived.Test.YtimcphncaffenaaFnsA
import Derived.Test.YtimcphncaffenaaExt
import Derived.Test.YtimcphncaffenaaVcV
import Derived.Test.YtimcphncaffenaaVcQ
namespace Go.Proofs.Ytimcphncaffenaa
open Go Go.Vc
noncomputable def invoice_sums_invoice_L0 (a0 : (List api_Line)) (s1 : Int × Int) : Option (((Int)) ⊕ (Int × Int)) :=
  (if (decide (s1.1 < (a0.length : Int))) = true then
  (idx a0 s1.1).bind fun x10 =>
  (idx a0 s1.1).bind fun x11 =>
  some (.inr ((w64 (s1.1 + (1 : Int))), (w64 (s1.2 + x11.fAmount))))
  else
  some (.inl s1.2))
noncomputable def invoice_sums_invoice (a0 : (List api_Line)) (a1 : Int) (a2 : Int) (a3 : Int) : Option (api_Invoice × invoice_sums) :=
  (loop (invoice_sums_invoice_L0 a0) ((0 : Int), (0 : Int))).bind fun p8 =>
  some ((api_Invoice.mk a1 a2 a3 a0 p8), (invoice_sums.mk a0))
set_option maxHeartbeats 4000000 in
set_option maxRecDepth 100000 in
theorem invoice_sums_invoice_ac (a0 : (List api_Line)) (a1 : Int) (a2 : Int) (a3 : Int) (r : api_Invoice × invoice_sums) (h : invoice_sums_invoice a0 a1 a2 a3 = some r) : AC Try.prog 35 [(.ptr 0 0 []), (.d (.int .i64 a1)), (.d (.int .i64 a2)), (.d (.int .i64 a3))] [(0, (.box 78 (.st [(.sref 1 3 0 a0.length)]))), (1, (.row 51 3 (a0.map e_api_Line)))] (.d (e_api_Invoice r.1)) [(1, none), (0, some (.box 78 (.d (e_invoice_sums r.2))))] := by
  refine AC.of_code2 Try.func35 rfl rfl (Nat.le_of_ble_eq_true (by rfl)) fun B hB hN => ?_
  delta invoice_sums_invoice at h
  refine AWp.seq ?_
  refine AWp.region (oc (OpJ.alloc hB tyZ45 (nm := 1008) (by decide) (ltN hN rfl))
  (OpJs.nil)) (by rfl) (by rfl) ?_
  refine seqQ_n ?_
  refine AWp.ghost (mp [] [(0, (.ptr 0 0 [])), (1, (i6 a1)), (2, (i6 a2)), (3, (i6 a3)), (8, (.ptr 1008 0 []))] [(0, some (.box 78 (.st [(.sref 1 3 0 a0.length)]))), (1, some (we_api_Line_51_3 a0)), (1008, some (.box 45 (.st [(i6 0), (i6 0), (i6 0), .nils, (i6 0)])))] hB) ?_
  refine AWp.seq ?_
  refine AWp.region (oc (mv hN (ot 1 (i6 a1)))
  (oc (mv hN (ot 2 (i6 a2)))
  (oc (mv hN (ot 3 (i6 a3)))
  (oc (mv hN (ot 0 (.ptr 0 0 [])))
  (oc (OpJ.nilP (obj := (.box 78 (.st [(.sref 1 3 0 a0.length)]))) (ltN hN rfl) (ot 15 (.ptr 0 0 [])))
  (oc (ov (.ptr 0 0 [0]) (fp hN Try.underlying78 0 tyS43 (.box 78 (.st [(.sref 1 3 0 a0.length)])) (ot 16 (.ptr 0 0 []))))
  (oc (lb hN 78 (.st [(.sref 1 3 0 a0.length)]) (.sref 1 3 0 a0.length) tyS43 (At.st1 (f := (.sref 1 3 0 a0.length)) (by rfl) (by rfl) (At.here _) (by first | rfl | omega)) (ot 17 (.ptr 0 0 [0])))
  (oc (OpJ.build (places := [(0, 1), (1, 1), (2, 1), (3, 1), (4, 1)]) ⟨Try.underlying45, fun w => by kernel_rfl⟩ tyZS45 (Opds.cons (ot 12 (i6 a1)) (Opds.cons (ot 13 (i6 a2)) (Opds.cons (ot 14 (i6 a3)) (Opds.cons (ot 18 (.sref 1 3 0 a0.length)) Opds.nil)))) (by kernel_rfl) (r := (.st [(i6 a1), (i6 a2), (i6 a3), (.sref 1 3 0 a0.length), (i6 0)])) (by rfl) (ltN hN rfl))
  (oc (OpJ.alloc hB tyZ45 (nm := 1009) (by decide) (ltN hN rfl))
  (oc (OpJ.storeB (bt := 45) (c := (.st [(i6 0), (i6 0), (i6 0), .nils, (i6 0)])) (v := (.st [(i6 a1), (i6 a2), (i6 a3), (.sref 1 3 0 a0.length), (i6 0)])) (c' := (.st [(i6 a1), (i6 a2), (i6 a3), (.sref 1 3 0 a0.length), (i6 0)])) tyS45 (SetAt.here _ _) (by rfl) (by rfl) (by simp) rfl (ot 9 (.ptr 1009 0 [])) (ot 19 (.st [(i6 a1), (i6 a2), (i6 a3), (.sref 1 3 0 a0.length), (i6 0)])))
  (OpJs.nil))))))))))) (by rfl) (by rfl) ?_
  refine seqQ_n ?_
  refine AWp.ghost (mp [] [(0, (.ptr 0 0 [])), (8, (.ptr 1008 0 [])), (9, (.ptr 1009 0 []))] [(0, some (.box 78 (.st [(.sref 1 3 0 a0.length)]))), (1, some (we_api_Line_51_3 a0)), (1008, some (.box 45 (.st [(i6 0), (i6 0), (i6 0), .nils, (i6 0)]))), (1009, some (.box 45 (.st [(i6 a1), (i6 a2), (i6 a3), (.sref 1 3 0 a0.length), (i6 0)])))] hB) ?_
  refine AWp.seq ?_
  refine AWp.seq ?_
  refine AWp.region (oc (mv hN (ot 0 (.ptr 0 0 [])))
  (oc (OpJ.nilP (obj := (.box 78 (.st [(.sref 1 3 0 a0.length)]))) (ltN hN rfl) (ot 20 (.ptr 0 0 [])))
  (oc (ov (.ptr 0 0 [0]) (fp hN Try.underlying78 0 tyS43 (.box 78 (.st [(.sref 1 3 0 a0.length)])) (ot 21 (.ptr 0 0 []))))
  (oc (lb hN 78 (.st [(.sref 1 3 0 a0.length)]) (.sref 1 3 0 a0.length) tyS43 (At.st1 (f := (.sref 1 3 0 a0.length)) (by rfl) (by rfl) (At.here _) (by first | rfl | omega)) (ot 22 (.ptr 0 0 [0])))
  (oc (OpJ.lenS (obj := (we_api_Line_51_3 a0)) Try.underlying43 (ltN hN rfl) (ot 23 (.sref 1 3 0 a0.length)))
  (oc (mv hN (Opd.int .i64 (0)))
  (OpJs.nil))))))) (by rfl) (by rfl) ?_
  refine seqQ_n ?_
  refine AWp.ghost (mp [] [(8, (.ptr 1008 0 [])), (9, (.ptr 1009 0 [])), (23, (.sref 1 3 0 a0.length)), (24, (i6 (a0.length : Int))), (25, (i6 0))] [(0, some (.box 78 (.st [(.sref 1 3 0 a0.length)]))), (1, some (we_api_Line_51_3 a0)), (1008, some (.box 45 (.st [(i6 0), (i6 0), (i6 0), .nils, (i6 0)]))), (1009, some (.box 45 (.st [(i6 a1), (i6 a2), (i6 a3), (.sref 1 3 0 a0.length), (i6 0)])))] hB) ?_
  refine AWp.block ?_
  obtain ⟨p8, hx13, h⟩ := bindS h
  refine AWp.ghost (mp [] ((fun s1 : Int × Int => ([(8, (.ptr 1008 0 [])), (9, (.ptr 1009 0 [])), (23, (.sref 1 3 0 a0.length)), (24, (i6 (a0.length : Int))), (25, (i6 s1.1))] : EL)) ((0 : Int), (0 : Int))) ((fun s1 : Int × Int => ([(0, some (.box 78 (.st [(.sref 1 3 0 a0.length)]))), (1, some (we_api_Line_51_3 a0)), (1008, some (.box 45 (.st [(i6 0), (i6 0), (i6 0), .nils, (i6 0)]))), (1009, some (.box 45 (.st [(i6 a1), (i6 a2), (i6 a3), (.sref 1 3 0 a0.length), (i6 s1.2)])))] : OL)) ((0 : Int), (0 : Int))) hB) ?_
  refine AWp.loopS (invoice_sums_invoice_L0 a0) (fun s1 : Int × Int => ([(8, (.ptr 1008 0 [])), (9, (.ptr 1009 0 [])), (23, (.sref 1 3 0 a0.length)), (24, (i6 (a0.length : Int))), (25, (i6 s1.1))] : EL)) (fun s1 : Int × Int => ([(0, some (.box 78 (.st [(.sref 1 3 0 a0.length)]))), (1, some (we_api_Line_51_3 a0)), (1008, some (.box 45 (.st [(i6 0), (i6 0), (i6 0), .nils, (i6 0)]))), (1009, some (.box 45 (.st [(i6 a1), (i6 a2), (i6 a3), (.sref 1 3 0 a0.length), (i6 s1.2)])))] : OL)) (fun (p8 : (Int)) e E' O' => e = .exit 0 ∧ Mat B E' O' ([(8, (.ptr 1008 0 [])), (9, (.ptr 1009 0 []))] : EL) ([(0, some (.box 78 (.st [(.sref 1 3 0 a0.length)]))), (1, some (we_api_Line_51_3 a0)), (1008, some (.box 45 (.st [(i6 0), (i6 0), (i6 0), .nils, (i6 0)]))), (1009, some (.box 45 (.st [(i6 a1), (i6 a2), (i6 a3), (.sref 1 3 0 a0.length), (i6 p8)])))] : OL)) hx13 (fun s1 y h => ?_) (fun e E' O' hR => ?_)
  · unfold invoice_sums_invoice_L0 at h
    show AWp _ _ _ _ ([(8, (.ptr 1008 0 [])), (9, (.ptr 1009 0 [])), (23, (.sref 1 3 0 a0.length)), (24, (i6 (a0.length : Int))), (25, (i6 s1.1))] : EL) ([(0, some (.box 78 (.st [(.sref 1 3 0 a0.length)]))), (1, some (we_api_Line_51_3 a0)), (1008, some (.box 45 (.st [(i6 0), (i6 0), (i6 0), .nils, (i6 0)]))), (1009, some (.box 45 (.st [(i6 a1), (i6 a2), (i6 a3), (.sref 1 3 0 a0.length), (i6 s1.2)])))] : OL)
    refine AWp.seq ?_
    refine AWp.region (oc (OpJ.lss (ltN hN rfl) (ot 25 (i6 s1.1)) (ot 24 (i6 (a0.length : Int))))
      (OpJs.nil)) (by rfl) (by rfl) ?_
    refine seqQ_n ?_
    refine AWp.ghost (mp [] [(8, (.ptr 1008 0 [])), (9, (.ptr 1009 0 [])), (23, (.sref 1 3 0 a0.length)), (24, (i6 (a0.length : Int))), (25, (i6 s1.1)), (26, (bo (decide (s1.1 < (a0.length : Int)))))] [(0, some (.box 78 (.st [(.sref 1 3 0 a0.length)]))), (1, some (we_api_Line_51_3 a0)), (1008, some (.box 45 (.st [(i6 0), (i6 0), (i6 0), .nils, (i6 0)]))), (1009, some (.box 45 (.st [(i6 a1), (i6 a2), (i6 a3), (.sref 1 3 0 a0.length), (i6 s1.2)])))] hB) ?_
    refine AWp.seq ?_
    refine AWp.cond (b := (decide (s1.1 < (a0.length : Int)))) (by rfl) (fun hg9 => ?_) (fun hg9 => ?_)
    · replace h := ite_t hg9 h
      refine AWp.skip ?_
      refine seqQ_n ?_
      refine AWp.seq ?_
      refine AWp.block ?_
      refine AWp.seq ?_
      obtain ⟨x10, hx10, h⟩ := bindS h
      obtain ⟨x11, hx11, h⟩ := bindS h
      refine AWp.region (oc (OpJ.val (v' := (.ptr 1 (s1.1.toNat * 3) [s1.1.toNat])) (by simp) (OpJ.indexS Try.underlying43 tyS51 (obj := (we_api_Line_51_3 a0)) (idx_some hx10).1 (by have := idx_lt hx10; first | (simpa using this) | ((try simp only [List.length_map] at this); (try simp only [List.length_map]); omega)) (ltN hN rfl) (ot 23 (.sref 1 3 0 a0.length)) (ot 25 (i6 s1.1))))
        (oc (OpJ.loadR (e := 51) (sz := 3) (es := a0.map e_api_Line) tyS51 (get_map e_api_Line (idx_some hx11).2) (o := 0) (v := (e_api_Line x11)) (At.here _) (by rfl) (by rfl) (by rfl) (ltN hN rfl) (ot 27 (.ptr 1 (s1.1.toNat * 3) [s1.1.toNat])))
        (oc (OpJ.alloc hB tyZ51 (nm := 1011) (by decide) (ltN hN rfl))
        (oc (OpJ.storeB (bt := 51) (c := (.d (.st [(.int .i64 0), (.int .i64 0), (.int .i64 0)]))) (v := (.d (e_api_Line x11))) (c' := (.d (e_api_Line x11))) tyS51 (SetAt.here _ _) (by rfl) (by rfl) (by simp) rfl (ot 11 (.ptr 1011 0 [])) (ot 28 (.d (e_api_Line x11))))
        (OpJs.nil))))) (by rfl) (by rfl) ?_
      refine seqQ_n ?_
      refine AWp.ghost (mp [] [(8, (.ptr 1008 0 [])), (9, (.ptr 1009 0 [])), (11, (.ptr 1011 0 [])), (23, (.sref 1 3 0 a0.length)), (24, (i6 (a0.length : Int))), (25, (i6 s1.1))] [(0, some (.box 78 (.st [(.sref 1 3 0 a0.length)]))), (1, some (we_api_Line_51_3 a0)), (1008, some (.box 45 (.st [(i6 0), (i6 0), (i6 0), .nils, (i6 0)]))), (1009, some (.box 45 (.st [(i6 a1), (i6 a2), (i6 a3), (.sref 1 3 0 a0.length), (i6 s1.2)]))), (1011, some (.box 51 (.d (e_api_Line x11))))] hB) ?_
      refine AWp.region (oc (ov (.ptr 1009 4 [4]) (fp hN Try.underlying45 4 tyS3 (.box 45 (.st [(i6 a1), (i6 a2), (i6 a3), (.sref 1 3 0 a0.length), (i6 s1.2)])) (ot 9 (.ptr 1009 0 []))))
        (oc (lb hN 45 (.st [(i6 a1), (i6 a2), (i6 a3), (.sref 1 3 0 a0.length), (i6 s1.2)]) (i6 s1.2) tyS3 (At.st1 (f := (i6 s1.2)) (by rfl) (by rfl) (At.here _) (by first | rfl | omega)) (ot 29 (.ptr 1009 4 [4])))
        (oc (ov (.ptr 1011 2 [2]) (fp hN Try.underlying51 2 tyS3 (.box 51 (.d (e_api_Line x11))) (ot 11 (.ptr 1011 0 []))))
        (oc (lb hN 51 (.d (e_api_Line x11)) (i6 x11.fAmount) tyS3 (ad (.int .i64 x11.fAmount)) (ot 31 (.ptr 1011 2 [2])))
        (oc (OpJ.add (ltN hN rfl) (ot 30 (i6 s1.2)) (ot 32 (i6 x11.fAmount)))
        (oc (ov (.ptr 1009 4 [4]) (fp hN Try.underlying45 4 tyS3 (.box 45 (.st [(i6 a1), (i6 a2), (i6 a3), (.sref 1 3 0 a0.length), (i6 s1.2)])) (ot 9 (.ptr 1009 0 []))))
        (oc (OpJ.storeB (bt := 45) (c := (.st [(i6 a1), (i6 a2), (i6 a3), (.sref 1 3 0 a0.length), (i6 s1.2)])) (v := (i6 (w64 (s1.2 + x11.fAmount)))) (c' := (.st [(i6 a1), (i6 a2), (i6 a3), (.sref 1 3 0 a0.length), (i6 (w64 (s1.2 + x11.fAmount)))])) tyS3 (SetAt.st1 (f := (i6 s1.2)) (by rfl) (by rfl) (SetAt.here _ _) (by rfl) (by rfl) (by first | rfl | omega)) (by rfl) (by rfl) (by simp) rfl (ot 34 (.ptr 1009 4 [4])) (ot 33 (i6 (w64 (s1.2 + x11.fAmount)))))
        (OpJs.nil)))))))) (by rfl) (by rfl) ?_
      refine blkQ_n ?_
      refine seqQ_n ?_
      refine AWp.ghost (mp [] [(8, (.ptr 1008 0 [])), (9, (.ptr 1009 0 [])), (23, (.sref 1 3 0 a0.length)), (24, (i6 (a0.length : Int))), (25, (i6 s1.1))] [(0, some (.box 78 (.st [(.sref 1 3 0 a0.length)]))), (1, some (we_api_Line_51_3 a0)), (1008, some (.box 45 (.st [(i6 0), (i6 0), (i6 0), .nils, (i6 0)]))), (1009, some (.box 45 (.st [(i6 a1), (i6 a2), (i6 a3), (.sref 1 3 0 a0.length), (i6 (w64 (s1.2 + x11.fAmount)))])))] hB) ?_
      refine AWp.region (oc (OpJ.add (ltN hN rfl) (ot 25 (i6 s1.1)) (Opd.int .i64 (1)))
        (oc (mv hN (ot 35 (i6 (w64 (s1.1 + (1 : Int))))))
        (OpJs.nil))) (by rfl) (by rfl) ?_
      obtain rfl := Option.some.inj h
      exact ⟨rfl, (Mat.trans (mp [] [(8, (.ptr 1008 0 [])), (9, (.ptr 1009 0 [])), (23, (.sref 1 3 0 a0.length)), (24, (i6 (a0.length : Int))), (25, (i6 (w64 (s1.1 + (1 : Int)))))] [(0, some (.box 78 (.st [(.sref 1 3 0 a0.length)]))), (1, some (we_api_Line_51_3 a0)), (1008, some (.box 45 (.st [(i6 0), (i6 0), (i6 0), .nils, (i6 0)]))), (1009, some (.box 45 (.st [(i6 a1), (i6 a2), (i6 a3), (.sref 1 3 0 a0.length), (i6 (w64 (s1.2 + x11.fAmount)))])))] hB) (mp [] ((fun s1 : Int × Int => ([(8, (.ptr 1008 0 [])), (9, (.ptr 1009 0 [])), (23, (.sref 1 3 0 a0.length)), (24, (i6 (a0.length : Int))), (25, (i6 s1.1))] : EL)) ((w64 (s1.1 + (1 : Int))), (w64 (s1.2 + x11.fAmount)))) ((fun s1 : Int × Int => ([(0, some (.box 78 (.st [(.sref 1 3 0 a0.length)]))), (1, some (we_api_Line_51_3 a0)), (1008, some (.box 45 (.st [(i6 0), (i6 0), (i6 0), .nils, (i6 0)]))), (1009, some (.box 45 (.st [(i6 a1), (i6 a2), (i6 a3), (.sref 1 3 0 a0.length), (i6 s1.2)])))] : OL)) ((w64 (s1.1 + (1 : Int))), (w64 (s1.2 + x11.fAmount)))) hB))⟩
    · replace h := ite_f hg9 h
      refine AWp.exit ?_
      refine seqQ_e ?_
      obtain rfl := Option.some.inj h
      exact ⟨(fun hc => by cases hc), rfl, (mp [] ((fun p8 : Int => ([(8, (.ptr 1008 0 [])), (9, (.ptr 1009 0 []))] : EL)) s1.2) ((fun p8 : Int => ([(0, some (.box 78 (.st [(.sref 1 3 0 a0.length)]))), (1, some (we_api_Line_51_3 a0)), (1008, some (.box 45 (.st [(i6 0), (i6 0), (i6 0), .nils, (i6 0)]))), (1009, some (.box 45 (.st [(i6 a1), (i6 a2), (i6 a3), (.sref 1 3 0 a0.length), (i6 p8)])))] : OL)) s1.2) hB)⟩
  · obtain ⟨rfl, hmat⟩ := hR
    refine blkQ_hit ?_
    refine seqQ_n ?_
    refine AWp.ghost hmat ?_
    refine AWp.seq ?_
    refine AWp.region (oc (lb hN 45 (.st [(i6 a1), (i6 a2), (i6 a3), (.sref 1 3 0 a0.length), (i6 p8)]) (.st [(i6 a1), (i6 a2), (i6 a3), (.sref 1 3 0 a0.length), (i6 p8)]) tyS45 (At.here _) (ot 9 (.ptr 1009 0 [])))
      (oc (OpJ.storeB (bt := 45) (c := (.st [(i6 0), (i6 0), (i6 0), .nils, (i6 0)])) (v := (.st [(i6 a1), (i6 a2), (i6 a3), (.sref 1 3 0 a0.length), (i6 p8)])) (c' := (.st [(i6 a1), (i6 a2), (i6 a3), (.sref 1 3 0 a0.length), (i6 p8)])) tyS45 (SetAt.here _ _) (by rfl) (by rfl) (by simp) rfl (ot 8 (.ptr 1008 0 [])) (ot 36 (.st [(i6 a1), (i6 a2), (i6 a3), (.sref 1 3 0 a0.length), (i6 p8)])))
      (OpJs.nil))) (by rfl) (by rfl) ?_
    refine seqQ_n ?_
    refine AWp.ghost (mp [] [(8, (.ptr 1008 0 []))] [(0, some (.box 78 (.st [(.sref 1 3 0 a0.length)]))), (1, some (we_api_Line_51_3 a0)), (1008, some (.box 45 (.st [(i6 a1), (i6 a2), (i6 a3), (.sref 1 3 0 a0.length), (i6 p8)])))] hB) ?_
    refine AWp.ret ?_
    obtain rfl := Option.some.inj h
    exact ⟨.inl rfl, _, _, (Mat.trans (Mat.freezeP (n := 1) (e := 51) (sz := 3) (es := a0.map e_api_Line) (Ts := []) (Bs := [(0, some (.box 78 (.st [(qe_api_Line_3 a0)]))), (1008, some (.box 45 (.st [(i6 a1), (i6 a2), (i6 a3), (qe_api_Line_3 a0), (i6 p8)])))]) (by rfl) TwT.nil (TwB.cons (x := (.st [(.sref 1 3 0 a0.length)])) (by rfl) (Tw.st (TwL.cons (FrzL.all (by first | rfl | (simp; done) | (simp; omega))) TwL.nil)) (TwB.cons (x := (.st [(i6 a1), (i6 a2), (i6 a3), (.sref 1 3 0 a0.length), (i6 p8)])) (by rfl) (Tw.st (TwL.cons (Tw.same _) (TwL.cons (Tw.same _) (TwL.cons (Tw.same _) (TwL.cons (FrzL.all (by first | rfl | (simp; done) | (simp; omega))) (TwL.cons (Tw.same _) TwL.nil)))))) TwB.nil))) (Mat.trans (Mat.coeP (Ts := []) (Bs := [(1008, some (.box 45 (.d (.st [(.int .i64 a1), (.int .i64 a2), (.int .i64 a3), (.list 3 (a0.map e_api_Line)), (.int .i64 p8)]))))]) TwT.nil (TwB.cons (x := (.st [(i6 a1), (i6 a2), (i6 a3), (qe_api_Line_3 a0), (i6 p8)])) (by rfl) (Tw.leaf ⟨_, (Co.st (CoL.cons (Co.d _) (CoL.cons (Co.d _) (CoL.cons (Co.d _) (CoL.cons (Co.d _) (CoL.cons (Co.d _) CoL.nil)))))), rfl⟩) TwB.nil)) (Mat.trans (Mat.coeP (Ts := []) (Bs := [(0, some (.box 78 (.d (.st [(.list 3 (a0.map e_api_Line))]))))]) TwT.nil (TwB.cons (x := (.st [(qe_api_Line_3 a0)])) (by rfl) (Tw.leaf ⟨_, (Co.st (CoL.cons (Co.d _) CoL.nil)), rfl⟩) TwB.nil)) (mp [] [(8, (.ptr 1008 0 []))] [(0, some (.box 78 (.d (.st [(.list 3 (a0.map e_api_Line))])))), (1008, some (.box 45 (.d (.st [(.int .i64 a1), (.int .i64 a2), (.int .i64 a3), (.list 3 (a0.map e_api_Line)), (.int .i64 p8)]))))] hB)))), [(.d (.st [(.int .i64 a1), (.int .i64 a2), (.int .i64 a3), (.list 3 (a0.map e_api_Line)), (.int .i64 p8)]))], (Res.cell (c := (.d (.st [(.int .i64 a1), (.int .i64 a2), (.int .i64 a3), (.list 3 (a0.map e_api_Line)), (.int .i64 p8)]))) (by rfl) (by rfl) tyS45 (by rfl) (by rfl) (by rfl) Res.nil), rfl, by rfl, by rfl, by rfl⟩

noncomputable def invoice_Make_L0 (a2 : api_Tariff) (a3 : (List api_Series)) (r1 : (List Int) × Bool) (s11 : Int × (List api_Line)) : Option (((Int) ⊕ ((List api_Line))) ⊕ (Int × (List api_Line))) :=
  (if (decide (s11.1 < (r1.1.length : Int))) = true then
  (idx r1.1 s11.1).bind fun x35 =>
  (slices_IndexFunc a3 x35).bind fun r36 =>
  (if (decide (r36 < (0 : Int))) = true then
  some (.inl (.inl (7 : Int)))
  else
  (idx a3 r36).bind fun x38 =>
  (percentile_Used x38 (95 : Int)).bind fun r39 =>
  (if (r39.2 != (0 : Int)) = true then
  some (.inl (.inl r39.2))
  else
  (invoice_Price a2 r39.1).bind fun r41 =>
  (if (r41.2 != (0 : Int)) = true then
  some (.inl (.inl r41.2))
  else
  (invoice_sums_add_2 s11.2 (api_Line.mk x35 r39.1 r41.1) (1 : Int)).bind fun r43 =>
  some (.inr ((w64 (s11.1 + (1 : Int))), r43.flines)))))
  else
  some (.inl (.inr s11.2)))
noncomputable def invoice_Make (a0 : api_Member) (a1 : Int) (a2 : api_Tariff) (a3 : (List api_Series)) : Option (api_Invoice × Int) :=
  (invoice_ports a0).bind fun r1 =>
  jn (fun m6 : Bool =>
  (if m6 = true then
  some ((api_Invoice.mk (0 : Int) (0 : Int) (0 : Int) ([] : List api_Line) (0 : Int)), (1 : Int))
  else
  (invoice_tariff a2).bind fun r9 =>
  (if (!r9) = true then
  some ((api_Invoice.mk (0 : Int) (0 : Int) (0 : Int) ([] : List api_Line) (0 : Int)), (38 : Int))
  else
  (loop (invoice_Make_L0 a2 a3 r1) ((0 : Int), ([] : List api_Line))).bind fun x44 => match x44 with
  | (.inl p32) =>
    some ((api_Invoice.mk (0 : Int) (0 : Int) (0 : Int) ([] : List api_Line) (0 : Int)), p32)
  | (.inr p33) =>
    (invoice_sums_invoice p33 a0.fASN a1 (1 : Int)).bind fun r46 =>
    some (r46.1, (0 : Int))))) (fun j7 =>
  (if (!r1.2) = true then
  j7 true
  else
  (invoice_member a0.fASN).bind fun r48 =>
  (if (!r48) = true then
  j7 true
  else
  (invoice_month a1).bind fun r50 =>
  j7 (!r50))))
set_option maxHeartbeats 4000000 in
set_option maxRecDepth 100000 in
theorem invoice_Make_ac (a0 : api_Member) (a1 : Int) (a2 : api_Tariff) (a3 : (List api_Series)) (r : api_Invoice × Int) (h : invoice_Make a0 a1 a2 a3 = some r) : AC Try.prog 13 [(.d (e_api_Member a0)), (.d (.int .i64 a1)), (.d (e_api_Tariff a2)), (.d (.list 4 (a3.map e_api_Series)))] [] (.tup [(.d (e_api_Invoice r.1)), (.d (.int .i64 r.2))]) [] := by
  refine AC.of_code2 Try.func13 rfl rfl (Nat.le_of_ble_eq_true (by rfl)) fun B hB hN => ?_
  delta invoice_Make at h
  refine AWp.seq ?_
  refine AWp.region (oc (OpJ.box hB (nm := 1004) (by decide) (by simp) rfl (ltN hN rfl) (ot 0 (.d (e_api_Member a0))))
  (oc (OpJ.box hB (nm := 1006) (by decide) (by simp) rfl (ltN hN rfl) (ot 2 (.d (e_api_Tariff a2))))
  (oc (OpJ.alloc hB tyZ45 (nm := 1008) (by decide) (ltN hN rfl))
  (oc (OpJ.assign (ltN hN rfl) (Opd.int .i64 (0)))
  (OpJs.nil))))) (by rfl) (by rfl) ?_
  refine seqQ_n ?_
  refine AWp.ghost (mp [] [(1, (i6 a1)), (3, (qe_api_Series_4 a3)), (4, (.ptr 1004 0 [])), (6, (.ptr 1006 0 [])), (8, (.ptr 1008 0 []))] [(1004, some (.box 24 (.d (e_api_Member a0)))), (1006, some (.box 27 (.d (e_api_Tariff a2)))), (1008, some (.box 45 (.st [(i6 0), (i6 0), (i6 0), .nils, (i6 0)])))] hB) ?_
  refine AWp.seq ?_
  obtain ⟨r1, hr1, h⟩ := bindS h
  refine AWp.region (oc (lb hN 24 (.d (e_api_Member a0)) (.d (e_api_Member a0)) tyS24 (At.here _) (ot 4 (.ptr 1004 0 [])))
  (oc (OpJ.callFn hB fnOk28 (invoice_ports_ac a0 r1 hr1) [] (by kernel_rfl) (ltN hN rfl) (by kernel_rfl) (OpdL.cons (ot 20 (.d (e_api_Member a0))) OpdL.nil))
  (oc (mv hN (ot 21 (.tup [(qI_1 r1.1), (bo r1.2)])))
  (oc (OpJ.extract (v := (qI_1 r1.1)) (by rfl) rfl (ltN hN rfl) (ot 19 (.tup [(qI_1 r1.1), (bo r1.2)])))
  (oc (OpJ.extract (v := (bo r1.2)) (by rfl) rfl (ltN hN rfl) (ot 19 (.tup [(qI_1 r1.1), (bo r1.2)])))
  (oc (OpJ.assign (ltN hN rfl) (ot 22 (qI_1 r1.1)))
  (oc (OpJ.assign (ltN hN rfl) (ot 23 (bo r1.2)))
  (OpJs.nil)))))))) (by rfl) (by rfl) ?_
  refine seqQ_n ?_
  refine AWp.ghost (mp [] [(1, (i6 a1)), (3, (qe_api_Series_4 a3)), (4, (.ptr 1004 0 [])), (6, (.ptr 1006 0 [])), (8, (.ptr 1008 0 [])), (10, (qI_1 r1.1)), (11, (bo r1.2))] [(1004, some (.box 24 (.d (e_api_Member a0)))), (1006, some (.box 27 (.d (e_api_Tariff a2)))), (1008, some (.box 45 (.st [(i6 0), (i6 0), (i6 0), .nils, (i6 0)])))] hB) ?_
  refine AWp.seq ?_
  refine AWp.seq ?_
  refine AWp.cut h (fun m6 : Bool => ([(1, (i6 a1)), (3, (qe_api_Series_4 a3)), (4, (.ptr 1004 0 [])), (6, (.ptr 1006 0 [])), (8, (.ptr 1008 0 [])), (10, (qI_1 r1.1)), (36, (bo m6))] : EL)) (fun m6 : Bool => ([(1004, some (.box 24 (.d (e_api_Member a0)))), (1006, some (.box 27 (.d (e_api_Tariff a2)))), (1008, some (.box 45 (.st [(i6 0), (i6 0), (i6 0), .nils, (i6 0)])))] : OL)) (fun m6 h E' O' hmat => ?_) (fun j7 hjj7 h => ?_)
  · refine seqQ_n ?_
    refine AWp.ghost hmat ?_
    refine AWp.cond (b := m6) (by rfl) (fun hg8 => ?_) (fun hg8 => ?_)
    · replace h := ite_t hg8 h
      refine AWp.seq ?_
      refine AWp.region (oc (OpJ.build (places := [(0, 1), (1, 1), (2, 1), (3, 1), (4, 1)]) ⟨Try.underlying45, fun w => by kernel_rfl⟩ tyZS45 Opds.nil (by kernel_rfl) (r := (.st [(i6 0), (i6 0), (i6 0), .nils, (i6 0)])) (by rfl) (ltN hN rfl))
        (oc (OpJ.storeB (bt := 45) (c := (.st [(i6 0), (i6 0), (i6 0), .nils, (i6 0)])) (v := (.st [(i6 0), (i6 0), (i6 0), .nils, (i6 0)])) (c' := (.st [(i6 0), (i6 0), (i6 0), .nils, (i6 0)])) tyS45 (SetAt.here _ _) (by rfl) (by rfl) (by simp) rfl (ot 8 (.ptr 1008 0 [])) (ot 37 (.st [(i6 0), (i6 0), (i6 0), .nils, (i6 0)])))
        (oc (OpJ.assign (ltN hN rfl) (Opd.int .i64 (1)))
        (OpJs.nil)))) (by rfl) (by rfl) ?_
      refine seqQ_n ?_
      refine AWp.ghost (mp [] [(8, (.ptr 1008 0 [])), (9, (i6 1))] [(1008, some (.box 45 (.st [(i6 0), (i6 0), (i6 0), .nils, (i6 0)])))] hB) ?_
      refine AWp.ret ?_
      refine seqQ_r ?_
      obtain rfl := Option.some.inj h
      exact ⟨.inl rfl, _, _, (Mat.trans (Mat.coeP (Ts := []) (Bs := [(1008, some (.box 45 (.d (.st [(.int .i64 0), (.int .i64 0), (.int .i64 0), (.list 3 (([] : List api_Line).map e_api_Line)), (.int .i64 0)]))))]) TwT.nil (TwB.cons (x := (.st [(i6 0), (i6 0), (i6 0), .nils, (i6 0)])) (by rfl) (Tw.leaf ⟨_, (Co.st (CoL.cons (Co.d _) (CoL.cons (Co.d _) (CoL.cons (Co.d _) (CoL.cons (Co.nils 3) (CoL.cons (Co.d _) CoL.nil)))))), rfl⟩) TwB.nil)) (mp [] [(8, (.ptr 1008 0 [])), (9, (i6 1))] [(1008, some (.box 45 (.d (.st [(.int .i64 0), (.int .i64 0), (.int .i64 0), (.list 3 (([] : List api_Line).map e_api_Line)), (.int .i64 0)]))))] hB)), [(.d (.st [(.int .i64 0), (.int .i64 0), (.int .i64 0), (.list 3 (([] : List api_Line).map e_api_Line)), (.int .i64 0)])), (i6 1)], (Res.cell (c := (.d (.st [(.int .i64 0), (.int .i64 0), (.int .i64 0), (.list 3 (([] : List api_Line).map e_api_Line)), (.int .i64 0)]))) (by rfl) (by rfl) tyS45 (by rfl) (by rfl) (by rfl) (Res.tmp (by rfl) (by rfl) Res.nil)), rfl, by rfl, by rfl, by rfl⟩
    · replace h := ite_f hg8 h
      refine AWp.skip ?_
      refine seqQ_n ?_
      refine AWp.seq ?_
      refine AWp.seq ?_
      obtain ⟨r9, hr9, h⟩ := bindS h
      refine AWp.region (oc (lb hN 27 (.d (e_api_Tariff a2)) (.d (e_api_Tariff a2)) tyS27 (At.here _) (ot 6 (.ptr 1006 0 [])))
        (oc (OpJ.callFn hB fnOk26 (invoice_tariff_ac a2 r9 hr9) [] (by kernel_rfl) (ltN hN rfl) (by kernel_rfl) (OpdL.cons (ot 38 (.d (e_api_Tariff a2))) OpdL.nil))
        (oc (OpJ.not (ltN hN rfl) (ot 39 (bo r9)))
        (OpJs.nil)))) (by rfl) (by rfl) ?_
      refine seqQ_n ?_
      refine AWp.ghost (mp [] [(1, (i6 a1)), (3, (qe_api_Series_4 a3)), (4, (.ptr 1004 0 [])), (6, (.ptr 1006 0 [])), (8, (.ptr 1008 0 [])), (10, (qI_1 r1.1)), (40, (bo (!r9)))] [(1004, some (.box 24 (.d (e_api_Member a0)))), (1006, some (.box 27 (.d (e_api_Tariff a2)))), (1008, some (.box 45 (.st [(i6 0), (i6 0), (i6 0), .nils, (i6 0)])))] hB) ?_
      refine AWp.cond (b := (!r9)) (by rfl) (fun hg10 => ?_) (fun hg10 => ?_)
      · replace h := ite_t hg10 h
        refine AWp.seq ?_
        refine AWp.region (oc (OpJ.build (places := [(0, 1), (1, 1), (2, 1), (3, 1), (4, 1)]) ⟨Try.underlying45, fun w => by kernel_rfl⟩ tyZS45 Opds.nil (by kernel_rfl) (r := (.st [(i6 0), (i6 0), (i6 0), .nils, (i6 0)])) (by rfl) (ltN hN rfl))
          (oc (OpJ.storeB (bt := 45) (c := (.st [(i6 0), (i6 0), (i6 0), .nils, (i6 0)])) (v := (.st [(i6 0), (i6 0), (i6 0), .nils, (i6 0)])) (c' := (.st [(i6 0), (i6 0), (i6 0), .nils, (i6 0)])) tyS45 (SetAt.here _ _) (by rfl) (by rfl) (by simp) rfl (ot 8 (.ptr 1008 0 [])) (ot 41 (.st [(i6 0), (i6 0), (i6 0), .nils, (i6 0)])))
          (oc (OpJ.assign (ltN hN rfl) (Opd.int .i64 (38)))
          (OpJs.nil)))) (by rfl) (by rfl) ?_
        refine seqQ_n ?_
        refine AWp.ghost (mp [] [(8, (.ptr 1008 0 [])), (9, (i6 (38 : Int)))] [(1008, some (.box 45 (.st [(i6 0), (i6 0), (i6 0), .nils, (i6 0)])))] hB) ?_
        refine AWp.ret ?_
        refine seqQ_r ?_
        obtain rfl := Option.some.inj h
        exact ⟨.inl rfl, _, _, (Mat.trans (Mat.coeP (Ts := []) (Bs := [(1008, some (.box 45 (.d (.st [(.int .i64 0), (.int .i64 0), (.int .i64 0), (.list 3 (([] : List api_Line).map e_api_Line)), (.int .i64 0)]))))]) TwT.nil (TwB.cons (x := (.st [(i6 0), (i6 0), (i6 0), .nils, (i6 0)])) (by rfl) (Tw.leaf ⟨_, (Co.st (CoL.cons (Co.d _) (CoL.cons (Co.d _) (CoL.cons (Co.d _) (CoL.cons (Co.nils 3) (CoL.cons (Co.d _) CoL.nil)))))), rfl⟩) TwB.nil)) (mp [] [(8, (.ptr 1008 0 [])), (9, (i6 (38 : Int)))] [(1008, some (.box 45 (.d (.st [(.int .i64 0), (.int .i64 0), (.int .i64 0), (.list 3 (([] : List api_Line).map e_api_Line)), (.int .i64 0)]))))] hB)), [(.d (.st [(.int .i64 0), (.int .i64 0), (.int .i64 0), (.list 3 (([] : List api_Line).map e_api_Line)), (.int .i64 0)])), (i6 (38 : Int))], (Res.cell (c := (.d (.st [(.int .i64 0), (.int .i64 0), (.int .i64 0), (.list 3 (([] : List api_Line).map e_api_Line)), (.int .i64 0)]))) (by rfl) (by rfl) tyS45 (by rfl) (by rfl) (by rfl) (Res.tmp (by rfl) (by rfl) Res.nil)), rfl, by rfl, by rfl, by rfl⟩
      · replace h := ite_f hg10 h
        refine AWp.skip ?_
        refine seqQ_n ?_
        refine AWp.seq ?_
        refine AWp.region (oc (OpJ.alloc hB tyZ78 (nm := 1012) (by decide) (ltN hN rfl))
          (OpJs.nil)) (by rfl) (by rfl) ?_
        refine seqQ_n ?_
        refine AWp.ghost (mp [] [(1, (i6 a1)), (3, (qe_api_Series_4 a3)), (4, (.ptr 1004 0 [])), (6, (.ptr 1006 0 [])), (8, (.ptr 1008 0 [])), (10, (qI_1 r1.1)), (12, (.ptr 1012 0 []))] [(1004, some (.box 24 (.d (e_api_Member a0)))), (1006, some (.box 27 (.d (e_api_Tariff a2)))), (1008, some (.box 45 (.st [(i6 0), (i6 0), (i6 0), .nils, (i6 0)]))), (1012, some (.box 78 (.st [.nils])))] hB) ?_
        refine AWp.seq ?_
        refine AWp.seq ?_
        refine AWp.region (oc (mv hN (ot 10 (qI_1 r1.1)))
          (oc (OpJ.val (v' := (i6 (r1.1.length : Int))) (by simp) (OpJ.lenD Try.underlying28 (ltN hN rfl) (ot 42 (qI_1 r1.1))))
          (oc (mv hN (Opd.int .i64 (0)))
          (OpJs.nil)))) (by rfl) (by rfl) ?_
        refine seqQ_n ?_
        refine AWp.ghost (mp [] [(1, (i6 a1)), (3, (qe_api_Series_4 a3)), (4, (.ptr 1004 0 [])), (6, (.ptr 1006 0 [])), (8, (.ptr 1008 0 [])), (12, (.ptr 1012 0 [])), (42, (qI_1 r1.1)), (43, (i6 (r1.1.length : Int))), (44, (i6 0))] [(1004, some (.box 24 (.d (e_api_Member a0)))), (1006, some (.box 27 (.d (e_api_Tariff a2)))), (1008, some (.box 45 (.st [(i6 0), (i6 0), (i6 0), .nils, (i6 0)]))), (1012, some (.box 78 (.st [.nils])))] hB) ?_
        refine AWp.block ?_
        obtain ⟨x44, hx45, h⟩ := bindS h
        refine AWp.ghost (Mat.trans (Mat.beginP (n := 13120) (e := 51) (sz := 3) (Ts := []) (Bs := [(1012, some (.box 78 (.st [(.sref 13120 3 0 0)])))]) hB (by decide) (by rfl) (by decide) TwT.nil (TwB.cons (x := (.st [.nils])) (by rfl) (Tw.st (TwL.cons (Tw.leaf ⟨rfl, rfl⟩) TwL.nil)) TwB.nil)) (mp [] ((fun s11 : Int × (List api_Line) => ([(1, (i6 a1)), (3, (qe_api_Series_4 a3)), (4, (.ptr 1004 0 [])), (6, (.ptr 1006 0 [])), (8, (.ptr 1008 0 [])), (12, (.ptr 1012 0 [])), (42, (qI_1 r1.1)), (43, (i6 (r1.1.length : Int))), (44, (i6 s11.1))] : EL)) ((0 : Int), ([] : List api_Line))) ((fun s11 : Int × (List api_Line) => ([(1004, some (.box 24 (.d (e_api_Member a0)))), (1006, some (.box 27 (.d (e_api_Tariff a2)))), (1008, some (.box 45 (.st [(i6 0), (i6 0), (i6 0), .nils, (i6 0)]))), (1012, some (.box 78 (.st [(.sref 13120 3 0 s11.2.length)]))), (13120, some (we_api_Line_51_3 s11.2))] : OL)) ((0 : Int), ([] : List api_Line))) hB)) ?_
        refine AWp.loopS (invoice_Make_L0 a2 a3 r1) (fun s11 : Int × (List api_Line) => ([(1, (i6 a1)), (3, (qe_api_Series_4 a3)), (4, (.ptr 1004 0 [])), (6, (.ptr 1006 0 [])), (8, (.ptr 1008 0 [])), (12, (.ptr 1012 0 [])), (42, (qI_1 r1.1)), (43, (i6 (r1.1.length : Int))), (44, (i6 s11.1))] : EL)) (fun s11 : Int × (List api_Line) => ([(1004, some (.box 24 (.d (e_api_Member a0)))), (1006, some (.box 27 (.d (e_api_Tariff a2)))), (1008, some (.box 45 (.st [(i6 0), (i6 0), (i6 0), .nils, (i6 0)]))), (1012, some (.box 78 (.st [(.sref 13120 3 0 s11.2.length)]))), (13120, some (we_api_Line_51_3 s11.2))] : OL)) (fun (x : (Int) ⊕ ((List api_Line))) e E' O' => match x with | (.inl p32) => e = .ret ∧ Mat B E' O' ([(8, (.ptr 1008 0 [])), (9, (i6 p32))] : EL) ([(1008, some (.box 45 (.st [(i6 0), (i6 0), (i6 0), .nils, (i6 0)])))] : OL) | (.inr p33) => e = .exit 0 ∧ Mat B E' O' ([(1, (i6 a1)), (4, (.ptr 1004 0 [])), (8, (.ptr 1008 0 [])), (12, (.ptr 1012 0 []))] : EL) ([(1004, some (.box 24 (.d (e_api_Member a0)))), (1008, some (.box 45 (.st [(i6 0), (i6 0), (i6 0), .nils, (i6 0)]))), (1012, some (.box 78 (.st [(.sref 13120 3 0 p33.length)]))), (13120, some (we_api_Line_51_3 p33))] : OL)) hx45 (fun s11 y h => ?_) (fun e E' O' hR => ?_)
        · unfold invoice_Make_L0 at h
          show AWp _ _ _ _ ([(1, (i6 a1)), (3, (qe_api_Series_4 a3)), (4, (.ptr 1004 0 [])), (6, (.ptr 1006 0 [])), (8, (.ptr 1008 0 [])), (12, (.ptr 1012 0 [])), (42, (qI_1 r1.1)), (43, (i6 (r1.1.length : Int))), (44, (i6 s11.1))] : EL) ([(1004, some (.box 24 (.d (e_api_Member a0)))), (1006, some (.box 27 (.d (e_api_Tariff a2)))), (1008, some (.box 45 (.st [(i6 0), (i6 0), (i6 0), .nils, (i6 0)]))), (1012, some (.box 78 (.st [(.sref 13120 3 0 s11.2.length)]))), (13120, some (we_api_Line_51_3 s11.2))] : OL)
          refine AWp.seq ?_
          refine AWp.region (oc (OpJ.lss (ltN hN rfl) (ot 44 (i6 s11.1)) (ot 43 (i6 (r1.1.length : Int))))
            (OpJs.nil)) (by rfl) (by rfl) ?_
          refine seqQ_n ?_
          refine AWp.ghost (mp [] [(1, (i6 a1)), (3, (qe_api_Series_4 a3)), (4, (.ptr 1004 0 [])), (6, (.ptr 1006 0 [])), (8, (.ptr 1008 0 [])), (12, (.ptr 1012 0 [])), (42, (qI_1 r1.1)), (43, (i6 (r1.1.length : Int))), (44, (i6 s11.1)), (45, (bo (decide (s11.1 < (r1.1.length : Int)))))] [(1004, some (.box 24 (.d (e_api_Member a0)))), (1006, some (.box 27 (.d (e_api_Tariff a2)))), (1008, some (.box 45 (.st [(i6 0), (i6 0), (i6 0), .nils, (i6 0)]))), (1012, some (.box 78 (.st [(.sref 13120 3 0 s11.2.length)]))), (13120, some (we_api_Line_51_3 s11.2))] hB) ?_
          refine AWp.seq ?_
          refine AWp.cond (b := (decide (s11.1 < (r1.1.length : Int)))) (by rfl) (fun hg34 => ?_) (fun hg34 => ?_)
          · replace h := ite_t hg34 h
            refine AWp.skip ?_
            refine seqQ_n ?_
            refine AWp.seq ?_
            refine AWp.block ?_
            refine AWp.seq ?_
            obtain ⟨x35, hx35, h⟩ := bindS h
            refine AWp.region (oc (OpJ.indexD (el := (.int .i64 x35)) Try.underlying28 tyS3 (idx_some hx35).1 (get_map (eI .i64) (idx_some hx35).2) (ltN hN rfl) (ot 42 (qI_1 r1.1)) (ot 44 (i6 s11.1)))
              (oc (OpJ.loadD tyS3 (by rfl) (by rfl) (ltN hN rfl) (ot 46 (.dptr (.int .i64 x35))))
              (oc (OpJ.alloc hB tyZ3 (nm := 1014) (by decide) (ltN hN rfl))
              (oc (OpJ.storeB (bt := 3) (c := (i6 0)) (v := (i6 x35)) (c' := (i6 x35)) tyS3 (SetAt.here _ _) (by rfl) (by rfl) (by simp) rfl (ot 14 (.ptr 1014 0 [])) (ot 47 (i6 x35)))
              (OpJs.nil))))) (by rfl) (by rfl) ?_
            refine seqQ_n ?_
            refine AWp.ghost (mp [] [(1, (i6 a1)), (3, (qe_api_Series_4 a3)), (4, (.ptr 1004 0 [])), (6, (.ptr 1006 0 [])), (8, (.ptr 1008 0 [])), (12, (.ptr 1012 0 [])), (14, (.ptr 1014 0 [])), (42, (qI_1 r1.1)), (43, (i6 (r1.1.length : Int))), (44, (i6 s11.1))] [(1004, some (.box 24 (.d (e_api_Member a0)))), (1006, some (.box 27 (.d (e_api_Tariff a2)))), (1008, some (.box 45 (.st [(i6 0), (i6 0), (i6 0), .nils, (i6 0)]))), (1012, some (.box 78 (.st [(.sref 13120 3 0 s11.2.length)]))), (1014, some (.box 3 (i6 x35))), (13120, some (we_api_Line_51_3 s11.2))] hB) ?_
            refine AWp.seq ?_
            obtain ⟨r36, hr36, h⟩ := bindS h
            refine AWp.region (oc (mv hN (ot 3 (qe_api_Series_4 a3)))
              (oc (OpJ.makeF (OpdL.cons (ot 14 (.ptr 1014 0 [])) OpdL.nil) rfl rfl (ltN hN rfl))
              (oc (OpJ.callFn hB fnOk31 (slices_IndexFunc_ac a3 x35 r36 hr36) [(0, 1014)] (by kernel_rfl) (ltN hN rfl) (by kernel_rfl) (OpdL.cons (ot 48 (qe_api_Series_4 a3)) (OpdL.cons (ot 49 (.func 32 [(.ptr 1014 0 [])])) OpdL.nil)))
              (oc (OpJ.assign (ltN hN rfl) (ot 50 (i6 r36)))
              (OpJs.nil))))) (by rfl) (by rfl) ?_
            refine seqQ_n ?_
            refine AWp.ghost (mp [] [(1, (i6 a1)), (3, (qe_api_Series_4 a3)), (4, (.ptr 1004 0 [])), (6, (.ptr 1006 0 [])), (8, (.ptr 1008 0 [])), (12, (.ptr 1012 0 [])), (14, (.ptr 1014 0 [])), (15, (i6 r36)), (42, (qI_1 r1.1)), (43, (i6 (r1.1.length : Int))), (44, (i6 s11.1))] [(1004, some (.box 24 (.d (e_api_Member a0)))), (1006, some (.box 27 (.d (e_api_Tariff a2)))), (1008, some (.box 45 (.st [(i6 0), (i6 0), (i6 0), .nils, (i6 0)]))), (1012, some (.box 78 (.st [(.sref 13120 3 0 s11.2.length)]))), (1014, some (.box 3 (i6 x35))), (13120, some (we_api_Line_51_3 s11.2))] hB) ?_
            refine AWp.seq ?_
            refine AWp.seq ?_
            refine AWp.region (oc (mv hN (ot 15 (i6 r36)))
              (oc (OpJ.lss (ltN hN rfl) (ot 51 (i6 r36)) (Opd.int .i64 (0)))
              (OpJs.nil))) (by rfl) (by rfl) ?_
            refine seqQ_n ?_
            refine AWp.ghost (mp [] [(1, (i6 a1)), (3, (qe_api_Series_4 a3)), (4, (.ptr 1004 0 [])), (6, (.ptr 1006 0 [])), (8, (.ptr 1008 0 [])), (12, (.ptr 1012 0 [])), (14, (.ptr 1014 0 [])), (15, (i6 r36)), (42, (qI_1 r1.1)), (43, (i6 (r1.1.length : Int))), (44, (i6 s11.1)), (52, (bo (decide (r36 < (0 : Int)))))] [(1004, some (.box 24 (.d (e_api_Member a0)))), (1006, some (.box 27 (.d (e_api_Tariff a2)))), (1008, some (.box 45 (.st [(i6 0), (i6 0), (i6 0), .nils, (i6 0)]))), (1012, some (.box 78 (.st [(.sref 13120 3 0 s11.2.length)]))), (1014, some (.box 3 (i6 x35))), (13120, some (we_api_Line_51_3 s11.2))] hB) ?_
            refine AWp.cond (b := (decide (r36 < (0 : Int)))) (by rfl) (fun hg37 => ?_) (fun hg37 => ?_)
            · replace h := ite_t hg37 h
              refine AWp.seq ?_
              refine AWp.region (oc (OpJ.build (places := [(0, 1), (1, 1), (2, 1), (3, 1), (4, 1)]) ⟨Try.underlying45, fun w => by kernel_rfl⟩ tyZS45 Opds.nil (by kernel_rfl) (r := (.st [(i6 0), (i6 0), (i6 0), .nils, (i6 0)])) (by rfl) (ltN hN rfl))
                (oc (OpJ.storeB (bt := 45) (c := (.st [(i6 0), (i6 0), (i6 0), .nils, (i6 0)])) (v := (.st [(i6 0), (i6 0), (i6 0), .nils, (i6 0)])) (c' := (.st [(i6 0), (i6 0), (i6 0), .nils, (i6 0)])) tyS45 (SetAt.here _ _) (by rfl) (by rfl) (by simp) rfl (ot 8 (.ptr 1008 0 [])) (ot 53 (.st [(i6 0), (i6 0), (i6 0), .nils, (i6 0)])))
                (oc (OpJ.assign (ltN hN rfl) (Opd.int .i64 (7)))
                (OpJs.nil)))) (by rfl) (by rfl) ?_
              refine seqQ_n ?_
              refine AWp.ghost (mp [] [(8, (.ptr 1008 0 [])), (9, (i6 (7 : Int)))] [(1008, some (.box 45 (.st [(i6 0), (i6 0), (i6 0), .nils, (i6 0)])))] hB) ?_
              refine AWp.ret ?_
              refine seqQ_r ?_
              refine blkQ_r ?_
              refine seqQ_r ?_
              obtain rfl := Option.some.inj h
              exact ⟨(fun hc => by cases hc), rfl, (mp [] ((fun p32 : Int => ([(8, (.ptr 1008 0 [])), (9, (i6 p32))] : EL)) (7 : Int)) ((fun p32 : Int => ([(1008, some (.box 45 (.st [(i6 0), (i6 0), (i6 0), .nils, (i6 0)])))] : OL)) (7 : Int)) hB)⟩
            · replace h := ite_f hg37 h
              refine AWp.skip ?_
              refine seqQ_n ?_
              refine AWp.seq ?_
              obtain ⟨x38, hx38, h⟩ := bindS h
              obtain ⟨r39, hr39, h⟩ := bindS h
              refine AWp.region (oc (mv hN (ot 3 (qe_api_Series_4 a3)))
                (oc (mv hN (ot 15 (i6 r36)))
                (oc (OpJ.indexD (el := (e_api_Series x38)) Try.underlying25 tyS31 (idx_some hx38).1 (get_map e_api_Series (idx_some hx38).2) (ltN hN rfl) (ot 55 (qe_api_Series_4 a3)) (ot 56 (i6 r36)))
                (oc (OpJ.loadD tyS31 (by rfl) (by rfl) (ltN hN rfl) (ot 57 (.dptr (e_api_Series x38))))
                (oc (OpJ.callFn hB fnOk33 (percentile_Used_ac x38 (95 : Int) r39 hr39) [] (by kernel_rfl) (ltN hN rfl) (by kernel_rfl) (OpdL.cons (ot 58 (.d (e_api_Series x38))) (OpdL.cons (Opd.int .i64 (95)) OpdL.nil)))
                (oc (mv hN (ot 59 (.tup [(i6 r39.1), (i6 r39.2)])))
                (oc (OpJ.extract (v := (i6 r39.1)) (by rfl) rfl (ltN hN rfl) (ot 54 (.tup [(i6 r39.1), (i6 r39.2)])))
                (oc (OpJ.extract (v := (i6 r39.2)) (by rfl) rfl (ltN hN rfl) (ot 54 (.tup [(i6 r39.1), (i6 r39.2)])))
                (oc (OpJ.assign (ltN hN rfl) (ot 60 (i6 r39.1)))
                (oc (OpJ.assign (ltN hN rfl) (ot 61 (i6 r39.2)))
                (OpJs.nil))))))))))) (by rfl) (by rfl) ?_
              refine seqQ_n ?_
              refine AWp.ghost (mp [] [(1, (i6 a1)), (3, (qe_api_Series_4 a3)), (4, (.ptr 1004 0 [])), (6, (.ptr 1006 0 [])), (8, (.ptr 1008 0 [])), (12, (.ptr 1012 0 [])), (14, (.ptr 1014 0 [])), (16, (i6 r39.1)), (17, (i6 r39.2)), (42, (qI_1 r1.1)), (43, (i6 (r1.1.length : Int))), (44, (i6 s11.1))] [(1004, some (.box 24 (.d (e_api_Member a0)))), (1006, some (.box 27 (.d (e_api_Tariff a2)))), (1008, some (.box 45 (.st [(i6 0), (i6 0), (i6 0), .nils, (i6 0)]))), (1012, some (.box 78 (.st [(.sref 13120 3 0 s11.2.length)]))), (1014, some (.box 3 (i6 x35))), (13120, some (we_api_Line_51_3 s11.2))] hB) ?_
              refine AWp.seq ?_
              refine AWp.seq ?_
              refine AWp.region (oc (mv hN (ot 17 (i6 r39.2)))
                (oc (OpJ.neqI (ltN hN rfl) (ot 62 (i6 r39.2)) (Opd.int .i64 (0)))
                (OpJs.nil))) (by rfl) (by rfl) ?_
              refine seqQ_n ?_
              refine AWp.ghost (mp [] [(1, (i6 a1)), (3, (qe_api_Series_4 a3)), (4, (.ptr 1004 0 [])), (6, (.ptr 1006 0 [])), (8, (.ptr 1008 0 [])), (12, (.ptr 1012 0 [])), (14, (.ptr 1014 0 [])), (16, (i6 r39.1)), (17, (i6 r39.2)), (42, (qI_1 r1.1)), (43, (i6 (r1.1.length : Int))), (44, (i6 s11.1)), (63, (bo (r39.2 != (0 : Int))))] [(1004, some (.box 24 (.d (e_api_Member a0)))), (1006, some (.box 27 (.d (e_api_Tariff a2)))), (1008, some (.box 45 (.st [(i6 0), (i6 0), (i6 0), .nils, (i6 0)]))), (1012, some (.box 78 (.st [(.sref 13120 3 0 s11.2.length)]))), (1014, some (.box 3 (i6 x35))), (13120, some (we_api_Line_51_3 s11.2))] hB) ?_
              refine AWp.cond (b := (r39.2 != (0 : Int))) (by rfl) (fun hg40 => ?_) (fun hg40 => ?_)
              · replace h := ite_t hg40 h
                refine AWp.seq ?_
                refine AWp.region (oc (OpJ.build (places := [(0, 1), (1, 1), (2, 1), (3, 1), (4, 1)]) ⟨Try.underlying45, fun w => by kernel_rfl⟩ tyZS45 Opds.nil (by kernel_rfl) (r := (.st [(i6 0), (i6 0), (i6 0), .nils, (i6 0)])) (by rfl) (ltN hN rfl))
                  (oc (mv hN (ot 17 (i6 r39.2)))
                  (oc (OpJ.storeB (bt := 45) (c := (.st [(i6 0), (i6 0), (i6 0), .nils, (i6 0)])) (v := (.st [(i6 0), (i6 0), (i6 0), .nils, (i6 0)])) (c' := (.st [(i6 0), (i6 0), (i6 0), .nils, (i6 0)])) tyS45 (SetAt.here _ _) (by rfl) (by rfl) (by simp) rfl (ot 8 (.ptr 1008 0 [])) (ot 64 (.st [(i6 0), (i6 0), (i6 0), .nils, (i6 0)])))
                  (oc (OpJ.assign (ltN hN rfl) (ot 65 (i6 r39.2)))
                  (OpJs.nil))))) (by rfl) (by rfl) ?_
                refine seqQ_n ?_
                refine AWp.ghost (mp [] [(8, (.ptr 1008 0 [])), (9, (i6 r39.2))] [(1008, some (.box 45 (.st [(i6 0), (i6 0), (i6 0), .nils, (i6 0)])))] hB) ?_
                refine AWp.ret ?_
                refine seqQ_r ?_
                refine blkQ_r ?_
                refine seqQ_r ?_
                obtain rfl := Option.some.inj h
                exact ⟨(fun hc => by cases hc), rfl, (mp [] ((fun p32 : Int => ([(8, (.ptr 1008 0 [])), (9, (i6 p32))] : EL)) r39.2) ((fun p32 : Int => ([(1008, some (.box 45 (.st [(i6 0), (i6 0), (i6 0), .nils, (i6 0)])))] : OL)) r39.2) hB)⟩
              · replace h := ite_f hg40 h
                refine AWp.skip ?_
                refine seqQ_n ?_
                refine AWp.seq ?_
                obtain ⟨r41, hr41, h⟩ := bindS h
                refine AWp.region (oc (lb hN 27 (.d (e_api_Tariff a2)) (.d (e_api_Tariff a2)) tyS27 (At.here _) (ot 6 (.ptr 1006 0 [])))
                  (oc (mv hN (ot 16 (i6 r39.1)))
                  (oc (OpJ.callFn hB fnOk11 (invoice_Price_ac a2 r39.1 r41 hr41) [] (by kernel_rfl) (ltN hN rfl) (by kernel_rfl) (OpdL.cons (ot 67 (.d (e_api_Tariff a2))) (OpdL.cons (ot 68 (i6 r39.1)) OpdL.nil)))
                  (oc (mv hN (ot 69 (.tup [(i6 r41.1), (i6 r41.2)])))
                  (oc (OpJ.extract (v := (i6 r41.1)) (by rfl) rfl (ltN hN rfl) (ot 66 (.tup [(i6 r41.1), (i6 r41.2)])))
                  (oc (OpJ.extract (v := (i6 r41.2)) (by rfl) rfl (ltN hN rfl) (ot 66 (.tup [(i6 r41.1), (i6 r41.2)])))
                  (oc (OpJ.assign (ltN hN rfl) (ot 70 (i6 r41.1)))
                  (oc (OpJ.assign (ltN hN rfl) (ot 71 (i6 r41.2)))
                  (OpJs.nil))))))))) (by rfl) (by rfl) ?_
                refine seqQ_n ?_
                refine AWp.ghost (mp [] [(1, (i6 a1)), (3, (qe_api_Series_4 a3)), (4, (.ptr 1004 0 [])), (6, (.ptr 1006 0 [])), (8, (.ptr 1008 0 [])), (12, (.ptr 1012 0 [])), (14, (.ptr 1014 0 [])), (16, (i6 r39.1)), (17, (i6 r41.2)), (18, (i6 r41.1)), (42, (qI_1 r1.1)), (43, (i6 (r1.1.length : Int))), (44, (i6 s11.1))] [(1004, some (.box 24 (.d (e_api_Member a0)))), (1006, some (.box 27 (.d (e_api_Tariff a2)))), (1008, some (.box 45 (.st [(i6 0), (i6 0), (i6 0), .nils, (i6 0)]))), (1012, some (.box 78 (.st [(.sref 13120 3 0 s11.2.length)]))), (1014, some (.box 3 (i6 x35))), (13120, some (we_api_Line_51_3 s11.2))] hB) ?_
                refine AWp.seq ?_
                refine AWp.seq ?_
                refine AWp.region (oc (mv hN (ot 17 (i6 r41.2)))
                  (oc (OpJ.neqI (ltN hN rfl) (ot 72 (i6 r41.2)) (Opd.int .i64 (0)))
                  (OpJs.nil))) (by rfl) (by rfl) ?_
                refine seqQ_n ?_
                refine AWp.ghost (mp [] [(1, (i6 a1)), (3, (qe_api_Series_4 a3)), (4, (.ptr 1004 0 [])), (6, (.ptr 1006 0 [])), (8, (.ptr 1008 0 [])), (12, (.ptr 1012 0 [])), (14, (.ptr 1014 0 [])), (16, (i6 r39.1)), (17, (i6 r41.2)), (18, (i6 r41.1)), (42, (qI_1 r1.1)), (43, (i6 (r1.1.length : Int))), (44, (i6 s11.1)), (73, (bo (r41.2 != (0 : Int))))] [(1004, some (.box 24 (.d (e_api_Member a0)))), (1006, some (.box 27 (.d (e_api_Tariff a2)))), (1008, some (.box 45 (.st [(i6 0), (i6 0), (i6 0), .nils, (i6 0)]))), (1012, some (.box 78 (.st [(.sref 13120 3 0 s11.2.length)]))), (1014, some (.box 3 (i6 x35))), (13120, some (we_api_Line_51_3 s11.2))] hB) ?_
                refine AWp.cond (b := (r41.2 != (0 : Int))) (by rfl) (fun hg42 => ?_) (fun hg42 => ?_)
                · replace h := ite_t hg42 h
                  refine AWp.seq ?_
                  refine AWp.region (oc (OpJ.build (places := [(0, 1), (1, 1), (2, 1), (3, 1), (4, 1)]) ⟨Try.underlying45, fun w => by kernel_rfl⟩ tyZS45 Opds.nil (by kernel_rfl) (r := (.st [(i6 0), (i6 0), (i6 0), .nils, (i6 0)])) (by rfl) (ltN hN rfl))
                    (oc (mv hN (ot 17 (i6 r41.2)))
                    (oc (OpJ.storeB (bt := 45) (c := (.st [(i6 0), (i6 0), (i6 0), .nils, (i6 0)])) (v := (.st [(i6 0), (i6 0), (i6 0), .nils, (i6 0)])) (c' := (.st [(i6 0), (i6 0), (i6 0), .nils, (i6 0)])) tyS45 (SetAt.here _ _) (by rfl) (by rfl) (by simp) rfl (ot 8 (.ptr 1008 0 [])) (ot 74 (.st [(i6 0), (i6 0), (i6 0), .nils, (i6 0)])))
                    (oc (OpJ.assign (ltN hN rfl) (ot 75 (i6 r41.2)))
                    (OpJs.nil))))) (by rfl) (by rfl) ?_
                  refine seqQ_n ?_
                  refine AWp.ghost (mp [] [(8, (.ptr 1008 0 [])), (9, (i6 r41.2))] [(1008, some (.box 45 (.st [(i6 0), (i6 0), (i6 0), .nils, (i6 0)])))] hB) ?_
                  refine AWp.ret ?_
                  refine seqQ_r ?_
                  refine blkQ_r ?_
                  refine seqQ_r ?_
                  obtain rfl := Option.some.inj h
                  exact ⟨(fun hc => by cases hc), rfl, (mp [] ((fun p32 : Int => ([(8, (.ptr 1008 0 [])), (9, (i6 p32))] : EL)) r41.2) ((fun p32 : Int => ([(1008, some (.box 45 (.st [(i6 0), (i6 0), (i6 0), .nils, (i6 0)])))] : OL)) r41.2) hB)⟩
                · replace h := ite_f hg42 h
                  refine AWp.skip ?_
                  refine seqQ_n ?_
                  obtain ⟨r43, hr43, h⟩ := bindS h
                  refine AWp.region (oc (lb hN 3 (i6 x35) (i6 x35) tyS3 (At.here _) (ot 14 (.ptr 1014 0 [])))
                    (oc (mv hN (ot 16 (i6 r39.1)))
                    (oc (mv hN (ot 18 (i6 r41.1)))
                    (oc (OpJ.coe (v := (.st [(i6 x35), (i6 r39.1), (i6 r41.1)])) (y := (.st [(.int .i64 x35), (.int .i64 r39.1), (.int .i64 r41.1)])) (Co.st (CoL.cons (Co.d _) (CoL.cons (Co.d _) (CoL.cons (Co.d _) CoL.nil)))) rfl (OpJ.build (places := [(0, 1), (1, 1), (2, 1)]) ⟨Try.underlying51, fun w => by kernel_rfl⟩ tyZS51 (Opds.cons (ot 76 (i6 x35)) (Opds.cons (ot 77 (i6 r39.1)) (Opds.cons (ot 78 (i6 r41.1)) Opds.nil))) (by kernel_rfl) (r := (.st [(i6 x35), (i6 r39.1), (i6 r41.1)])) (by rfl) (ltN hN rfl)))
                    (oc (OpJ.callFn hB fnOk34 (invoice_sums_add_2_ac s11.2 (api_Line.mk x35 r39.1 r41.1) (1 : Int) r43 hr43) [(0, 1012), (1, 13120), (950000, 100700)] (by kernel_rfl) (ltN hN rfl) (by kernel_rfl) (OpdL.cons (ot 12 (.ptr 1012 0 [])) (OpdL.cons (ot 79 (.d (.st [(.int .i64 x35), (.int .i64 r39.1), (.int .i64 r41.1)]))) (OpdL.cons (Opd.int .i64 (1)) OpdL.nil))))
                    (OpJs.nil)))))) (by rfl) (by rfl) ?_
                  refine blkQ_n ?_
                  refine seqQ_n ?_
                  refine AWp.ghost (mp [] [(1, (i6 a1)), (3, (qe_api_Series_4 a3)), (4, (.ptr 1004 0 [])), (6, (.ptr 1006 0 [])), (8, (.ptr 1008 0 [])), (12, (.ptr 1012 0 [])), (42, (qI_1 r1.1)), (43, (i6 (r1.1.length : Int))), (44, (i6 s11.1))] [(1004, some (.box 24 (.d (e_api_Member a0)))), (1006, some (.box 27 (.d (e_api_Tariff a2)))), (1008, some (.box 45 (.st [(i6 0), (i6 0), (i6 0), .nils, (i6 0)]))), (1012, some (.box 78 (.st [(.sref 100700 3 0 r43.flines.length)]))), (100700, some (we_api_Line_51_3 r43.flines))] hB) ?_
                  refine AWp.region (oc (OpJ.add (ltN hN rfl) (ot 44 (i6 s11.1)) (Opd.int .i64 (1)))
                    (oc (mv hN (ot 81 (i6 (w64 (s11.1 + (1 : Int))))))
                    (OpJs.nil))) (by rfl) (by rfl) ?_
                  obtain rfl := Option.some.inj h
                  exact ⟨rfl, (Mat.trans (mp [] [(1, (i6 a1)), (3, (qe_api_Series_4 a3)), (4, (.ptr 1004 0 [])), (6, (.ptr 1006 0 [])), (8, (.ptr 1008 0 [])), (12, (.ptr 1012 0 [])), (42, (qI_1 r1.1)), (43, (i6 (r1.1.length : Int))), (44, (i6 (w64 (s11.1 + (1 : Int)))))] [(1004, some (.box 24 (.d (e_api_Member a0)))), (1006, some (.box 27 (.d (e_api_Tariff a2)))), (1008, some (.box 45 (.st [(i6 0), (i6 0), (i6 0), .nils, (i6 0)]))), (1012, some (.box 78 (.st [(.sref 100700 3 0 r43.flines.length)]))), (100700, some (we_api_Line_51_3 r43.flines))] hB) (mp [(13120, 100700)] ((fun s11 : Int × (List api_Line) => ([(1, (i6 a1)), (3, (qe_api_Series_4 a3)), (4, (.ptr 1004 0 [])), (6, (.ptr 1006 0 [])), (8, (.ptr 1008 0 [])), (12, (.ptr 1012 0 [])), (42, (qI_1 r1.1)), (43, (i6 (r1.1.length : Int))), (44, (i6 s11.1))] : EL)) ((w64 (s11.1 + (1 : Int))), r43.flines)) ((fun s11 : Int × (List api_Line) => ([(1004, some (.box 24 (.d (e_api_Member a0)))), (1006, some (.box 27 (.d (e_api_Tariff a2)))), (1008, some (.box 45 (.st [(i6 0), (i6 0), (i6 0), .nils, (i6 0)]))), (1012, some (.box 78 (.st [(.sref 13120 3 0 s11.2.length)]))), (13120, some (we_api_Line_51_3 s11.2))] : OL)) ((w64 (s11.1 + (1 : Int))), r43.flines)) hB))⟩
          · replace h := ite_f hg34 h
            refine AWp.exit ?_
            refine seqQ_e ?_
            obtain rfl := Option.some.inj h
            exact ⟨(fun hc => by cases hc), rfl, (mp [] ((fun p33 : (List api_Line) => ([(1, (i6 a1)), (4, (.ptr 1004 0 [])), (8, (.ptr 1008 0 [])), (12, (.ptr 1012 0 []))] : EL)) s11.2) ((fun p33 : (List api_Line) => ([(1004, some (.box 24 (.d (e_api_Member a0)))), (1008, some (.box 45 (.st [(i6 0), (i6 0), (i6 0), .nils, (i6 0)]))), (1012, some (.box 78 (.st [(.sref 13120 3 0 p33.length)]))), (13120, some (we_api_Line_51_3 p33))] : OL)) s11.2) hB)⟩
        · rcases x44 with p32 | p33
          · obtain ⟨rfl, hmat⟩ := hR
            refine blkQ_r ?_
            refine seqQ_r ?_
            obtain rfl := Option.some.inj h
            exact ⟨.inl rfl, _, _, (Mat.trans hmat (Mat.trans (Mat.coeP (Ts := []) (Bs := [(1008, some (.box 45 (.d (.st [(.int .i64 0), (.int .i64 0), (.int .i64 0), (.list 3 (([] : List api_Line).map e_api_Line)), (.int .i64 0)]))))]) TwT.nil (TwB.cons (x := (.st [(i6 0), (i6 0), (i6 0), .nils, (i6 0)])) (by rfl) (Tw.leaf ⟨_, (Co.st (CoL.cons (Co.d _) (CoL.cons (Co.d _) (CoL.cons (Co.d _) (CoL.cons (Co.nils 3) (CoL.cons (Co.d _) CoL.nil)))))), rfl⟩) TwB.nil)) (mp [] [(8, (.ptr 1008 0 [])), (9, (i6 p32))] [(1008, some (.box 45 (.d (.st [(.int .i64 0), (.int .i64 0), (.int .i64 0), (.list 3 (([] : List api_Line).map e_api_Line)), (.int .i64 0)]))))] hB))), [(.d (.st [(.int .i64 0), (.int .i64 0), (.int .i64 0), (.list 3 (([] : List api_Line).map e_api_Line)), (.int .i64 0)])), (i6 p32)], (Res.cell (c := (.d (.st [(.int .i64 0), (.int .i64 0), (.int .i64 0), (.list 3 (([] : List api_Line).map e_api_Line)), (.int .i64 0)]))) (by rfl) (by rfl) tyS45 (by rfl) (by rfl) (by rfl) (Res.tmp (by rfl) (by rfl) Res.nil)), rfl, by rfl, by rfl, by rfl⟩
          · obtain ⟨rfl, hmat⟩ := hR
            refine blkQ_hit ?_
            refine seqQ_n ?_
            refine AWp.ghost hmat ?_
            refine AWp.seq ?_
            obtain ⟨r46, hr46, h⟩ := bindS h
            refine AWp.region (oc (ov (.ptr 1004 0 [0]) (fp hN Try.underlying24 0 tyS3 (.box 24 (.d (e_api_Member a0))) (ot 4 (.ptr 1004 0 []))))
              (oc (lb hN 24 (.d (e_api_Member a0)) (i6 a0.fASN) tyS3 (ad (.int .i64 a0.fASN)) (ot 82 (.ptr 1004 0 [0])))
              (oc (mv hN (ot 1 (i6 a1)))
              (oc (OpJ.callFn hB fnOk35 (invoice_sums_invoice_ac p33 a0.fASN a1 (1 : Int) r46 hr46) [(0, 1012), (1, 13120)] (by kernel_rfl) (ltN hN rfl) (by kernel_rfl) (OpdL.cons (ot 12 (.ptr 1012 0 [])) (OpdL.cons (ot 83 (i6 a0.fASN)) (OpdL.cons (ot 84 (i6 a1)) (OpdL.cons (Opd.int .i64 (1)) OpdL.nil)))))
              (oc (OpJ.storeB (bt := 45) (c := (.st [(i6 0), (i6 0), (i6 0), .nils, (i6 0)])) (v := (.d (e_api_Invoice r46.1))) (c' := (.d (e_api_Invoice r46.1))) tyS45 (SetAt.here _ _) (by rfl) (by rfl) (by simp) rfl (ot 8 (.ptr 1008 0 [])) (ot 85 (.d (e_api_Invoice r46.1))))
              (oc (OpJ.assign (ltN hN rfl) (Opd.int .i64 (0)))
              (OpJs.nil))))))) (by rfl) (by rfl) ?_
            refine seqQ_n ?_
            refine AWp.ghost (mp [] [(8, (.ptr 1008 0 [])), (9, (i6 0))] [(1008, some (.box 45 (.d (e_api_Invoice r46.1))))] hB) ?_
            refine AWp.ret ?_
            obtain rfl := Option.some.inj h
            exact ⟨.inl rfl, _, _, (mp [] [(8, (.ptr 1008 0 [])), (9, (i6 0))] [(1008, some (.box 45 (.d (e_api_Invoice r46.1))))] hB), [(.d (e_api_Invoice r46.1)), (i6 0)], (Res.cell (c := (.d (e_api_Invoice r46.1))) (by rfl) (by rfl) tyS45 (by rfl) (by rfl) (by rfl) (Res.tmp (by rfl) (by rfl) Res.nil)), rfl, by rfl, by rfl, by rfl⟩
  · rcases Bool.eq_false_or_eq_true (!r1.2) with hg47 | hg47
    · replace h := ite_t hg47 h
      refine AWp.region (oc (mv hN (ot 11 (bo r1.2)))
        (oc (OpJ.not (ltN hN rfl) (ot 24 (bo r1.2)))
        (oc (OpJ.val (v' := .d (.bool true)) (by rw [hg47]) (mv hN (ot 25 (bo (!r1.2)))))
        (oc (OpJ.skipU (ltN hN rfl) (by rfl))
        (oc (OpJ.skipU (ltN hN rfl) (by rfl))
        (oc (OpJ.skipU (ltN hN rfl) (by rfl))
        (oc (OpJ.skipU (ltN hN rfl) (by rfl))
        (oc (OpJ.pickT (ltN hN rfl) (ot 26 (bo true)) (Opd.bool true))
        (oc (mv hN (ot 31 (bo true)))
        (oc (OpJ.skipU (ltN hN rfl) (by rfl))
        (oc (OpJ.skipU (ltN hN rfl) (by rfl))
        (oc (OpJ.skipU (ltN hN rfl) (by rfl))
        (oc (OpJ.pickT (ltN hN rfl) (ot 32 (bo true)) (Opd.bool true))
        (OpJs.nil)))))))))))))) (by rfl) (by rfl) ?_
      exact hjj7 _ h _ _ (Mat.trans (mp [] [(1, (i6 a1)), (3, (qe_api_Series_4 a3)), (4, (.ptr 1004 0 [])), (6, (.ptr 1006 0 [])), (8, (.ptr 1008 0 [])), (10, (qI_1 r1.1)), (36, (bo true))] [(1004, some (.box 24 (.d (e_api_Member a0)))), (1006, some (.box 27 (.d (e_api_Tariff a2)))), (1008, some (.box 45 (.st [(i6 0), (i6 0), (i6 0), .nils, (i6 0)])))] hB) (mp [] ((fun m6 : Bool => ([(1, (i6 a1)), (3, (qe_api_Series_4 a3)), (4, (.ptr 1004 0 [])), (6, (.ptr 1006 0 [])), (8, (.ptr 1008 0 [])), (10, (qI_1 r1.1)), (36, (bo m6))] : EL)) true) ((fun m6 : Bool => ([(1004, some (.box 24 (.d (e_api_Member a0)))), (1006, some (.box 27 (.d (e_api_Tariff a2)))), (1008, some (.box 45 (.st [(i6 0), (i6 0), (i6 0), .nils, (i6 0)])))] : OL)) true) hB))
    · replace h := ite_f hg47 h
      obtain ⟨r48, hr48, h⟩ := bindS h
      rcases Bool.eq_false_or_eq_true (!r48) with hg49 | hg49
      · replace h := ite_t hg49 h
        refine AWp.region (oc (mv hN (ot 11 (bo r1.2)))
          (oc (OpJ.not (ltN hN rfl) (ot 24 (bo r1.2)))
          (oc (OpJ.val (v' := .d (.bool false)) (by rw [hg47]) (mv hN (ot 25 (bo (!r1.2)))))
          (oc (OpJ.guarded (by rfl) (ov (.ptr 1004 0 [0]) (fp hN Try.underlying24 0 tyS3 (.box 24 (.d (e_api_Member a0))) (ot 4 (.ptr 1004 0 [])))))
          (oc (OpJ.guarded (by rfl) (lb hN 24 (.d (e_api_Member a0)) (i6 a0.fASN) tyS3 (ad (.int .i64 a0.fASN)) (ot 27 (.ptr 1004 0 [0]))))
          (oc (OpJ.guarded (by rfl) (OpJ.callFn hB fnOk29 (invoice_member_ac a0.fASN r48 hr48) [] (by kernel_rfl) (ltN hN rfl) (by kernel_rfl) (OpdL.cons (ot 28 (i6 a0.fASN)) OpdL.nil)))
          (oc (OpJ.guarded (by rfl) (OpJ.not (ltN hN rfl) (ot 29 (bo r48))))
          (oc (OpJ.pickF (ltN hN rfl) (ot 26 (bo false)) (ot 30 (bo (!r48))))
          (oc (OpJ.val (v' := .d (.bool true)) (by rw [hg49]) (mv hN (ot 31 (bo (!r48)))))
          (oc (OpJ.skipU (ltN hN rfl) (by rfl))
          (oc (OpJ.skipU (ltN hN rfl) (by rfl))
          (oc (OpJ.skipU (ltN hN rfl) (by rfl))
          (oc (OpJ.pickT (ltN hN rfl) (ot 32 (bo true)) (Opd.bool true))
          (OpJs.nil)))))))))))))) (by rfl) (by rfl) ?_
        exact hjj7 _ h _ _ (Mat.trans (mp [] [(1, (i6 a1)), (3, (qe_api_Series_4 a3)), (4, (.ptr 1004 0 [])), (6, (.ptr 1006 0 [])), (8, (.ptr 1008 0 [])), (10, (qI_1 r1.1)), (36, (bo true))] [(1004, some (.box 24 (.d (e_api_Member a0)))), (1006, some (.box 27 (.d (e_api_Tariff a2)))), (1008, some (.box 45 (.st [(i6 0), (i6 0), (i6 0), .nils, (i6 0)])))] hB) (mp [] ((fun m6 : Bool => ([(1, (i6 a1)), (3, (qe_api_Series_4 a3)), (4, (.ptr 1004 0 [])), (6, (.ptr 1006 0 [])), (8, (.ptr 1008 0 [])), (10, (qI_1 r1.1)), (36, (bo m6))] : EL)) true) ((fun m6 : Bool => ([(1004, some (.box 24 (.d (e_api_Member a0)))), (1006, some (.box 27 (.d (e_api_Tariff a2)))), (1008, some (.box 45 (.st [(i6 0), (i6 0), (i6 0), .nils, (i6 0)])))] : OL)) true) hB))
      · replace h := ite_f hg49 h
        obtain ⟨r50, hr50, h⟩ := bindS h
        refine AWp.region (oc (mv hN (ot 11 (bo r1.2)))
          (oc (OpJ.not (ltN hN rfl) (ot 24 (bo r1.2)))
          (oc (OpJ.val (v' := .d (.bool false)) (by rw [hg47]) (mv hN (ot 25 (bo (!r1.2)))))
          (oc (OpJ.guarded (by rfl) (ov (.ptr 1004 0 [0]) (fp hN Try.underlying24 0 tyS3 (.box 24 (.d (e_api_Member a0))) (ot 4 (.ptr 1004 0 [])))))
          (oc (OpJ.guarded (by rfl) (lb hN 24 (.d (e_api_Member a0)) (i6 a0.fASN) tyS3 (ad (.int .i64 a0.fASN)) (ot 27 (.ptr 1004 0 [0]))))
          (oc (OpJ.guarded (by rfl) (OpJ.callFn hB fnOk29 (invoice_member_ac a0.fASN r48 hr48) [] (by kernel_rfl) (ltN hN rfl) (by kernel_rfl) (OpdL.cons (ot 28 (i6 a0.fASN)) OpdL.nil)))
          (oc (OpJ.guarded (by rfl) (OpJ.not (ltN hN rfl) (ot 29 (bo r48))))
          (oc (OpJ.pickF (ltN hN rfl) (ot 26 (bo false)) (ot 30 (bo (!r48))))
          (oc (OpJ.val (v' := .d (.bool false)) (by rw [hg49]) (mv hN (ot 31 (bo (!r48)))))
          (oc (OpJ.guarded (by rfl) (mv hN (ot 1 (i6 a1))))
          (oc (OpJ.guarded (by rfl) (OpJ.callFn hB fnOk30 (invoice_month_ac a1 r50 hr50) [] (by kernel_rfl) (ltN hN rfl) (by kernel_rfl) (OpdL.cons (ot 33 (i6 a1)) OpdL.nil)))
          (oc (OpJ.guarded (by rfl) (OpJ.not (ltN hN rfl) (ot 34 (bo r50))))
          (oc (OpJ.pickF (ltN hN rfl) (ot 32 (bo false)) (ot 35 (bo (!r50))))
          (OpJs.nil)))))))))))))) (by rfl) (by rfl) ?_
        exact hjj7 _ h _ _ (Mat.trans (mp [] [(1, (i6 a1)), (3, (qe_api_Series_4 a3)), (4, (.ptr 1004 0 [])), (6, (.ptr 1006 0 [])), (8, (.ptr 1008 0 [])), (10, (qI_1 r1.1)), (36, (bo (!r50)))] [(1004, some (.box 24 (.d (e_api_Member a0)))), (1006, some (.box 27 (.d (e_api_Tariff a2)))), (1008, some (.box 45 (.st [(i6 0), (i6 0), (i6 0), .nils, (i6 0)])))] hB) (mp [] ((fun m6 : Bool => ([(1, (i6 a1)), (3, (qe_api_Series_4 a3)), (4, (.ptr 1004 0 [])), (6, (.ptr 1006 0 [])), (8, (.ptr 1008 0 [])), (10, (qI_1 r1.1)), (36, (bo m6))] : EL)) (!r50)) ((fun m6 : Bool => ([(1004, some (.box 24 (.d (e_api_Member a0)))), (1006, some (.box 27 (.d (e_api_Tariff a2)))), (1008, some (.box 45 (.st [(i6 0), (i6 0), (i6 0), .nils, (i6 0)])))] : OL)) (!r50)) hB))

noncomputable def exchangepointlaw41_awake : Option (Bool) :=
  (invoice_Price (api_Tariff.mk (50000 : Int) (100 : Int) (20 : Int)) (130 : Int)).bind fun r1 =>
  (invoice_Make (api_Member.mk (5 : Int) ([] : List UInt8) ([] : List UInt8) (0 : Int) (0 : Int) ([(api_Port.mk (3 : Int) (0 : Int) (0 : Int) ([] : List (List Int)) (api_Addr.mk false (0 : Int) (0 : Int)) (api_Addr.mk false (0 : Int) (0 : Int)))] : List api_Port)) (1 : Int) (api_Tariff.mk (50000 : Int) (100 : Int) (20 : Int)) ([(api_Series.mk (3 : Int) (1 : Int) ([(0 : Int)] : List Int) ([(0 : Int)] : List Int))] : List api_Series)).bind fun r2 =>
  some (((((r1.2 == (0 : Int)) && (r2.2 == (0 : Int))) && (r1.1 == (50600 : Int))) && (r2.1.fTotal == (50000 : Int))) && ((r2.1.fLines.length : Int) == (1 : Int)))
set_option maxHeartbeats 4000000 in
set_option maxRecDepth 100000 in
theorem exchangepointlaw41_awake_ac (r : Bool) (h : exchangepointlaw41_awake = some r) : AC Try.prog 7 [] [] (.d (.bool r)) [] := by
  refine AC.of_code2 Try.func7 rfl rfl (Nat.le_of_ble_eq_true (by rfl)) fun B hB hN => ?_
  delta exchangepointlaw41_awake at h
  refine AWp.seq ?_
  refine AWp.region (oc (OpJ.assign (ltN hN rfl) (Opd.bool false))
  (OpJs.nil)) (by rfl) (by rfl) ?_
  refine seqQ_n ?_
  refine AWp.ghost (mp [] [] [] hB) ?_
  refine AWp.seq ?_
  refine AWp.region (oc (OpJ.coe (v := (.st [(i6 (50000 : Int)), (i6 (100 : Int)), (i6 (20 : Int))])) (y := (.st [(.int .i64 (50000 : Int)), (.int .i64 (100 : Int)), (.int .i64 (20 : Int))])) (Co.st (CoL.cons (Co.d _) (CoL.cons (Co.d _) (CoL.cons (Co.d _) CoL.nil)))) rfl (OpJ.build (places := [(0, 1), (1, 1), (2, 1)]) ⟨Try.underlying27, fun w => by kernel_rfl⟩ tyZS27 (Opds.cons (Opd.int .i64 (50000)) (Opds.cons (Opd.int .i64 (100)) (Opds.cons (Opd.int .i64 (20)) Opds.nil))) (by kernel_rfl) (r := (.st [(i6 (50000 : Int)), (i6 (100 : Int)), (i6 (20 : Int))])) (by rfl) (ltN hN rfl)))
  (oc (OpJ.alloc hB tyZ27 (nm := 1001) (by decide) (ltN hN rfl))
  (oc (OpJ.storeB (bt := 27) (c := (.d (.st [(.int .i64 0), (.int .i64 0), (.int .i64 0)]))) (v := (.d (.st [(.int .i64 (50000 : Int)), (.int .i64 (100 : Int)), (.int .i64 (20 : Int))]))) (c' := (.d (.st [(.int .i64 (50000 : Int)), (.int .i64 (100 : Int)), (.int .i64 (20 : Int))]))) tyS27 (SetAt.here _ _) (by rfl) (by rfl) (by simp) rfl (ot 1 (.ptr 1001 0 [])) (ot 6 (.d (.st [(.int .i64 (50000 : Int)), (.int .i64 (100 : Int)), (.int .i64 (20 : Int))]))))
  (OpJs.nil)))) (by rfl) (by rfl) ?_
  refine seqQ_n ?_
  refine AWp.ghost (mp [] [(1, (.ptr 1001 0 []))] [(1001, some (.box 27 (.d (.st [(.int .i64 (50000 : Int)), (.int .i64 (100 : Int)), (.int .i64 (20 : Int))]))))] hB) ?_
  refine AWp.seq ?_
  obtain ⟨r1, hr1, h⟩ := bindS h
  refine AWp.region (oc (lb hN 27 (.d (.st [(.int .i64 (50000 : Int)), (.int .i64 (100 : Int)), (.int .i64 (20 : Int))])) (.d (.st [(.int .i64 (50000 : Int)), (.int .i64 (100 : Int)), (.int .i64 (20 : Int))])) tyS27 (At.here _) (ot 1 (.ptr 1001 0 [])))
  (oc (OpJ.callFn hB fnOk11 (invoice_Price_ac (api_Tariff.mk (50000 : Int) (100 : Int) (20 : Int)) (130 : Int) r1 hr1) [] (by kernel_rfl) (ltN hN rfl) (by kernel_rfl) (OpdL.cons (ot 8 (.d (.st [(.int .i64 (50000 : Int)), (.int .i64 (100 : Int)), (.int .i64 (20 : Int))]))) (OpdL.cons (Opd.int .i64 (130)) OpdL.nil)))
  (oc (mv hN (ot 9 (.tup [(i6 r1.1), (i6 r1.2)])))
  (oc (OpJ.extract (v := (i6 r1.1)) (by rfl) rfl (ltN hN rfl) (ot 7 (.tup [(i6 r1.1), (i6 r1.2)])))
  (oc (OpJ.extract (v := (i6 r1.2)) (by rfl) rfl (ltN hN rfl) (ot 7 (.tup [(i6 r1.1), (i6 r1.2)])))
  (oc (OpJ.assign (ltN hN rfl) (ot 10 (i6 r1.1)))
  (oc (OpJ.assign (ltN hN rfl) (ot 11 (i6 r1.2)))
  (OpJs.nil)))))))) (by rfl) (by rfl) ?_
  refine seqQ_n ?_
  refine AWp.ghost (mp [] [(1, (.ptr 1001 0 [])), (2, (i6 r1.1)), (3, (i6 r1.2))] [(1001, some (.box 27 (.d (.st [(.int .i64 (50000 : Int)), (.int .i64 (100 : Int)), (.int .i64 (20 : Int))]))))] hB) ?_
  refine AWp.seq ?_
  obtain ⟨r2, hr2, h⟩ := bindS h
  refine AWp.region (oc (OpJ.build (places := [(0, 1), (1, 1), (2, 1), (3, 1), (4, 3), (7, 3)]) ⟨Try.underlying68, fun w => by kernel_rfl⟩ tyZS68 (Opds.cons (Opd.int .i64 (3)) Opds.nil) (by kernel_rfl) (r := (.st [(i6 (3 : Int)), (i6 0), (i6 0), .nils, (.d (.st [(.bool false), (.int .u64 0), (.int .u64 0)])), (.d (.st [(.bool false), (.int .u64 0), (.int .u64 0)]))])) (by rfl) (ltN hN rfl))
  (oc (OpJ.buildSlice Try.underlying22 tyS68 tyZD68 (by rfl) (by decide) (by decide) (Opds.cons (Opd.co (Co.st (CoL.cons (Co.d _) (CoL.cons (Co.d _) (CoL.cons (Co.d _) (CoL.cons (Co.nils 6) (CoL.cons (Co.d _) (CoL.cons (Co.d _) CoL.nil))))))) (ot 13 (.st [(i6 (3 : Int)), (i6 0), (i6 0), .nils, (.d (.st [(.bool false), (.int .u64 0), (.int .u64 0)])), (.d (.st [(.bool false), (.int .u64 0), (.int .u64 0)]))]))) Opds.nil) (by kernel_rfl) (es := ([(.st [(.int .i64 (3 : Int)), (.int .i64 0), (.int .i64 0), (.list 6 (([] : List (List Int)).map e_A6eIu8)), (.st [(.bool false), (.int .u64 0), (.int .u64 0)]), (.st [(.bool false), (.int .u64 0), (.int .u64 0)])])] : List D)) (by rfl) (by rfl) (by kernel_rfl) (by simp) (ltN hN rfl))
  (oc (OpJ.coe (v := (.st [(i6 (5 : Int)), (.d (.str ([] : List UInt8))), (.d (.str ([] : List UInt8))), (i6 0), (i6 0), (qe_api_Port_10 ([(api_Port.mk (3 : Int) (0 : Int) (0 : Int) ([] : List (List Int)) (api_Addr.mk false (0 : Int) (0 : Int)) (api_Addr.mk false (0 : Int) (0 : Int)))] : List api_Port))])) (y := (.st [(.int .i64 (5 : Int)), (.str ([] : List UInt8)), (.str ([] : List UInt8)), (.int .i64 0), (.int .i64 0), (.list 10 (([(api_Port.mk (3 : Int) (0 : Int) (0 : Int) ([] : List (List Int)) (api_Addr.mk false (0 : Int) (0 : Int)) (api_Addr.mk false (0 : Int) (0 : Int)))] : List api_Port).map e_api_Port))])) (Co.st (CoL.cons (Co.d _) (CoL.cons (Co.d _) (CoL.cons (Co.d _) (CoL.cons (Co.d _) (CoL.cons (Co.d _) (CoL.cons (Co.d _) CoL.nil))))))) rfl (OpJ.build (places := [(0, 1), (1, 1), (2, 1), (3, 1), (4, 1), (5, 1)]) ⟨Try.underlying24, fun w => by kernel_rfl⟩ tyZS24 (Opds.cons (Opd.int .i64 (5)) (Opds.cons (ot 14 (qe_api_Port_10 ([(api_Port.mk (3 : Int) (0 : Int) (0 : Int) ([] : List (List Int)) (api_Addr.mk false (0 : Int) (0 : Int)) (api_Addr.mk false (0 : Int) (0 : Int)))] : List api_Port))) Opds.nil)) (by kernel_rfl) (r := (.st [(i6 (5 : Int)), (.d (.str ([] : List UInt8))), (.d (.str ([] : List UInt8))), (i6 0), (i6 0), (qe_api_Port_10 ([(api_Port.mk (3 : Int) (0 : Int) (0 : Int) ([] : List (List Int)) (api_Addr.mk false (0 : Int) (0 : Int)) (api_Addr.mk false (0 : Int) (0 : Int)))] : List api_Port))])) (by rfl) (ltN hN rfl)))
  (oc (lb hN 27 (.d (.st [(.int .i64 (50000 : Int)), (.int .i64 (100 : Int)), (.int .i64 (20 : Int))])) (.d (.st [(.int .i64 (50000 : Int)), (.int .i64 (100 : Int)), (.int .i64 (20 : Int))])) tyS27 (At.here _) (ot 1 (.ptr 1001 0 [])))
  (oc (OpJ.buildSlice Try.underlying28 tyS3 tyZD3 (by rfl) (by decide) (by decide) (Opds.cons (Opd.int .i64 (0)) Opds.nil) (by kernel_rfl) (es := ([(.int .i64 0)] : List D)) (by rfl) (by rfl) (by kernel_rfl) (by simp) (ltN hN rfl))
  (oc (OpJ.buildSlice Try.underlying28 tyS3 tyZD3 (by rfl) (by decide) (by decide) (Opds.cons (Opd.int .i64 (0)) Opds.nil) (by kernel_rfl) (es := ([(.int .i64 0)] : List D)) (by rfl) (by rfl) (by kernel_rfl) (by simp) (ltN hN rfl))
  (oc (OpJ.coe (v := (.st [(i6 (3 : Int)), (i6 1), (qI_1 ([(0 : Int)] : List Int)), (qI_1 ([(0 : Int)] : List Int))])) (y := (.st [(.int .i64 (3 : Int)), (.int .i64 1), (.list 1 (([(0 : Int)] : List Int).map (eI .i64))), (.list 1 (([(0 : Int)] : List Int).map (eI .i64)))])) (Co.st (CoL.cons (Co.d _) (CoL.cons (Co.d _) (CoL.cons (Co.d _) (CoL.cons (Co.d _) CoL.nil))))) rfl (OpJ.build (places := [(0, 1), (1, 1), (2, 1), (3, 1)]) ⟨Try.underlying31, fun w => by kernel_rfl⟩ tyZS31 (Opds.cons (Opd.int .i64 (3)) (Opds.cons (Opd.int .i64 (1)) (Opds.cons (ot 17 (qI_1 ([(0 : Int)] : List Int))) (Opds.cons (ot 18 (qI_1 ([(0 : Int)] : List Int))) Opds.nil)))) (by kernel_rfl) (r := (.st [(i6 (3 : Int)), (i6 1), (qI_1 ([(0 : Int)] : List Int)), (qI_1 ([(0 : Int)] : List Int))])) (by rfl) (ltN hN rfl)))
  (oc (OpJ.buildSlice Try.underlying25 tyS31 tyZD31 (by rfl) (by decide) (by decide) (Opds.cons (ot 19 (.d (.st [(.int .i64 (3 : Int)), (.int .i64 1), (.list 1 (([(0 : Int)] : List Int).map (eI .i64))), (.list 1 (([(0 : Int)] : List Int).map (eI .i64)))]))) Opds.nil) (by kernel_rfl) (es := ([(.st [(.int .i64 (3 : Int)), (.int .i64 1), (.list 1 (([(0 : Int)] : List Int).map (eI .i64))), (.list 1 (([(0 : Int)] : List Int).map (eI .i64)))])] : List D)) (by rfl) (by rfl) (by kernel_rfl) (by simp) (ltN hN rfl))
  (oc (OpJ.callFn hB fnOk13 (invoice_Make_ac (api_Member.mk (5 : Int) ([] : List UInt8) ([] : List UInt8) (0 : Int) (0 : Int) ([(api_Port.mk (3 : Int) (0 : Int) (0 : Int) ([] : List (List Int)) (api_Addr.mk false (0 : Int) (0 : Int)) (api_Addr.mk false (0 : Int) (0 : Int)))] : List api_Port)) (1 : Int) (api_Tariff.mk (50000 : Int) (100 : Int) (20 : Int)) ([(api_Series.mk (3 : Int) (1 : Int) ([(0 : Int)] : List Int) ([(0 : Int)] : List Int))] : List api_Series) r2 hr2) [] (by kernel_rfl) (ltN hN rfl) (by kernel_rfl) (OpdL.cons (ot 15 (.d (.st [(.int .i64 (5 : Int)), (.str ([] : List UInt8)), (.str ([] : List UInt8)), (.int .i64 0), (.int .i64 0), (.list 10 (([(api_Port.mk (3 : Int) (0 : Int) (0 : Int) ([] : List (List Int)) (api_Addr.mk false (0 : Int) (0 : Int)) (api_Addr.mk false (0 : Int) (0 : Int)))] : List api_Port).map e_api_Port))]))) (OpdL.cons (Opd.int .i64 (1)) (OpdL.cons (ot 16 (.d (.st [(.int .i64 (50000 : Int)), (.int .i64 (100 : Int)), (.int .i64 (20 : Int))]))) (OpdL.cons (ot 20 (qe_api_Series_4 ([(api_Series.mk (3 : Int) (1 : Int) ([(0 : Int)] : List Int) ([(0 : Int)] : List Int))] : List api_Series))) OpdL.nil)))))
  (oc (mv hN (ot 21 (.tup [(.d (e_api_Invoice r2.1)), (i6 r2.2)])))
  (oc (OpJ.extract (v := (.d (e_api_Invoice r2.1))) (by rfl) rfl (ltN hN rfl) (ot 12 (.tup [(.d (e_api_Invoice r2.1)), (i6 r2.2)])))
  (oc (OpJ.extract (v := (i6 r2.2)) (by rfl) rfl (ltN hN rfl) (ot 12 (.tup [(.d (e_api_Invoice r2.1)), (i6 r2.2)])))
  (oc (OpJ.alloc hB tyZ45 (nm := 1004) (by decide) (ltN hN rfl))
  (oc (OpJ.storeB (bt := 45) (c := (.st [(i6 0), (i6 0), (i6 0), .nils, (i6 0)])) (v := (.d (e_api_Invoice r2.1))) (c' := (.d (e_api_Invoice r2.1))) tyS45 (SetAt.here _ _) (by rfl) (by rfl) (by simp) rfl (ot 4 (.ptr 1004 0 [])) (ot 22 (.d (e_api_Invoice r2.1))))
  (oc (OpJ.assign (ltN hN rfl) (ot 23 (i6 r2.2)))
  (OpJs.nil)))))))))))))))) (by rfl) (by rfl) ?_
  refine seqQ_n ?_
  refine AWp.ghost (mp [] [(2, (i6 r1.1)), (3, (i6 r1.2)), (4, (.ptr 1004 0 [])), (5, (i6 r2.2))] [(1004, some (.box 45 (.d (e_api_Invoice r2.1))))] hB) ?_
  refine AWp.seq ?_
  refine AWp.region (oc (mv hN (ot 3 (i6 r1.2)))
  (oc (OpJ.eqlI (ltN hN rfl) (ot 24 (i6 r1.2)) (Opd.int .i64 (0)))
  (oc (mv hN (ot 25 (bo (r1.2 == (0 : Int)))))
  (oc (op hN (i6 r2.2) (mv hN (ot 5 (i6 r2.2))) (OptL.keep rfl OptL.nil) (GuardV.plain _))
  (oc (op hN (bo (r2.2 == (0 : Int))) (OpJ.eqlI (ltN hN rfl) (ot 27 (i6 r2.2)) (Opd.int .i64 (0))) (OptL.opt OptL.nil) (GuardV.plain _))
  (oc (OpJ.pickAnd rfl (ltN hN rfl) (ot 26 (bo (r1.2 == (0 : Int)))) (ot 28 (.opt ((r1.2 == (0 : Int)) == true) (bo (r2.2 == (0 : Int))))))
  (oc (mv hN (ot 29 (bo ((r1.2 == (0 : Int)) && (r2.2 == (0 : Int))))))
  (oc (op hN (i6 r1.1) (mv hN (ot 2 (i6 r1.1))) (OptL.keep rfl OptL.nil) (GuardV.plain _))
  (oc (op hN (bo (r1.1 == (50600 : Int))) (OpJ.eqlI (ltN hN rfl) (ot 31 (i6 r1.1)) (Opd.int .i64 (50600))) (OptL.opt OptL.nil) (GuardV.plain _))
  (oc (OpJ.pickAnd rfl (ltN hN rfl) (ot 30 (bo ((r1.2 == (0 : Int)) && (r2.2 == (0 : Int))))) (ot 32 (.opt (((r1.2 == (0 : Int)) && (r2.2 == (0 : Int))) == true) (bo (r1.1 == (50600 : Int))))))
  (oc (mv hN (ot 33 (bo (((r1.2 == (0 : Int)) && (r2.2 == (0 : Int))) && (r1.1 == (50600 : Int))))))
  (oc (op hN (.ptr 1004 4 [4]) (ov (.ptr 1004 4 [4]) (fp hN Try.underlying45 4 tyS3 (.box 45 (.d (e_api_Invoice r2.1))) (ot 4 (.ptr 1004 0 [])))) (OptL.keep rfl OptL.nil) (GuardV.plain _))
  (oc (op hN (i6 r2.1.fTotal) (lb hN 45 (.d (e_api_Invoice r2.1)) (i6 r2.1.fTotal) tyS3 (ad (.int .i64 r2.1.fTotal)) (ot 35 (.ptr 1004 4 [4]))) (OptL.opt OptL.nil) (GuardV.plain _))
  (oc (op hN (bo (r2.1.fTotal == (50000 : Int))) (OpJ.eqlI (ltN hN rfl) (ot 36 (i6 r2.1.fTotal)) (Opd.int .i64 (50000))) (OptL.opt OptL.nil) (GuardV.plain _))
  (oc (OpJ.pickAnd rfl (ltN hN rfl) (ot 34 (bo (((r1.2 == (0 : Int)) && (r2.2 == (0 : Int))) && (r1.1 == (50600 : Int))))) (ot 37 (.opt ((((r1.2 == (0 : Int)) && (r2.2 == (0 : Int))) && (r1.1 == (50600 : Int))) == true) (bo (r2.1.fTotal == (50000 : Int))))))
  (oc (mv hN (ot 38 (bo ((((r1.2 == (0 : Int)) && (r2.2 == (0 : Int))) && (r1.1 == (50600 : Int))) && (r2.1.fTotal == (50000 : Int))))))
  (oc (op hN (.ptr 1004 3 [3]) (ov (.ptr 1004 3 [3]) (fp hN Try.underlying45 3 tyS43 (.box 45 (.d (e_api_Invoice r2.1))) (ot 4 (.ptr 1004 0 [])))) (OptL.keep rfl OptL.nil) (GuardV.plain _))
  (oc (op hN (qe_api_Line_3 r2.1.fLines) (lb hN 45 (.d (e_api_Invoice r2.1)) (qe_api_Line_3 r2.1.fLines) tyS43 (ad (.list 3 (r2.1.fLines.map e_api_Line))) (ot 40 (.ptr 1004 3 [3]))) (OptL.opt OptL.nil) (GuardV.plain _))
  (oc (op hN (i6 (r2.1.fLines.length : Int)) (OpJ.val (v' := (i6 (r2.1.fLines.length : Int))) (by simp) (OpJ.lenD Try.underlying43 (ltN hN rfl) (ot 41 (qe_api_Line_3 r2.1.fLines)))) (OptL.opt OptL.nil) (GuardV.plain _))
  (oc (op hN (bo ((r2.1.fLines.length : Int) == (1 : Int))) (OpJ.eqlI (ltN hN rfl) (ot 42 (i6 (r2.1.fLines.length : Int))) (Opd.int .i64 (1))) (OptL.opt OptL.nil) (GuardV.plain _))
  (oc (OpJ.pickAnd rfl (ltN hN rfl) (ot 39 (bo ((((r1.2 == (0 : Int)) && (r2.2 == (0 : Int))) && (r1.1 == (50600 : Int))) && (r2.1.fTotal == (50000 : Int))))) (ot 43 (.opt (((((r1.2 == (0 : Int)) && (r2.2 == (0 : Int))) && (r1.1 == (50600 : Int))) && (r2.1.fTotal == (50000 : Int))) == true) (bo ((r2.1.fLines.length : Int) == (1 : Int))))))
  (oc (OpJ.assign (ltN hN rfl) (ot 44 (bo (((((r1.2 == (0 : Int)) && (r2.2 == (0 : Int))) && (r1.1 == (50600 : Int))) && (r2.1.fTotal == (50000 : Int))) && ((r2.1.fLines.length : Int) == (1 : Int))))))
  (OpJs.nil))))))))))))))))))))))) (by rfl) (by rfl) ?_
  refine seqQ_n ?_
  refine AWp.ghost (mp [] [(0, (bo (((((r1.2 == (0 : Int)) && (r2.2 == (0 : Int))) && (r1.1 == (50600 : Int))) && (r2.1.fTotal == (50000 : Int))) && ((r2.1.fLines.length : Int) == (1 : Int)))))] [] hB) ?_
  refine AWp.ret ?_
  obtain rfl := Option.some.inj h
  exact ⟨.inl rfl, _, _, (mp [] [(0, (bo (((((r1.2 == (0 : Int)) && (r2.2 == (0 : Int))) && (r1.1 == (50600 : Int))) && (r2.1.fTotal == (50000 : Int))) && ((r2.1.fLines.length : Int) == (1 : Int)))))] [] hB), [(bo (((((r1.2 == (0 : Int)) && (r2.2 == (0 : Int))) && (r1.1 == (50600 : Int))) && (r2.1.fTotal == (50000 : Int))) && ((r2.1.fLines.length : Int) == (1 : Int))))], (Res.tmp (by rfl) (by rfl) Res.nil), rfl, by rfl, by rfl, by rfl⟩

noncomputable def exchangepointmill_New (a0 : (List Int)) : Option (exchangepointmill_Deck) :=
  some (exchangepointmill_Deck.mk a0 (0 : Int))
set_option maxHeartbeats 4000000 in
set_option maxRecDepth 100000 in
theorem exchangepointmill_New_ac (a0 : (List Int)) (r : exchangepointmill_Deck) (h : exchangepointmill_New a0 = some r) : AC Try.prog 9 [(.d (.list 1 (a0.map (eI .i64))))] [] (.ptr 1005 0 []) [(1005, some (.box 72 (.d (e_exchangepointmill_Deck r))))] := by
  refine AC.of_code2 Try.func9 rfl rfl (Nat.le_of_ble_eq_true (by rfl)) fun B hB hN => ?_
  delta exchangepointmill_New at h
  refine AWp.seq ?_
  refine AWp.region (oc (OpJ.assign (v := .junk) (ltN hN rfl) (Opd.junk _))
  (OpJs.nil)) (by rfl) (by rfl) ?_
  refine seqQ_n ?_
  refine AWp.ghost (mp [] [(0, (qI_1 a0))] [] hB) ?_
  refine AWp.seq ?_
  refine AWp.region (oc (mv hN (ot 0 (qI_1 a0)))
  (oc (OpJ.coe (v := (.st [(qI_1 a0), (i6 0)])) (y := (.st [(.list 1 (a0.map (eI .i64))), (.int .i64 0)])) (Co.st (CoL.cons (Co.d _) (CoL.cons (Co.d _) CoL.nil))) rfl (OpJ.build (places := [(0, 1), (1, 1)]) ⟨Try.underlying72, fun w => by kernel_rfl⟩ tyZS72 (Opds.cons (ot 3 (qI_1 a0)) Opds.nil) (by kernel_rfl) (r := (.st [(qI_1 a0), (i6 0)])) (by rfl) (ltN hN rfl)))
  (oc (OpJ.box hB (nm := 1005) (by decide) (by simp) rfl (ltN hN rfl) (ot 4 (.d (.st [(.list 1 (a0.map (eI .i64))), (.int .i64 0)]))))
  (oc (OpJ.assign (ltN hN rfl) (ot 5 (.ptr 1005 0 [])))
  (OpJs.nil))))) (by rfl) (by rfl) ?_
  refine seqQ_n ?_
  refine AWp.ghost (mp [] [(2, (.ptr 1005 0 []))] [(1005, some (.box 72 (.d (.st [(.list 1 (a0.map (eI .i64))), (.int .i64 0)]))))] hB) ?_
  refine AWp.ret ?_
  obtain rfl := Option.some.inj h
  exact ⟨.inl rfl, _, _, (mp [] [(2, (.ptr 1005 0 []))] [(1005, some (.box 72 (.d (.st [(.list 1 (a0.map (eI .i64))), (.int .i64 0)]))))] hB), [(.ptr 1005 0 [])], (Res.tmp (by rfl) (by rfl) Res.nil), rfl, by rfl, by rfl, by rfl⟩

noncomputable def exchangepointmill_Mod (a0 : Int) (a1 : Int) : Option (Int) :=
  chk (decide (a1 ≠ 0)) <|
  jn (fun m3 : Int =>
  some m3) (fun j4 =>
  (if (decide ((Int.tmod a0 a1) < (0 : Int))) = true then
  j4 (w64 ((Int.tmod a0 a1) + a1))
  else
  j4 (Int.tmod a0 a1)))
set_option maxHeartbeats 4000000 in
set_option maxRecDepth 100000 in
theorem exchangepointmill_Mod_ac (a0 : Int) (a1 : Int) (r : Int) (h : exchangepointmill_Mod a0 a1 = some r) : AC Try.prog 10 [(.d (.int .i64 a0)), (.d (.int .i64 a1))] [] (.d (.int .i64 r)) [] := by
  refine AC.of_code2 Try.func10 rfl rfl (Nat.le_of_ble_eq_true (by rfl)) fun B hB hN => ?_
  delta exchangepointmill_Mod at h
  refine AWp.seq ?_
  refine AWp.region (oc (OpJ.assign (ltN hN rfl) (Opd.int .i64 (0)))
  (OpJs.nil)) (by rfl) (by rfl) ?_
  refine seqQ_n ?_
  refine AWp.ghost (mp [] [(0, (i6 a0)), (1, (i6 a1))] [] hB) ?_
  refine AWp.seq ?_
  obtain ⟨hc1, h⟩ := chk_some h
  refine AWp.region (oc (mv hN (ot 0 (i6 a0)))
  (oc (mv hN (ot 1 (i6 a1)))
  (oc (OpJ.rem (ltN hN rfl) (ot 6 (i6 a0)) (ot 7 (i6 a1)) (of_decide_eq_true hc1))
  (oc (OpJ.assign (ltN hN rfl) (ot 8 (i6 (Int.tmod a0 a1))))
  (OpJs.nil))))) (by rfl) (by rfl) ?_
  refine seqQ_n ?_
  refine AWp.ghost (mp [] [(1, (i6 a1)), (5, (i6 (Int.tmod a0 a1)))] [] hB) ?_
  refine AWp.seq ?_
  refine AWp.seq ?_
  refine AWp.region (oc (mv hN (ot 5 (i6 (Int.tmod a0 a1))))
  (oc (OpJ.lss (ltN hN rfl) (ot 9 (i6 (Int.tmod a0 a1))) (Opd.int .i64 (0)))
  (OpJs.nil))) (by rfl) (by rfl) ?_
  refine seqQ_n ?_
  refine AWp.ghost (mp [] [(1, (i6 a1)), (5, (i6 (Int.tmod a0 a1))), (10, (bo (decide ((Int.tmod a0 a1) < (0 : Int)))))] [] hB) ?_
  refine AWp.cut h (fun m3 : Int => ([(5, (i6 m3))] : EL)) (fun m3 : Int => ([] : OL)) (fun m3 h E' O' hmat => ?_) (fun j4 hjj4 h => ?_)
  · refine seqQ_n ?_
    refine AWp.ghost hmat ?_
    refine AWp.seq ?_
    refine AWp.region (oc (mv hN (ot 5 (i6 m3)))
      (oc (OpJ.assign (ltN hN rfl) (ot 14 (i6 m3)))
      (OpJs.nil))) (by rfl) (by rfl) ?_
    refine seqQ_n ?_
    refine AWp.ghost (mp [] [(4, (i6 m3))] [] hB) ?_
    refine AWp.ret ?_
    obtain rfl := Option.some.inj h
    exact ⟨.inl rfl, _, _, (mp [] [(4, (i6 m3))] [] hB), [(i6 m3)], (Res.tmp (by rfl) (by rfl) Res.nil), rfl, by rfl, by rfl, by rfl⟩
  · refine AWp.cond (b := (decide ((Int.tmod a0 a1) < (0 : Int)))) (by rfl) (fun hg5 => ?_) (fun hg5 => ?_)
    · replace h := ite_t hg5 h
      refine AWp.region (oc (mv hN (ot 5 (i6 (Int.tmod a0 a1))))
        (oc (mv hN (ot 1 (i6 a1)))
        (oc (OpJ.add (ltN hN rfl) (ot 11 (i6 (Int.tmod a0 a1))) (ot 12 (i6 a1)))
        (oc (OpJ.assign (ltN hN rfl) (ot 13 (i6 (w64 ((Int.tmod a0 a1) + a1)))))
        (OpJs.nil))))) (by rfl) (by rfl) ?_
      exact hjj4 _ h _ _ (Mat.trans (mp [] [(5, (i6 (w64 ((Int.tmod a0 a1) + a1))))] [] hB) (mp [] ((fun m3 : Int => ([(5, (i6 m3))] : EL)) (w64 ((Int.tmod a0 a1) + a1))) ((fun m3 : Int => ([] : OL)) (w64 ((Int.tmod a0 a1) + a1))) hB))
    · replace h := ite_f hg5 h
      refine AWp.skip ?_
      exact hjj4 _ h _ _ (mp [] ((fun m3 : Int => ([(5, (i6 m3))] : EL)) (Int.tmod a0 a1)) ((fun m3 : Int => ([] : OL)) (Int.tmod a0 a1)) hB)

noncomputable def exchangepointmill_Deck_Next (a0 : exchangepointmill_Deck) (a1 : Int) : Option (Int × exchangepointmill_Deck) :=
  (if (decide ((a0.fL.length : Int) ≤ a0.fAt)) = true then
  some ((0 : Int), a0)
  else
  (idx a0.fL (w64 ((w64 (a0.fAt + (1 : Int))) - (1 : Int)))).bind fun x2 =>
  (exchangepointmill_Mod x2 a1).bind fun r3 =>
  some (r3, (exchangepointmill_Deck.mk a0.fL (w64 (a0.fAt + (1 : Int))))))
set_option maxHeartbeats 4000000 in
set_option maxRecDepth 100000 in
theorem exchangepointmill_Deck_Next_ac (a0 : exchangepointmill_Deck) (a1 : Int) (r : Int × exchangepointmill_Deck) (h : exchangepointmill_Deck_Next a0 a1 = some r) : AC Try.prog 17 [(.ptr 0 0 []), (.d (.int .i64 a1))] [(0, (.box 72 (.d (e_exchangepointmill_Deck a0))))] (.d (.int .i64 r.1)) [(0, some (.box 72 (.d (e_exchangepointmill_Deck r.2))))] := by
  refine AC.of_code2 Try.func17 rfl rfl (Nat.le_of_ble_eq_true (by rfl)) fun B hB hN => ?_
  delta exchangepointmill_Deck_Next at h
  refine AWp.seq ?_
  refine AWp.region (oc (OpJ.assign (ltN hN rfl) (Opd.int .i64 (0)))
  (OpJs.nil)) (by rfl) (by rfl) ?_
  refine seqQ_n ?_
  refine AWp.ghost (mp [] [(0, (.ptr 0 0 [])), (1, (i6 a1))] [(0, some (.box 72 (.d (e_exchangepointmill_Deck a0))))] hB) ?_
  refine AWp.seq ?_
  refine AWp.seq ?_
  refine AWp.draws (by kernel_rfl) (oc (mv hN (ot 0 (.ptr 0 0 [])))
  (oc (OpJ.nilP (obj := (.box 72 (.d (e_exchangepointmill_Deck a0)))) (ltN hN rfl) (ot 5 (.ptr 0 0 [])))
  (oc (ov (.ptr 0 1 [1]) (fp hN Try.underlying72 1 tyS3 (.box 72 (.d (e_exchangepointmill_Deck a0))) (ot 6 (.ptr 0 0 []))))
  (oc (lb hN 72 (.d (e_exchangepointmill_Deck a0)) (i6 a0.fAt) tyS3 (ad (.int .i64 a0.fAt)) (ot 7 (.ptr 0 1 [1])))
  (oc (mv hN (ot 0 (.ptr 0 0 [])))
  (oc (OpJ.nilP (obj := (.box 72 (.d (e_exchangepointmill_Deck a0)))) (ltN hN rfl) (ot 9 (.ptr 0 0 [])))
  (oc (ov (.ptr 0 0 [0]) (fp hN Try.underlying72 0 tyS28 (.box 72 (.d (e_exchangepointmill_Deck a0))) (ot 10 (.ptr 0 0 []))))
  (oc (lb hN 72 (.d (e_exchangepointmill_Deck a0)) (qI_1 a0.fL) tyS28 (ad (.list 1 (a0.fL.map (eI .i64)))) (ot 11 (.ptr 0 0 [0])))
  (oc (OpJ.val (v' := (i6 (a0.fL.length : Int))) (by simp) (OpJ.lenD Try.underlying28 (ltN hN rfl) (ot 12 (qI_1 a0.fL))))
  (oc (OpJ.geq (ltN hN rfl) (ot 8 (i6 a0.fAt)) (ot 13 (i6 (a0.fL.length : Int))))
  (OpJs.nil))))))))))) (by kernel_rfl) (by rfl) (by rfl) ?_
  refine seqQ_n ?_
  refine AWp.ghost (mp [] [(0, (.ptr 0 0 [])), (1, (i6 a1)), (14, (bo (decide ((a0.fL.length : Int) ≤ a0.fAt))))] [(0, some (.box 72 (.d (e_exchangepointmill_Deck a0))))] hB) ?_
  refine AWp.cond (b := (decide ((a0.fL.length : Int) ≤ a0.fAt))) (by rfl) (fun hg1 => ?_) (fun hg1 => ?_)
  · replace h := ite_t hg1 h
    refine AWp.seq ?_
    refine AWp.region (oc (OpJ.assign (ltN hN rfl) (Opd.int .i64 (0)))
      (OpJs.nil)) (by rfl) (by rfl) ?_
    refine seqQ_n ?_
    refine AWp.ghost (mp [] [(4, (i6 0))] [(0, some (.box 72 (.d (e_exchangepointmill_Deck a0))))] hB) ?_
    refine AWp.ret ?_
    refine seqQ_r ?_
    obtain rfl := Option.some.inj h
    exact ⟨.inl rfl, _, _, (mp [] [(4, (i6 0))] [(0, some (.box 72 (.d (e_exchangepointmill_Deck a0))))] hB), [(i6 0)], (Res.tmp (by rfl) (by rfl) Res.nil), rfl, by rfl, by rfl, by rfl⟩
  · replace h := ite_f hg1 h
    refine AWp.skip ?_
    refine seqQ_n ?_
    refine AWp.seq ?_
    refine AWp.region (oc (mv hN (ot 0 (.ptr 0 0 [])))
      (oc (OpJ.nilP (obj := (.box 72 (.d (e_exchangepointmill_Deck a0)))) (ltN hN rfl) (ot 15 (.ptr 0 0 [])))
      (oc (ov (.ptr 0 1 [1]) (fp hN Try.underlying72 1 tyS3 (.box 72 (.d (e_exchangepointmill_Deck a0))) (ot 16 (.ptr 0 0 []))))
      (oc (lb hN 72 (.d (e_exchangepointmill_Deck a0)) (i6 a0.fAt) tyS3 (ad (.int .i64 a0.fAt)) (ot 17 (.ptr 0 1 [1])))
      (oc (OpJ.add (ltN hN rfl) (ot 18 (i6 a0.fAt)) (Opd.int .i64 (1)))
      (oc (OpJ.nilP (obj := (.box 72 (.d (e_exchangepointmill_Deck a0)))) (ltN hN rfl) (ot 15 (.ptr 0 0 [])))
      (oc (ov (.ptr 0 1 [1]) (fp hN Try.underlying72 1 tyS3 (.box 72 (.d (e_exchangepointmill_Deck a0))) (ot 20 (.ptr 0 0 []))))
      (oc (OpJ.storeB (bt := 72) (c := (.d (e_exchangepointmill_Deck a0))) (v := (i6 (w64 (a0.fAt + (1 : Int))))) (c' := (.d (.st [(.list 1 (a0.fL.map (eI .i64))), (.int .i64 (w64 (a0.fAt + (1 : Int))))]))) tyS3 (SetAt.dst1 (f := (.int .i64 a0.fAt)) (f' := (.int .i64 (w64 (a0.fAt + (1 : Int))))) (by rfl) (by rfl) (SetAt.here _ _) (by rfl) (by rfl) (by first | rfl | omega)) (by rfl) (by rfl) (by simp) rfl (ot 21 (.ptr 0 1 [1])) (ot 19 (i6 (w64 (a0.fAt + (1 : Int))))))
      (OpJs.nil))))))))) (by rfl) (by rfl) ?_
    refine seqQ_n ?_
    refine AWp.ghost (mp [] [(0, (.ptr 0 0 [])), (1, (i6 a1))] [(0, some (.box 72 (.d (.st [(.list 1 (a0.fL.map (eI .i64))), (.int .i64 (w64 (a0.fAt + (1 : Int))))]))))] hB) ?_
    refine AWp.seq ?_
    obtain ⟨x2, hx2, h⟩ := bindS h
    obtain ⟨r3, hr3, h⟩ := bindS h
    refine AWp.draws (by kernel_rfl) (oc (mv hN (ot 0 (.ptr 0 0 [])))
      (oc (OpJ.nilP (obj := (.box 72 (.d (.st [(.list 1 (a0.fL.map (eI .i64))), (.int .i64 (w64 (a0.fAt + (1 : Int))))])))) (ltN hN rfl) (ot 22 (.ptr 0 0 [])))
      (oc (ov (.ptr 0 0 [0]) (fp hN Try.underlying72 0 tyS28 (.box 72 (.d (.st [(.list 1 (a0.fL.map (eI .i64))), (.int .i64 (w64 (a0.fAt + (1 : Int))))]))) (ot 23 (.ptr 0 0 []))))
      (oc (lb hN 72 (.d (.st [(.list 1 (a0.fL.map (eI .i64))), (.int .i64 (w64 (a0.fAt + (1 : Int))))])) (qI_1 a0.fL) tyS28 (ad (.list 1 (a0.fL.map (eI .i64)))) (ot 24 (.ptr 0 0 [0])))
      (oc (mv hN (ot 0 (.ptr 0 0 [])))
      (oc (OpJ.nilP (obj := (.box 72 (.d (.st [(.list 1 (a0.fL.map (eI .i64))), (.int .i64 (w64 (a0.fAt + (1 : Int))))])))) (ltN hN rfl) (ot 26 (.ptr 0 0 [])))
      (oc (ov (.ptr 0 1 [1]) (fp hN Try.underlying72 1 tyS3 (.box 72 (.d (.st [(.list 1 (a0.fL.map (eI .i64))), (.int .i64 (w64 (a0.fAt + (1 : Int))))]))) (ot 27 (.ptr 0 0 []))))
      (oc (lb hN 72 (.d (.st [(.list 1 (a0.fL.map (eI .i64))), (.int .i64 (w64 (a0.fAt + (1 : Int))))])) (i6 (w64 (a0.fAt + (1 : Int)))) tyS3 (ad (.int .i64 (w64 (a0.fAt + (1 : Int))))) (ot 28 (.ptr 0 1 [1])))
      (oc (OpJ.sub (ltN hN rfl) (ot 29 (i6 (w64 (a0.fAt + (1 : Int))))) (Opd.int .i64 (1)))
      (oc (OpJ.indexD (el := (.int .i64 x2)) Try.underlying28 tyS3 (idx_some hx2).1 (get_map (eI .i64) (idx_some hx2).2) (ltN hN rfl) (ot 25 (qI_1 a0.fL)) (ot 30 (i6 (w64 ((w64 (a0.fAt + (1 : Int))) - (1 : Int))))))
      (oc (OpJ.loadD tyS3 (by rfl) (by rfl) (ltN hN rfl) (ot 31 (.dptr (.int .i64 x2))))
      (oc (mv hN (ot 1 (i6 a1)))
      (oc (OpJ.callFn hB fnOk10 (exchangepointmill_Mod_ac x2 a1 r3 hr3) [] (by kernel_rfl) (ltN hN rfl) (by kernel_rfl) (OpdL.cons (ot 32 (i6 x2)) (OpdL.cons (ot 33 (i6 a1)) OpdL.nil)))
      (oc (OpJ.assign (ltN hN rfl) (ot 34 (i6 r3)))
      (OpJs.nil))))))))))))))) (by kernel_rfl) (by rfl) (by rfl) ?_
    refine seqQ_n ?_
    refine AWp.ghost (mp [] [(4, (i6 r3))] [(0, some (.box 72 (.d (.st [(.list 1 (a0.fL.map (eI .i64))), (.int .i64 (w64 (a0.fAt + (1 : Int))))]))))] hB) ?_
    refine AWp.ret ?_
    obtain rfl := Option.some.inj h
    exact ⟨.inl rfl, _, _, (mp [] [(4, (i6 r3))] [(0, some (.box 72 (.d (.st [(.list 1 (a0.fL.map (eI .i64))), (.int .i64 (w64 (a0.fAt + (1 : Int))))]))))] hB), [(i6 r3)], (Res.tmp (by rfl) (by rfl) Res.nil), rfl, by rfl, by rfl, by rfl⟩

noncomputable def exchangepointmill_Deck_Member_L0 (s1 : Int × (List api_Port) × exchangepointmill_Deck) : Option (((exchangepointmill_Deck × (List api_Port))) ⊕ (Int × (List api_Port) × exchangepointmill_Deck)) :=
  (exchangepointmill_Deck_Next s1.2.2 (3 : Int)).bind fun r11 =>
  (if (decide (s1.1 < (w64 ((1 : Int) + r11.1)))) = true then
  (exchangepointmill_Deck_Next r11.2 (3 : Int)).bind fun r13 =>
  chk (decide ((s1.2.1 ++ ([(api_Port.mk (w64 ((w64 ((w64 ((3 : Int) * s1.1)) + (1 : Int))) + r13.1)) (0 : Int) (0 : Int) ([] : List (List Int)) (api_Addr.mk false (0 : Int) (0 : Int)) (api_Addr.mk false (0 : Int) (0 : Int)))] : List api_Port)).length ≤ LIM)) <|
  some (.inr ((w64 (s1.1 + (1 : Int))), (s1.2.1 ++ ([(api_Port.mk (w64 ((w64 ((w64 ((3 : Int) * s1.1)) + (1 : Int))) + r13.1)) (0 : Int) (0 : Int) ([] : List (List Int)) (api_Addr.mk false (0 : Int) (0 : Int)) (api_Addr.mk false (0 : Int) (0 : Int)))] : List api_Port)), r13.2))
  else
  some (.inl (r11.2, s1.2.1)))
noncomputable def exchangepointmill_Deck_Member (a0 : exchangepointmill_Deck) (a1 : Int) : Option (api_Member × exchangepointmill_Deck) :=
  (loop (exchangepointmill_Deck_Member_L0) ((0 : Int), ([] : List api_Port), a0)).bind fun p10 =>
  some ((api_Member.mk a1 ([109] : List UInt8) ([] : List UInt8) (0 : Int) (0 : Int) p10.2), p10.1)
set_option maxHeartbeats 4000000 in
set_option maxRecDepth 100000 in
theorem exchangepointmill_Deck_Member_ac (a0 : exchangepointmill_Deck) (a1 : Int) (r : api_Member × exchangepointmill_Deck) (h : exchangepointmill_Deck_Member a0 a1 = some r) : AC Try.prog 22 [(.ptr 0 0 []), (.d (.int .i64 a1))] [(0, (.box 72 (.d (e_exchangepointmill_Deck a0))))] (.d (e_api_Member r.1)) [(0, some (.box 72 (.d (e_exchangepointmill_Deck r.2))))] := by
  refine AC.of_code2 Try.func22 rfl rfl (Nat.le_of_ble_eq_true (by rfl)) fun B hB hN => ?_
  delta exchangepointmill_Deck_Member at h
  refine AWp.seq ?_
  refine AWp.region (oc (OpJ.alloc hB tyZ24 (nm := 1004) (by decide) (ltN hN rfl))
  (OpJs.nil)) (by rfl) (by rfl) ?_
  refine seqQ_n ?_
  refine AWp.ghost (mp [] [(0, (.ptr 0 0 [])), (1, (i6 a1)), (4, (.ptr 1004 0 []))] [(0, some (.box 72 (.d (e_exchangepointmill_Deck a0)))), (1004, some (.box 24 (.st [(i6 0), (.d (.str ([] : List UInt8))), (.d (.str ([] : List UInt8))), (i6 0), (i6 0), .nils])))] hB) ?_
  refine AWp.seq ?_
  refine AWp.region (oc (mv hN (ot 1 (i6 a1)))
  (oc (OpJ.build (places := [(0, 1), (1, 1), (2, 1), (3, 1), (4, 1), (5, 1)]) ⟨Try.underlying24, fun w => by kernel_rfl⟩ tyZS24 (Opds.cons (ot 7 (i6 a1)) (Opds.cons (Opd.str ([109] : List UInt8) _ rfl) Opds.nil)) (by kernel_rfl) (r := (.st [(i6 a1), (.d (.str ([109] : List UInt8))), (.d (.str ([] : List UInt8))), (i6 0), (i6 0), .nils])) (by rfl) (ltN hN rfl))
  (oc (OpJ.alloc hB tyZ24 (nm := 1005) (by decide) (ltN hN rfl))
  (oc (OpJ.storeB (bt := 24) (c := (.st [(i6 0), (.d (.str ([] : List UInt8))), (.d (.str ([] : List UInt8))), (i6 0), (i6 0), .nils])) (v := (.st [(i6 a1), (.d (.str ([109] : List UInt8))), (.d (.str ([] : List UInt8))), (i6 0), (i6 0), .nils])) (c' := (.st [(i6 a1), (.d (.str ([109] : List UInt8))), (.d (.str ([] : List UInt8))), (i6 0), (i6 0), .nils])) tyS24 (SetAt.here _ _) (by rfl) (by rfl) (by simp) rfl (ot 5 (.ptr 1005 0 [])) (ot 8 (.st [(i6 a1), (.d (.str ([109] : List UInt8))), (.d (.str ([] : List UInt8))), (i6 0), (i6 0), .nils])))
  (OpJs.nil))))) (by rfl) (by rfl) ?_
  refine seqQ_n ?_
  refine AWp.ghost (mp [] [(0, (.ptr 0 0 [])), (4, (.ptr 1004 0 [])), (5, (.ptr 1005 0 []))] [(0, some (.box 72 (.d (e_exchangepointmill_Deck a0)))), (1004, some (.box 24 (.st [(i6 0), (.d (.str ([] : List UInt8))), (.d (.str ([] : List UInt8))), (i6 0), (i6 0), .nils]))), (1005, some (.box 24 (.st [(i6 a1), (.d (.str ([109] : List UInt8))), (.d (.str ([] : List UInt8))), (i6 0), (i6 0), .nils])))] hB) ?_
  refine AWp.seq ?_
  refine AWp.seq ?_
  refine AWp.region (oc (OpJ.assign (ltN hN rfl) (Opd.int .i64 (0)))
  (OpJs.nil)) (by rfl) (by rfl) ?_
  refine seqQ_n ?_
  refine AWp.ghost (mp [] [(0, (.ptr 0 0 [])), (4, (.ptr 1004 0 [])), (5, (.ptr 1005 0 [])), (6, (i6 0))] [(0, some (.box 72 (.d (e_exchangepointmill_Deck a0)))), (1004, some (.box 24 (.st [(i6 0), (.d (.str ([] : List UInt8))), (.d (.str ([] : List UInt8))), (i6 0), (i6 0), .nils]))), (1005, some (.box 24 (.st [(i6 a1), (.d (.str ([109] : List UInt8))), (.d (.str ([] : List UInt8))), (i6 0), (i6 0), .nils])))] hB) ?_
  refine AWp.block ?_
  obtain ⟨p10, hx16, h⟩ := bindS h
  refine AWp.ghost (Mat.trans (Mat.beginP (n := 13055) (e := 68) (sz := 10) (Ts := []) (Bs := [(1005, some (.box 24 (.st [(i6 a1), (.d (.str ([109] : List UInt8))), (.d (.str ([] : List UInt8))), (i6 0), (i6 0), (.sref 13055 10 0 0)])))]) hB (by decide) (by rfl) (by decide) TwT.nil (TwB.cons (x := (.st [(i6 a1), (.d (.str ([109] : List UInt8))), (.d (.str ([] : List UInt8))), (i6 0), (i6 0), .nils])) (by rfl) (Tw.st (TwL.cons (Tw.same _) (TwL.cons (Tw.same _) (TwL.cons (Tw.same _) (TwL.cons (Tw.same _) (TwL.cons (Tw.same _) (TwL.cons (Tw.leaf ⟨rfl, rfl⟩) TwL.nil))))))) TwB.nil)) (mp [] ((fun s1 : Int × (List api_Port) × exchangepointmill_Deck => ([(0, (.ptr 0 0 [])), (4, (.ptr 1004 0 [])), (5, (.ptr 1005 0 [])), (6, (i6 s1.1))] : EL)) ((0 : Int), ([] : List api_Port), a0)) ((fun s1 : Int × (List api_Port) × exchangepointmill_Deck => ([(0, some (.box 72 (.d (e_exchangepointmill_Deck s1.2.2)))), (1004, some (.box 24 (.st [(i6 0), (.d (.str ([] : List UInt8))), (.d (.str ([] : List UInt8))), (i6 0), (i6 0), .nils]))), (1005, some (.box 24 (.st [(i6 a1), (.d (.str ([109] : List UInt8))), (.d (.str ([] : List UInt8))), (i6 0), (i6 0), (.sref 13055 10 0 s1.2.1.length)]))), (13055, some (we_api_Port_68_10 s1.2.1))] : OL)) ((0 : Int), ([] : List api_Port), a0)) hB)) ?_
  refine AWp.loopS (exchangepointmill_Deck_Member_L0) (fun s1 : Int × (List api_Port) × exchangepointmill_Deck => ([(0, (.ptr 0 0 [])), (4, (.ptr 1004 0 [])), (5, (.ptr 1005 0 [])), (6, (i6 s1.1))] : EL)) (fun s1 : Int × (List api_Port) × exchangepointmill_Deck => ([(0, some (.box 72 (.d (e_exchangepointmill_Deck s1.2.2)))), (1004, some (.box 24 (.st [(i6 0), (.d (.str ([] : List UInt8))), (.d (.str ([] : List UInt8))), (i6 0), (i6 0), .nils]))), (1005, some (.box 24 (.st [(i6 a1), (.d (.str ([109] : List UInt8))), (.d (.str ([] : List UInt8))), (i6 0), (i6 0), (.sref 13055 10 0 s1.2.1.length)]))), (13055, some (we_api_Port_68_10 s1.2.1))] : OL)) (fun (p10 : (exchangepointmill_Deck × (List api_Port))) e E' O' => e = .exit 0 ∧ Mat B E' O' ([(4, (.ptr 1004 0 [])), (5, (.ptr 1005 0 []))] : EL) ([(0, some (.box 72 (.d (e_exchangepointmill_Deck p10.1)))), (1004, some (.box 24 (.st [(i6 0), (.d (.str ([] : List UInt8))), (.d (.str ([] : List UInt8))), (i6 0), (i6 0), .nils]))), (1005, some (.box 24 (.st [(i6 a1), (.d (.str ([109] : List UInt8))), (.d (.str ([] : List UInt8))), (i6 0), (i6 0), (.sref 13055 10 0 p10.2.length)]))), (13055, some (we_api_Port_68_10 p10.2))] : OL)) hx16 (fun s1 y h => ?_) (fun e E' O' hR => ?_)
  · unfold exchangepointmill_Deck_Member_L0 at h
    show AWp _ _ _ _ ([(0, (.ptr 0 0 [])), (4, (.ptr 1004 0 [])), (5, (.ptr 1005 0 [])), (6, (i6 s1.1))] : EL) ([(0, some (.box 72 (.d (e_exchangepointmill_Deck s1.2.2)))), (1004, some (.box 24 (.st [(i6 0), (.d (.str ([] : List UInt8))), (.d (.str ([] : List UInt8))), (i6 0), (i6 0), .nils]))), (1005, some (.box 24 (.st [(i6 a1), (.d (.str ([109] : List UInt8))), (.d (.str ([] : List UInt8))), (i6 0), (i6 0), (.sref 13055 10 0 s1.2.1.length)]))), (13055, some (we_api_Port_68_10 s1.2.1))] : OL)
    refine AWp.seq ?_
    refine AWp.seq ?_
    obtain ⟨r11, hr11, h⟩ := bindS h
    refine AWp.region (oc (mv hN (ot 6 (i6 s1.1)))
      (oc (mv hN (ot 0 (.ptr 0 0 [])))
      (oc (OpJ.callFn hB fnOk17 (exchangepointmill_Deck_Next_ac s1.2.2 (3 : Int) r11 hr11) [(0, 0)] (by kernel_rfl) (ltN hN rfl) (by kernel_rfl) (OpdL.cons (ot 10 (.ptr 0 0 [])) (OpdL.cons (Opd.int .i64 (3)) OpdL.nil)))
      (oc (OpJ.add (ltN hN rfl) (Opd.int .i64 (1)) (ot 11 (i6 r11.1)))
      (oc (OpJ.lss (ltN hN rfl) (ot 9 (i6 s1.1)) (ot 12 (i6 (w64 ((1 : Int) + r11.1)))))
      (OpJs.nil)))))) (by rfl) (by rfl) ?_
    refine seqQ_n ?_
    refine AWp.ghost (mp [] [(0, (.ptr 0 0 [])), (4, (.ptr 1004 0 [])), (5, (.ptr 1005 0 [])), (6, (i6 s1.1)), (13, (bo (decide (s1.1 < (w64 ((1 : Int) + r11.1))))))] [(0, some (.box 72 (.d (e_exchangepointmill_Deck r11.2)))), (1004, some (.box 24 (.st [(i6 0), (.d (.str ([] : List UInt8))), (.d (.str ([] : List UInt8))), (i6 0), (i6 0), .nils]))), (1005, some (.box 24 (.st [(i6 a1), (.d (.str ([109] : List UInt8))), (.d (.str ([] : List UInt8))), (i6 0), (i6 0), (.sref 13055 10 0 s1.2.1.length)]))), (13055, some (we_api_Port_68_10 s1.2.1))] hB) ?_
    refine AWp.cond (b := (decide (s1.1 < (w64 ((1 : Int) + r11.1))))) (by rfl) (fun hg12 => ?_) (fun hg12 => ?_)
    · replace h := ite_t hg12 h
      refine AWp.skip ?_
      refine seqQ_n ?_
      refine AWp.seq ?_
      refine AWp.block ?_
      obtain ⟨r13, hr13, h⟩ := bindS h
      obtain ⟨hc14, h⟩ := chk_some h
      refine AWp.draws (by kernel_rfl) (oc (ov (.ptr 1005 5 [5]) (fp hN Try.underlying24 5 tyS22 (.box 24 (.st [(i6 a1), (.d (.str ([109] : List UInt8))), (.d (.str ([] : List UInt8))), (i6 0), (i6 0), (.sref 13055 10 0 s1.2.1.length)])) (ot 5 (.ptr 1005 0 []))))
        (oc (lb hN 24 (.st [(i6 a1), (.d (.str ([109] : List UInt8))), (.d (.str ([] : List UInt8))), (i6 0), (i6 0), (.sref 13055 10 0 s1.2.1.length)]) (.sref 13055 10 0 s1.2.1.length) tyS22 (At.st1 (f := (.sref 13055 10 0 s1.2.1.length)) (by rfl) (by rfl) (At.here _) (by first | rfl | omega)) (ot 16 (.ptr 1005 5 [5])))
        (oc (mv hN (ot 6 (i6 s1.1)))
        (oc (OpJ.mul (ltN hN rfl) (Opd.int .i64 (3)) (ot 18 (i6 s1.1)))
        (oc (OpJ.add (ltN hN rfl) (ot 19 (i6 (w64 ((3 : Int) * s1.1)))) (Opd.int .i64 (1)))
        (oc (mv hN (ot 0 (.ptr 0 0 [])))
        (oc (OpJ.callFn hB fnOk17 (exchangepointmill_Deck_Next_ac r11.2 (3 : Int) r13 hr13) [(0, 0)] (by kernel_rfl) (ltN hN rfl) (by kernel_rfl) (OpdL.cons (ot 21 (.ptr 0 0 [])) (OpdL.cons (Opd.int .i64 (3)) OpdL.nil)))
        (oc (OpJ.add (ltN hN rfl) (ot 20 (i6 (w64 ((w64 ((3 : Int) * s1.1)) + (1 : Int))))) (ot 22 (i6 r13.1)))
        (oc (OpJ.build (places := [(0, 1), (1, 1), (2, 1), (3, 1), (4, 3), (7, 3)]) ⟨Try.underlying68, fun w => by kernel_rfl⟩ tyZS68 (Opds.cons (ot 23 (i6 (w64 ((w64 ((w64 ((3 : Int) * s1.1)) + (1 : Int))) + r13.1)))) Opds.nil) (by kernel_rfl) (r := (.st [(i6 (w64 ((w64 ((w64 ((3 : Int) * s1.1)) + (1 : Int))) + r13.1))), (i6 0), (i6 0), .nils, (.d (.st [(.bool false), (.int .u64 0), (.int .u64 0)])), (.d (.st [(.bool false), (.int .u64 0), (.int .u64 0)]))])) (by rfl) (ltN hN rfl))
        (oc (OpJ.buildSlice Try.underlying22 tyS68 tyZD68 (by rfl) (by decide) (by decide) (Opds.cons (Opd.co (Co.st (CoL.cons (Co.d _) (CoL.cons (Co.d _) (CoL.cons (Co.d _) (CoL.cons (Co.nils 6) (CoL.cons (Co.d _) (CoL.cons (Co.d _) CoL.nil))))))) (ot 24 (.st [(i6 (w64 ((w64 ((w64 ((3 : Int) * s1.1)) + (1 : Int))) + r13.1))), (i6 0), (i6 0), .nils, (.d (.st [(.bool false), (.int .u64 0), (.int .u64 0)])), (.d (.st [(.bool false), (.int .u64 0), (.int .u64 0)]))]))) Opds.nil) (by kernel_rfl) (es := ([(.st [(.int .i64 (w64 ((w64 ((w64 ((3 : Int) * s1.1)) + (1 : Int))) + r13.1))), (.int .i64 0), (.int .i64 0), (.list 6 (([] : List (List Int)).map e_A6eIu8)), (.st [(.bool false), (.int .u64 0), (.int .u64 0)]), (.st [(.bool false), (.int .u64 0), (.int .u64 0)])])] : List D)) (by rfl) (by rfl) (by kernel_rfl) (by simp) (ltN hN rfl))
        (oc (OpJ.append hB Try.underlying22 tyE68 (nm := 1026) (by decide) (es := s1.2.1.map e_api_Port) (ys := ([(api_Port.mk (w64 ((w64 ((w64 ((3 : Int) * s1.1)) + (1 : Int))) + r13.1)) (0 : Int) (0 : Int) ([] : List (List Int)) (api_Addr.mk false (0 : Int) (0 : Int)) (api_Addr.mk false (0 : Int) (0 : Int)))] : List api_Port).map e_api_Port) (es' := (s1.2.1 ++ ([(api_Port.mk (w64 ((w64 ((w64 ((3 : Int) * s1.1)) + (1 : Int))) + r13.1)) (0 : Int) (0 : Int) ([] : List (List Int)) (api_Addr.mk false (0 : Int) (0 : Int)) (api_Addr.mk false (0 : Int) (0 : Int)))] : List api_Port)).map e_api_Port) (len := (s1.2.1 ++ ([(api_Port.mk (w64 ((w64 ((w64 ((3 : Int) * s1.1)) + (1 : Int))) + r13.1)) (0 : Int) (0 : Int) ([] : List (List Int)) (api_Addr.mk false (0 : Int) (0 : Int)) (api_Addr.mk false (0 : Int) (0 : Int)))] : List api_Port)).length) (by simp) (by simp) (map_sz (f := e_api_Port) (fun _ => rfl)) (by rw [List.length_map]; exact lim_mulN hc14 (by decide)) (by rw [List.length_map]; exact lim_leN hc14) (ltN hN rfl) (by simp) (ot 17 (.sref 13055 10 0 s1.2.1.length)) (ot 25 (qe_api_Port_10 ([(api_Port.mk (w64 ((w64 ((w64 ((3 : Int) * s1.1)) + (1 : Int))) + r13.1)) (0 : Int) (0 : Int) ([] : List (List Int)) (api_Addr.mk false (0 : Int) (0 : Int)) (api_Addr.mk false (0 : Int) (0 : Int)))] : List api_Port))))
        (oc (ov (.ptr 1005 5 [5]) (fp hN Try.underlying24 5 tyS22 (.box 24 (.st [(i6 a1), (.d (.str ([109] : List UInt8))), (.d (.str ([] : List UInt8))), (i6 0), (i6 0), (.sref 13055 10 0 s1.2.1.length)])) (ot 5 (.ptr 1005 0 []))))
        (oc (OpJ.storeB (bt := 24) (c := (.st [(i6 a1), (.d (.str ([109] : List UInt8))), (.d (.str ([] : List UInt8))), (i6 0), (i6 0), (.sref 13055 10 0 s1.2.1.length)])) (v := (.sref 1026 10 0 ((s1.2.1 ++ ([(api_Port.mk (w64 ((w64 ((w64 ((3 : Int) * s1.1)) + (1 : Int))) + r13.1)) (0 : Int) (0 : Int) ([] : List (List Int)) (api_Addr.mk false (0 : Int) (0 : Int)) (api_Addr.mk false (0 : Int) (0 : Int)))] : List api_Port)).length))) (c' := (.st [(i6 a1), (.d (.str ([109] : List UInt8))), (.d (.str ([] : List UInt8))), (i6 0), (i6 0), (.sref 1026 10 0 ((s1.2.1 ++ ([(api_Port.mk (w64 ((w64 ((w64 ((3 : Int) * s1.1)) + (1 : Int))) + r13.1)) (0 : Int) (0 : Int) ([] : List (List Int)) (api_Addr.mk false (0 : Int) (0 : Int)) (api_Addr.mk false (0 : Int) (0 : Int)))] : List api_Port)).length))])) tyS22 (SetAt.st1 (f := (.sref 13055 10 0 s1.2.1.length)) (by rfl) (by rfl) (SetAt.here _ _) (by rfl) (by rfl) (by first | rfl | omega)) (by rfl) (by rfl) (by simp) rfl (ot 27 (.ptr 1005 5 [5])) (ot 26 (.sref 1026 10 0 ((s1.2.1 ++ ([(api_Port.mk (w64 ((w64 ((w64 ((3 : Int) * s1.1)) + (1 : Int))) + r13.1)) (0 : Int) (0 : Int) ([] : List (List Int)) (api_Addr.mk false (0 : Int) (0 : Int)) (api_Addr.mk false (0 : Int) (0 : Int)))] : List api_Port)).length))))
        (OpJs.nil)))))))))))))) (by kernel_rfl) (by rfl) (by rfl) ?_
      refine blkQ_n ?_
      refine seqQ_n ?_
      refine AWp.ghost (mp [] [(0, (.ptr 0 0 [])), (4, (.ptr 1004 0 [])), (5, (.ptr 1005 0 [])), (6, (i6 s1.1))] [(0, some (.box 72 (.d (e_exchangepointmill_Deck r13.2)))), (1004, some (.box 24 (.st [(i6 0), (.d (.str ([] : List UInt8))), (.d (.str ([] : List UInt8))), (i6 0), (i6 0), .nils]))), (1005, some (.box 24 (.st [(i6 a1), (.d (.str ([109] : List UInt8))), (.d (.str ([] : List UInt8))), (i6 0), (i6 0), (.sref 1026 10 0 ((s1.2.1 ++ ([(api_Port.mk (w64 ((w64 ((w64 ((3 : Int) * s1.1)) + (1 : Int))) + r13.1)) (0 : Int) (0 : Int) ([] : List (List Int)) (api_Addr.mk false (0 : Int) (0 : Int)) (api_Addr.mk false (0 : Int) (0 : Int)))] : List api_Port)).length))]))), (1026, some (we_api_Port_68_10 (s1.2.1 ++ ([(api_Port.mk (w64 ((w64 ((w64 ((3 : Int) * s1.1)) + (1 : Int))) + r13.1)) (0 : Int) (0 : Int) ([] : List (List Int)) (api_Addr.mk false (0 : Int) (0 : Int)) (api_Addr.mk false (0 : Int) (0 : Int)))] : List api_Port))))] hB) ?_
      refine AWp.region (oc (mv hN (ot 6 (i6 s1.1)))
        (oc (OpJ.add (ltN hN rfl) (ot 14 (i6 s1.1)) (Opd.int .i64 (1)))
        (oc (OpJ.assign (ltN hN rfl) (ot 15 (i6 (w64 (s1.1 + (1 : Int))))))
        (OpJs.nil)))) (by rfl) (by rfl) ?_
      obtain rfl := Option.some.inj h
      exact ⟨rfl, (Mat.trans (mp [] [(0, (.ptr 0 0 [])), (4, (.ptr 1004 0 [])), (5, (.ptr 1005 0 [])), (6, (i6 (w64 (s1.1 + (1 : Int)))))] [(0, some (.box 72 (.d (e_exchangepointmill_Deck r13.2)))), (1004, some (.box 24 (.st [(i6 0), (.d (.str ([] : List UInt8))), (.d (.str ([] : List UInt8))), (i6 0), (i6 0), .nils]))), (1005, some (.box 24 (.st [(i6 a1), (.d (.str ([109] : List UInt8))), (.d (.str ([] : List UInt8))), (i6 0), (i6 0), (.sref 1026 10 0 ((s1.2.1 ++ ([(api_Port.mk (w64 ((w64 ((w64 ((3 : Int) * s1.1)) + (1 : Int))) + r13.1)) (0 : Int) (0 : Int) ([] : List (List Int)) (api_Addr.mk false (0 : Int) (0 : Int)) (api_Addr.mk false (0 : Int) (0 : Int)))] : List api_Port)).length))]))), (1026, some (we_api_Port_68_10 (s1.2.1 ++ ([(api_Port.mk (w64 ((w64 ((w64 ((3 : Int) * s1.1)) + (1 : Int))) + r13.1)) (0 : Int) (0 : Int) ([] : List (List Int)) (api_Addr.mk false (0 : Int) (0 : Int)) (api_Addr.mk false (0 : Int) (0 : Int)))] : List api_Port))))] hB) (mp [(13055, 1026)] ((fun s1 : Int × (List api_Port) × exchangepointmill_Deck => ([(0, (.ptr 0 0 [])), (4, (.ptr 1004 0 [])), (5, (.ptr 1005 0 [])), (6, (i6 s1.1))] : EL)) ((w64 (s1.1 + (1 : Int))), (s1.2.1 ++ ([(api_Port.mk (w64 ((w64 ((w64 ((3 : Int) * s1.1)) + (1 : Int))) + r13.1)) (0 : Int) (0 : Int) ([] : List (List Int)) (api_Addr.mk false (0 : Int) (0 : Int)) (api_Addr.mk false (0 : Int) (0 : Int)))] : List api_Port)), r13.2)) ((fun s1 : Int × (List api_Port) × exchangepointmill_Deck => ([(0, some (.box 72 (.d (e_exchangepointmill_Deck s1.2.2)))), (1004, some (.box 24 (.st [(i6 0), (.d (.str ([] : List UInt8))), (.d (.str ([] : List UInt8))), (i6 0), (i6 0), .nils]))), (1005, some (.box 24 (.st [(i6 a1), (.d (.str ([109] : List UInt8))), (.d (.str ([] : List UInt8))), (i6 0), (i6 0), (.sref 13055 10 0 s1.2.1.length)]))), (13055, some (we_api_Port_68_10 s1.2.1))] : OL)) ((w64 (s1.1 + (1 : Int))), (s1.2.1 ++ ([(api_Port.mk (w64 ((w64 ((w64 ((3 : Int) * s1.1)) + (1 : Int))) + r13.1)) (0 : Int) (0 : Int) ([] : List (List Int)) (api_Addr.mk false (0 : Int) (0 : Int)) (api_Addr.mk false (0 : Int) (0 : Int)))] : List api_Port)), r13.2)) hB))⟩
    · replace h := ite_f hg12 h
      refine AWp.exit ?_
      refine seqQ_e ?_
      obtain rfl := Option.some.inj h
      exact ⟨(fun hc => by cases hc), rfl, (mp [] ((fun p10 : exchangepointmill_Deck × (List api_Port) => ([(4, (.ptr 1004 0 [])), (5, (.ptr 1005 0 []))] : EL)) (r11.2, s1.2.1)) ((fun p10 : exchangepointmill_Deck × (List api_Port) => ([(0, some (.box 72 (.d (e_exchangepointmill_Deck p10.1)))), (1004, some (.box 24 (.st [(i6 0), (.d (.str ([] : List UInt8))), (.d (.str ([] : List UInt8))), (i6 0), (i6 0), .nils]))), (1005, some (.box 24 (.st [(i6 a1), (.d (.str ([109] : List UInt8))), (.d (.str ([] : List UInt8))), (i6 0), (i6 0), (.sref 13055 10 0 p10.2.length)]))), (13055, some (we_api_Port_68_10 p10.2))] : OL)) (r11.2, s1.2.1)) hB)⟩
  · obtain ⟨rfl, hmat⟩ := hR
    refine blkQ_hit ?_
    refine seqQ_n ?_
    refine AWp.ghost hmat ?_
    refine AWp.seq ?_
    refine AWp.region (oc (lb hN 24 (.st [(i6 a1), (.d (.str ([109] : List UInt8))), (.d (.str ([] : List UInt8))), (i6 0), (i6 0), (.sref 13055 10 0 p10.2.length)]) (.st [(i6 a1), (.d (.str ([109] : List UInt8))), (.d (.str ([] : List UInt8))), (i6 0), (i6 0), (.sref 13055 10 0 p10.2.length)]) tyS24 (At.here _) (ot 5 (.ptr 1005 0 [])))
      (oc (OpJ.storeB (bt := 24) (c := (.st [(i6 0), (.d (.str ([] : List UInt8))), (.d (.str ([] : List UInt8))), (i6 0), (i6 0), .nils])) (v := (.st [(i6 a1), (.d (.str ([109] : List UInt8))), (.d (.str ([] : List UInt8))), (i6 0), (i6 0), (.sref 13055 10 0 p10.2.length)])) (c' := (.st [(i6 a1), (.d (.str ([109] : List UInt8))), (.d (.str ([] : List UInt8))), (i6 0), (i6 0), (.sref 13055 10 0 p10.2.length)])) tyS24 (SetAt.here _ _) (by rfl) (by rfl) (by simp) rfl (ot 4 (.ptr 1004 0 [])) (ot 28 (.st [(i6 a1), (.d (.str ([109] : List UInt8))), (.d (.str ([] : List UInt8))), (i6 0), (i6 0), (.sref 13055 10 0 p10.2.length)])))
      (OpJs.nil))) (by rfl) (by rfl) ?_
    refine seqQ_n ?_
    refine AWp.ghost (mp [] [(4, (.ptr 1004 0 []))] [(0, some (.box 72 (.d (e_exchangepointmill_Deck p10.1)))), (1004, some (.box 24 (.st [(i6 a1), (.d (.str ([109] : List UInt8))), (.d (.str ([] : List UInt8))), (i6 0), (i6 0), (.sref 13055 10 0 p10.2.length)]))), (13055, some (we_api_Port_68_10 p10.2))] hB) ?_
    refine AWp.ret ?_
    obtain rfl := Option.some.inj h
    exact ⟨.inl rfl, _, _, (Mat.trans (Mat.freezeP (n := 13055) (e := 68) (sz := 10) (es := p10.2.map e_api_Port) (Ts := []) (Bs := [(1004, some (.box 24 (.st [(i6 a1), (.d (.str ([109] : List UInt8))), (.d (.str ([] : List UInt8))), (i6 0), (i6 0), (qe_api_Port_10 p10.2)])))]) (by rfl) TwT.nil (TwB.cons (x := (.st [(i6 a1), (.d (.str ([109] : List UInt8))), (.d (.str ([] : List UInt8))), (i6 0), (i6 0), (.sref 13055 10 0 p10.2.length)])) (by rfl) (Tw.st (TwL.cons (Tw.same _) (TwL.cons (Tw.same _) (TwL.cons (Tw.same _) (TwL.cons (Tw.same _) (TwL.cons (Tw.same _) (TwL.cons (FrzL.all (by first | rfl | (simp; done) | (simp; omega))) TwL.nil))))))) TwB.nil)) (Mat.trans (Mat.coeP (Ts := []) (Bs := [(1004, some (.box 24 (.d (.st [(.int .i64 a1), (.str ([109] : List UInt8)), (.str ([] : List UInt8)), (.int .i64 0), (.int .i64 0), (.list 10 (p10.2.map e_api_Port))]))))]) TwT.nil (TwB.cons (x := (.st [(i6 a1), (.d (.str ([109] : List UInt8))), (.d (.str ([] : List UInt8))), (i6 0), (i6 0), (qe_api_Port_10 p10.2)])) (by rfl) (Tw.leaf ⟨_, (Co.st (CoL.cons (Co.d _) (CoL.cons (Co.d _) (CoL.cons (Co.d _) (CoL.cons (Co.d _) (CoL.cons (Co.d _) (CoL.cons (Co.d _) CoL.nil))))))), rfl⟩) TwB.nil)) (mp [] [(4, (.ptr 1004 0 []))] [(0, some (.box 72 (.d (e_exchangepointmill_Deck p10.1)))), (1004, some (.box 24 (.d (.st [(.int .i64 a1), (.str ([109] : List UInt8)), (.str ([] : List UInt8)), (.int .i64 0), (.int .i64 0), (.list 10 (p10.2.map e_api_Port))]))))] hB))), [(.d (.st [(.int .i64 a1), (.str ([109] : List UInt8)), (.str ([] : List UInt8)), (.int .i64 0), (.int .i64 0), (.list 10 (p10.2.map e_api_Port))]))], (Res.cell (c := (.d (.st [(.int .i64 a1), (.str ([109] : List UInt8)), (.str ([] : List UInt8)), (.int .i64 0), (.int .i64 0), (.list 10 (p10.2.map e_api_Port))]))) (by rfl) (by rfl) tyS24 (by rfl) (by rfl) (by rfl) Res.nil), rfl, by rfl, by rfl, by rfl⟩

noncomputable def exchangepointmill_Deck_Tariff (a0 : exchangepointmill_Deck) : Option (api_Tariff × exchangepointmill_Deck) :=
  (exchangepointmill_Deck_Next a0 (100000 : Int)).bind fun r1 =>
  (exchangepointmill_Deck_Next r1.2 (200 : Int)).bind fun r2 =>
  (exchangepointmill_Deck_Next r2.2 (50 : Int)).bind fun r3 =>
  some ((api_Tariff.mk r1.1 r2.1 r3.1), r3.2)
set_option maxHeartbeats 4000000 in
set_option maxRecDepth 100000 in
theorem exchangepointmill_Deck_Tariff_ac (a0 : exchangepointmill_Deck) (r : api_Tariff × exchangepointmill_Deck) (h : exchangepointmill_Deck_Tariff a0 = some r) : AC Try.prog 24 [(.ptr 0 0 [])] [(0, (.box 72 (.d (e_exchangepointmill_Deck a0))))] (.d (e_api_Tariff r.1)) [(0, some (.box 72 (.d (e_exchangepointmill_Deck r.2))))] := by
  refine AC.of_code2 Try.func24 rfl rfl (Nat.le_of_ble_eq_true (by rfl)) fun B hB hN => ?_
  delta exchangepointmill_Deck_Tariff at h
  refine AWp.seq ?_
  refine AWp.region (oc (OpJ.alloc hB tyZ27 (nm := 1002) (by decide) (ltN hN rfl))
  (OpJs.nil)) (by rfl) (by rfl) ?_
  refine seqQ_n ?_
  refine AWp.ghost (mp [] [(0, (.ptr 0 0 [])), (2, (.ptr 1002 0 []))] [(0, some (.box 72 (.d (e_exchangepointmill_Deck a0)))), (1002, some (.box 27 (.d (.st [(.int .i64 0), (.int .i64 0), (.int .i64 0)]))))] hB) ?_
  refine AWp.seq ?_
  obtain ⟨r1, hr1, h⟩ := bindS h
  obtain ⟨r2, hr2, h⟩ := bindS h
  obtain ⟨r3, hr3, h⟩ := bindS h
  refine AWp.region (oc (mv hN (ot 0 (.ptr 0 0 [])))
  (oc (OpJ.callFn hB fnOk17 (exchangepointmill_Deck_Next_ac a0 (100000 : Int) r1 hr1) [(0, 0)] (by kernel_rfl) (ltN hN rfl) (by kernel_rfl) (OpdL.cons (ot 3 (.ptr 0 0 [])) (OpdL.cons (Opd.int .i64 (100000)) OpdL.nil)))
  (oc (mv hN (ot 0 (.ptr 0 0 [])))
  (oc (OpJ.callFn hB fnOk17 (exchangepointmill_Deck_Next_ac r1.2 (200 : Int) r2 hr2) [(0, 0)] (by kernel_rfl) (ltN hN rfl) (by kernel_rfl) (OpdL.cons (ot 5 (.ptr 0 0 [])) (OpdL.cons (Opd.int .i64 (200)) OpdL.nil)))
  (oc (mv hN (ot 0 (.ptr 0 0 [])))
  (oc (OpJ.callFn hB fnOk17 (exchangepointmill_Deck_Next_ac r2.2 (50 : Int) r3 hr3) [(0, 0)] (by kernel_rfl) (ltN hN rfl) (by kernel_rfl) (OpdL.cons (ot 7 (.ptr 0 0 [])) (OpdL.cons (Opd.int .i64 (50)) OpdL.nil)))
  (oc (OpJ.coe (v := (.st [(i6 r1.1), (i6 r2.1), (i6 r3.1)])) (y := (.st [(.int .i64 r1.1), (.int .i64 r2.1), (.int .i64 r3.1)])) (Co.st (CoL.cons (Co.d _) (CoL.cons (Co.d _) (CoL.cons (Co.d _) CoL.nil)))) rfl (OpJ.build (places := [(0, 1), (1, 1), (2, 1)]) ⟨Try.underlying27, fun w => by kernel_rfl⟩ tyZS27 (Opds.cons (ot 4 (i6 r1.1)) (Opds.cons (ot 6 (i6 r2.1)) (Opds.cons (ot 8 (i6 r3.1)) Opds.nil))) (by kernel_rfl) (r := (.st [(i6 r1.1), (i6 r2.1), (i6 r3.1)])) (by rfl) (ltN hN rfl)))
  (oc (OpJ.storeB (bt := 27) (c := (.d (.st [(.int .i64 0), (.int .i64 0), (.int .i64 0)]))) (v := (.d (.st [(.int .i64 r1.1), (.int .i64 r2.1), (.int .i64 r3.1)]))) (c' := (.d (.st [(.int .i64 r1.1), (.int .i64 r2.1), (.int .i64 r3.1)]))) tyS27 (SetAt.here _ _) (by rfl) (by rfl) (by simp) rfl (ot 2 (.ptr 1002 0 [])) (ot 9 (.d (.st [(.int .i64 r1.1), (.int .i64 r2.1), (.int .i64 r3.1)]))))
  (OpJs.nil))))))))) (by rfl) (by rfl) ?_
  refine seqQ_n ?_
  refine AWp.ghost (mp [] [(2, (.ptr 1002 0 []))] [(0, some (.box 72 (.d (e_exchangepointmill_Deck r3.2)))), (1002, some (.box 27 (.d (.st [(.int .i64 r1.1), (.int .i64 r2.1), (.int .i64 r3.1)]))))] hB) ?_
  refine AWp.ret ?_
  obtain rfl := Option.some.inj h
  exact ⟨.inl rfl, _, _, (mp [] [(2, (.ptr 1002 0 []))] [(0, some (.box 72 (.d (e_exchangepointmill_Deck r3.2)))), (1002, some (.box 27 (.d (.st [(.int .i64 r1.1), (.int .i64 r2.1), (.int .i64 r3.1)]))))] hB), [(.d (.st [(.int .i64 r1.1), (.int .i64 r2.1), (.int .i64 r3.1)]))], (Res.cell (c := (.d (.st [(.int .i64 r1.1), (.int .i64 r2.1), (.int .i64 r3.1)]))) (by rfl) (by rfl) tyS27 (by rfl) (by rfl) (by rfl) Res.nil), rfl, by rfl, by rfl, by rfl⟩

noncomputable def exchangepointmill_Deck_Series_L0 (x4 : Int) (s6 : Int × (List Int) × (List Int) × exchangepointmill_Deck) : Option (((exchangepointmill_Deck × (List Int) × (List Int))) ⊕ (Int × (List Int) × (List Int) × exchangepointmill_Deck)) :=
  (if (decide ((0 : Int) < s6.1)) = true then
  (exchangepointmill_Deck_Next s6.2.2.2 x4).bind fun r29 =>
  (exchangepointmill_Deck_Next r29.2 x4).bind fun r30 =>
  (exchangepointmill_Deck_Next r30.2 (6 : Int)).bind fun r31 =>
  jn (fun m33 : Int × Int =>
  chk (decide ((s6.2.2.1 ++ ([m33.1] : List Int)).length ≤ LIM)) <|
  chk (decide ((s6.2.1 ++ ([m33.2] : List Int)).length ≤ LIM)) <|
  some (.inr ((w64 (s6.1 - (1 : Int))), (s6.2.1 ++ ([m33.2] : List Int)), (s6.2.2.1 ++ ([m33.1] : List Int)), r31.2))) (fun j34 =>
  (if (r31.1 == (0 : Int)) = true then
  j34 ((-1 : Int), (-1 : Int))
  else
  j34 (r29.1, r30.1)))
  else
  some (.inl (s6.2.2.2, s6.2.1, s6.2.2.1)))
noncomputable def exchangepointmill_Deck_Series (a0 : exchangepointmill_Deck) (a1 : Int) : Option (api_Series × exchangepointmill_Deck) :=
  (exchangepointmill_Deck_Next a0 (3 : Int)).bind fun r1 =>
  (idx ([(300 : Int), (1 : Int), (60 : Int)] : List Int) r1.1).bind fun x2 =>
  (exchangepointmill_Deck_Next r1.2 (3 : Int)).bind fun r3 =>
  (idx ([(1048576 : Int), (17179869184 : Int), (1125899906842625 : Int)] : List Int) r3.1).bind fun x4 =>
  (exchangepointmill_Deck_Next r3.2 (30 : Int)).bind fun r5 =>
  (loop (exchangepointmill_Deck_Series_L0 x4) (r5.1, ([] : List Int), ([] : List Int), r5.2)).bind fun p27 =>
  some ((api_Series.mk a1 x2 p27.2.2 p27.2.1), p27.1)
set_option maxHeartbeats 4000000 in
set_option maxRecDepth 100000 in
theorem exchangepointmill_Deck_Series_ac (a0 : exchangepointmill_Deck) (a1 : Int) (r : api_Series × exchangepointmill_Deck) (h : exchangepointmill_Deck_Series a0 a1 = some r) : AC Try.prog 25 [(.ptr 0 0 []), (.d (.int .i64 a1))] [(0, (.box 72 (.d (e_exchangepointmill_Deck a0))))] (.d (e_api_Series r.1)) [(0, some (.box 72 (.d (e_exchangepointmill_Deck r.2))))] := by
  refine AC.of_code2 Try.func25 rfl rfl (Nat.le_of_ble_eq_true (by rfl)) fun B hB hN => ?_
  delta exchangepointmill_Deck_Series at h
  refine AWp.seq ?_
  refine AWp.region (oc (OpJ.alloc hB tyZ31 (nm := 1004) (by decide) (ltN hN rfl))
  (OpJs.nil)) (by rfl) (by rfl) ?_
  refine seqQ_n ?_
  refine AWp.ghost (mp [] [(0, (.ptr 0 0 [])), (1, (i6 a1)), (4, (.ptr 1004 0 []))] [(0, some (.box 72 (.d (e_exchangepointmill_Deck a0)))), (1004, some (.box 31 (.st [(i6 0), (i6 0), .nils, .nils])))] hB) ?_
  refine AWp.seq ?_
  obtain ⟨r1, hr1, h⟩ := bindS h
  obtain ⟨x2, hx2, h⟩ := bindS h
  refine AWp.region (oc (mv hN (ot 1 (i6 a1)))
  (oc (OpJ.buildSlice Try.underlying28 tyS3 tyZD3 (by rfl) (by decide) (by decide) (Opds.cons (Opd.int .i64 (300)) (Opds.cons (Opd.int .i64 (1)) (Opds.cons (Opd.int .i64 (60)) Opds.nil))) (by kernel_rfl) (es := ([(.int .i64 (300 : Int)), (.int .i64 1), (.int .i64 (60 : Int))] : List D)) (by rfl) (by rfl) (by kernel_rfl) (by simp) (ltN hN rfl))
  (oc (mv hN (ot 0 (.ptr 0 0 [])))
  (oc (OpJ.callFn hB fnOk17 (exchangepointmill_Deck_Next_ac a0 (3 : Int) r1 hr1) [(0, 0)] (by kernel_rfl) (ltN hN rfl) (by kernel_rfl) (OpdL.cons (ot 12 (.ptr 0 0 [])) (OpdL.cons (Opd.int .i64 (3)) OpdL.nil)))
  (oc (OpJ.indexD (el := (.int .i64 x2)) Try.underlying28 tyS3 (idx_some hx2).1 (get_map (eI .i64) (idx_some hx2).2) (ltN hN rfl) (ot 11 (qI_1 ([(300 : Int), (1 : Int), (60 : Int)] : List Int))) (ot 13 (i6 r1.1)))
  (oc (OpJ.loadD tyS3 (by rfl) (by rfl) (ltN hN rfl) (ot 14 (.dptr (.int .i64 x2))))
  (oc (OpJ.build (places := [(0, 1), (1, 1), (2, 1), (3, 1)]) ⟨Try.underlying31, fun w => by kernel_rfl⟩ tyZS31 (Opds.cons (ot 10 (i6 a1)) (Opds.cons (ot 15 (i6 x2)) Opds.nil)) (by kernel_rfl) (r := (.st [(i6 a1), (i6 x2), .nils, .nils])) (by rfl) (ltN hN rfl))
  (oc (OpJ.alloc hB tyZ31 (nm := 1005) (by decide) (ltN hN rfl))
  (oc (OpJ.storeB (bt := 31) (c := (.st [(i6 0), (i6 0), .nils, .nils])) (v := (.st [(i6 a1), (i6 x2), .nils, .nils])) (c' := (.st [(i6 a1), (i6 x2), .nils, .nils])) tyS31 (SetAt.here _ _) (by rfl) (by rfl) (by simp) rfl (ot 5 (.ptr 1005 0 [])) (ot 16 (.st [(i6 a1), (i6 x2), .nils, .nils])))
  (OpJs.nil)))))))))) (by rfl) (by rfl) ?_
  refine seqQ_n ?_
  refine AWp.ghost (mp [] [(0, (.ptr 0 0 [])), (4, (.ptr 1004 0 [])), (5, (.ptr 1005 0 []))] [(0, some (.box 72 (.d (e_exchangepointmill_Deck r1.2)))), (1004, some (.box 31 (.st [(i6 0), (i6 0), .nils, .nils]))), (1005, some (.box 31 (.st [(i6 a1), (i6 x2), .nils, .nils])))] hB) ?_
  refine AWp.seq ?_
  obtain ⟨r3, hr3, h⟩ := bindS h
  obtain ⟨x4, hx4, h⟩ := bindS h
  refine AWp.region (oc (OpJ.buildSlice Try.underlying28 tyS3 tyZD3 (by rfl) (by decide) (by decide) (Opds.cons (Opd.int .i64 (1048576)) (Opds.cons (Opd.int .i64 (17179869184)) (Opds.cons (Opd.int .i64 (1125899906842625)) Opds.nil))) (by kernel_rfl) (es := ([(.int .i64 (1048576 : Int)), (.int .i64 (17179869184 : Int)), (.int .i64 (1125899906842625 : Int))] : List D)) (by rfl) (by rfl) (by kernel_rfl) (by simp) (ltN hN rfl))
  (oc (mv hN (ot 0 (.ptr 0 0 [])))
  (oc (OpJ.callFn hB fnOk17 (exchangepointmill_Deck_Next_ac r1.2 (3 : Int) r3 hr3) [(0, 0)] (by kernel_rfl) (ltN hN rfl) (by kernel_rfl) (OpdL.cons (ot 18 (.ptr 0 0 [])) (OpdL.cons (Opd.int .i64 (3)) OpdL.nil)))
  (oc (OpJ.indexD (el := (.int .i64 x4)) Try.underlying28 tyS3 (idx_some hx4).1 (get_map (eI .i64) (idx_some hx4).2) (ltN hN rfl) (ot 17 (qI_1 ([(1048576 : Int), (17179869184 : Int), (1125899906842625 : Int)] : List Int))) (ot 19 (i6 r3.1)))
  (oc (OpJ.loadD tyS3 (by rfl) (by rfl) (ltN hN rfl) (ot 20 (.dptr (.int .i64 x4))))
  (oc (OpJ.assign (ltN hN rfl) (ot 21 (i6 x4)))
  (OpJs.nil))))))) (by rfl) (by rfl) ?_
  refine seqQ_n ?_
  refine AWp.ghost (mp [] [(0, (.ptr 0 0 [])), (4, (.ptr 1004 0 [])), (5, (.ptr 1005 0 [])), (6, (i6 x4))] [(0, some (.box 72 (.d (e_exchangepointmill_Deck r3.2)))), (1004, some (.box 31 (.st [(i6 0), (i6 0), .nils, .nils]))), (1005, some (.box 31 (.st [(i6 a1), (i6 x2), .nils, .nils])))] hB) ?_
  refine AWp.seq ?_
  refine AWp.seq ?_
  obtain ⟨r5, hr5, h⟩ := bindS h
  refine AWp.region (oc (mv hN (ot 0 (.ptr 0 0 [])))
  (oc (OpJ.callFn hB fnOk17 (exchangepointmill_Deck_Next_ac r3.2 (30 : Int) r5 hr5) [(0, 0)] (by kernel_rfl) (ltN hN rfl) (by kernel_rfl) (OpdL.cons (ot 22 (.ptr 0 0 [])) (OpdL.cons (Opd.int .i64 (30)) OpdL.nil)))
  (oc (OpJ.assign (ltN hN rfl) (ot 23 (i6 r5.1)))
  (OpJs.nil)))) (by rfl) (by rfl) ?_
  refine seqQ_n ?_
  refine AWp.ghost (mp [] [(0, (.ptr 0 0 [])), (4, (.ptr 1004 0 [])), (5, (.ptr 1005 0 [])), (6, (i6 x4)), (7, (i6 r5.1))] [(0, some (.box 72 (.d (e_exchangepointmill_Deck r5.2)))), (1004, some (.box 31 (.st [(i6 0), (i6 0), .nils, .nils]))), (1005, some (.box 31 (.st [(i6 a1), (i6 x2), .nils, .nils])))] hB) ?_
  refine AWp.block ?_
  obtain ⟨p27, hx39, h⟩ := bindS h
  refine AWp.ghost (Mat.trans (Mat.beginP (n := 13052) (e := 3) (sz := 1) (Ts := []) (Bs := [(1005, some (.box 31 (.st [(i6 a1), (i6 x2), (.sref 13052 1 0 0), .nils])))]) hB (by decide) (by rfl) (by decide) TwT.nil (TwB.cons (x := (.st [(i6 a1), (i6 x2), .nils, .nils])) (by rfl) (Tw.st (TwL.cons (Tw.same _) (TwL.cons (Tw.same _) (TwL.cons (Tw.leaf ⟨rfl, rfl⟩) (TwL.cons (Tw.same _) TwL.nil))))) TwB.nil)) (Mat.trans (Mat.beginP (n := 13053) (e := 3) (sz := 1) (Ts := []) (Bs := [(1005, some (.box 31 (.st [(i6 a1), (i6 x2), (.sref 13052 1 0 0), (.sref 13053 1 0 0)])))]) hB (by decide) (by rfl) (by decide) TwT.nil (TwB.cons (x := (.st [(i6 a1), (i6 x2), (.sref 13052 1 0 0), .nils])) (by rfl) (Tw.st (TwL.cons (Tw.same _) (TwL.cons (Tw.same _) (TwL.cons (Tw.same _) (TwL.cons (Tw.leaf ⟨rfl, rfl⟩) TwL.nil))))) TwB.nil)) (mp [] ((fun s6 : Int × (List Int) × (List Int) × exchangepointmill_Deck => ([(0, (.ptr 0 0 [])), (4, (.ptr 1004 0 [])), (5, (.ptr 1005 0 [])), (6, (i6 x4)), (7, (i6 s6.1))] : EL)) (r5.1, ([] : List Int), ([] : List Int), r5.2)) ((fun s6 : Int × (List Int) × (List Int) × exchangepointmill_Deck => ([(0, some (.box 72 (.d (e_exchangepointmill_Deck s6.2.2.2)))), (1004, some (.box 31 (.st [(i6 0), (i6 0), .nils, .nils]))), (1005, some (.box 31 (.st [(i6 a1), (i6 x2), (.sref 13052 1 0 s6.2.2.1.length), (.sref 13053 1 0 s6.2.1.length)]))), (13052, some (wI_3_1 s6.2.2.1)), (13053, some (wI_3_1 s6.2.1))] : OL)) (r5.1, ([] : List Int), ([] : List Int), r5.2)) hB))) ?_
  refine AWp.loopS (exchangepointmill_Deck_Series_L0 x4) (fun s6 : Int × (List Int) × (List Int) × exchangepointmill_Deck => ([(0, (.ptr 0 0 [])), (4, (.ptr 1004 0 [])), (5, (.ptr 1005 0 [])), (6, (i6 x4)), (7, (i6 s6.1))] : EL)) (fun s6 : Int × (List Int) × (List Int) × exchangepointmill_Deck => ([(0, some (.box 72 (.d (e_exchangepointmill_Deck s6.2.2.2)))), (1004, some (.box 31 (.st [(i6 0), (i6 0), .nils, .nils]))), (1005, some (.box 31 (.st [(i6 a1), (i6 x2), (.sref 13052 1 0 s6.2.2.1.length), (.sref 13053 1 0 s6.2.1.length)]))), (13052, some (wI_3_1 s6.2.2.1)), (13053, some (wI_3_1 s6.2.1))] : OL)) (fun (p27 : (exchangepointmill_Deck × (List Int) × (List Int))) e E' O' => e = .exit 0 ∧ Mat B E' O' ([(4, (.ptr 1004 0 [])), (5, (.ptr 1005 0 []))] : EL) ([(0, some (.box 72 (.d (e_exchangepointmill_Deck p27.1)))), (1004, some (.box 31 (.st [(i6 0), (i6 0), .nils, .nils]))), (1005, some (.box 31 (.st [(i6 a1), (i6 x2), (.sref 13052 1 0 p27.2.2.length), (.sref 13053 1 0 p27.2.1.length)]))), (13052, some (wI_3_1 p27.2.2)), (13053, some (wI_3_1 p27.2.1))] : OL)) hx39 (fun s6 y h => ?_) (fun e E' O' hR => ?_)
  · unfold exchangepointmill_Deck_Series_L0 at h
    show AWp _ _ _ _ ([(0, (.ptr 0 0 [])), (4, (.ptr 1004 0 [])), (5, (.ptr 1005 0 [])), (6, (i6 x4)), (7, (i6 s6.1))] : EL) ([(0, some (.box 72 (.d (e_exchangepointmill_Deck s6.2.2.2)))), (1004, some (.box 31 (.st [(i6 0), (i6 0), .nils, .nils]))), (1005, some (.box 31 (.st [(i6 a1), (i6 x2), (.sref 13052 1 0 s6.2.2.1.length), (.sref 13053 1 0 s6.2.1.length)]))), (13052, some (wI_3_1 s6.2.2.1)), (13053, some (wI_3_1 s6.2.1))] : OL)
    refine AWp.seq ?_
    refine AWp.seq ?_
    refine AWp.region (oc (mv hN (ot 7 (i6 s6.1)))
      (oc (OpJ.gtr (ltN hN rfl) (ot 24 (i6 s6.1)) (Opd.int .i64 (0)))
      (OpJs.nil))) (by rfl) (by rfl) ?_
    refine seqQ_n ?_
    refine AWp.ghost (mp [] [(0, (.ptr 0 0 [])), (4, (.ptr 1004 0 [])), (5, (.ptr 1005 0 [])), (6, (i6 x4)), (7, (i6 s6.1)), (25, (bo (decide ((0 : Int) < s6.1))))] [(0, some (.box 72 (.d (e_exchangepointmill_Deck s6.2.2.2)))), (1004, some (.box 31 (.st [(i6 0), (i6 0), .nils, .nils]))), (1005, some (.box 31 (.st [(i6 a1), (i6 x2), (.sref 13052 1 0 s6.2.2.1.length), (.sref 13053 1 0 s6.2.1.length)]))), (13052, some (wI_3_1 s6.2.2.1)), (13053, some (wI_3_1 s6.2.1))] hB) ?_
    refine AWp.cond (b := (decide ((0 : Int) < s6.1))) (by rfl) (fun hg28 => ?_) (fun hg28 => ?_)
    · replace h := ite_t hg28 h
      refine AWp.skip ?_
      refine seqQ_n ?_
      refine AWp.seq ?_
      refine AWp.block ?_
      refine AWp.seq ?_
      obtain ⟨r29, hr29, h⟩ := bindS h
      obtain ⟨r30, hr30, h⟩ := bindS h
      refine AWp.region (oc (mv hN (ot 0 (.ptr 0 0 [])))
        (oc (mv hN (ot 6 (i6 x4)))
        (oc (OpJ.callFn hB fnOk17 (exchangepointmill_Deck_Next_ac s6.2.2.2 x4 r29 hr29) [(0, 0)] (by kernel_rfl) (ltN hN rfl) (by kernel_rfl) (OpdL.cons (ot 28 (.ptr 0 0 [])) (OpdL.cons (ot 29 (i6 x4)) OpdL.nil)))
        (oc (mv hN (ot 0 (.ptr 0 0 [])))
        (oc (mv hN (ot 6 (i6 x4)))
        (oc (OpJ.callFn hB fnOk17 (exchangepointmill_Deck_Next_ac r29.2 x4 r30 hr30) [(0, 0)] (by kernel_rfl) (ltN hN rfl) (by kernel_rfl) (OpdL.cons (ot 31 (.ptr 0 0 [])) (OpdL.cons (ot 32 (i6 x4)) OpdL.nil)))
        (oc (OpJ.assign (ltN hN rfl) (ot 30 (i6 r29.1)))
        (oc (OpJ.assign (ltN hN rfl) (ot 33 (i6 r30.1)))
        (OpJs.nil))))))))) (by rfl) (by rfl) ?_
      refine seqQ_n ?_
      refine AWp.ghost (mp [] [(0, (.ptr 0 0 [])), (4, (.ptr 1004 0 [])), (5, (.ptr 1005 0 [])), (6, (i6 x4)), (7, (i6 s6.1)), (8, (i6 r29.1)), (9, (i6 r30.1))] [(0, some (.box 72 (.d (e_exchangepointmill_Deck r30.2)))), (1004, some (.box 31 (.st [(i6 0), (i6 0), .nils, .nils]))), (1005, some (.box 31 (.st [(i6 a1), (i6 x2), (.sref 13052 1 0 s6.2.2.1.length), (.sref 13053 1 0 s6.2.1.length)]))), (13052, some (wI_3_1 s6.2.2.1)), (13053, some (wI_3_1 s6.2.1))] hB) ?_
      refine AWp.seq ?_
      refine AWp.seq ?_
      obtain ⟨r31, hr31, h⟩ := bindS h
      refine AWp.region (oc (mv hN (ot 0 (.ptr 0 0 [])))
        (oc (OpJ.callFn hB fnOk17 (exchangepointmill_Deck_Next_ac r30.2 (6 : Int) r31 hr31) [(0, 0)] (by kernel_rfl) (ltN hN rfl) (by kernel_rfl) (OpdL.cons (ot 34 (.ptr 0 0 [])) (OpdL.cons (Opd.int .i64 (6)) OpdL.nil)))
        (oc (OpJ.eqlI (ltN hN rfl) (ot 35 (i6 r31.1)) (Opd.int .i64 (0)))
        (OpJs.nil)))) (by rfl) (by rfl) ?_
      refine seqQ_n ?_
      refine AWp.ghost (mp [] [(0, (.ptr 0 0 [])), (4, (.ptr 1004 0 [])), (5, (.ptr 1005 0 [])), (6, (i6 x4)), (7, (i6 s6.1)), (8, (i6 r29.1)), (9, (i6 r30.1)), (36, (bo (r31.1 == (0 : Int))))] [(0, some (.box 72 (.d (e_exchangepointmill_Deck r31.2)))), (1004, some (.box 31 (.st [(i6 0), (i6 0), .nils, .nils]))), (1005, some (.box 31 (.st [(i6 a1), (i6 x2), (.sref 13052 1 0 s6.2.2.1.length), (.sref 13053 1 0 s6.2.1.length)]))), (13052, some (wI_3_1 s6.2.2.1)), (13053, some (wI_3_1 s6.2.1))] hB) ?_
      refine AWp.cut h (fun m33 : Int × Int => ([(0, (.ptr 0 0 [])), (4, (.ptr 1004 0 [])), (5, (.ptr 1005 0 [])), (6, (i6 x4)), (7, (i6 s6.1)), (8, (i6 m33.1)), (9, (i6 m33.2))] : EL)) (fun m33 : Int × Int => ([(0, some (.box 72 (.d (e_exchangepointmill_Deck r31.2)))), (1004, some (.box 31 (.st [(i6 0), (i6 0), .nils, .nils]))), (1005, some (.box 31 (.st [(i6 a1), (i6 x2), (.sref 13052 1 0 s6.2.2.1.length), (.sref 13053 1 0 s6.2.1.length)]))), (13052, some (wI_3_1 s6.2.2.1)), (13053, some (wI_3_1 s6.2.1))] : OL)) (fun m33 h E' O' hmat => ?_) (fun j34 hjj34 h => ?_)
      · refine seqQ_n ?_
        refine AWp.ghost hmat ?_
        obtain ⟨hc35, h⟩ := chk_some h
        obtain ⟨hc36, h⟩ := chk_some h
        refine AWp.draws (by kernel_rfl) (oc (ov (.ptr 1005 2 [2]) (fp hN Try.underlying31 2 tyS28 (.box 31 (.st [(i6 a1), (i6 x2), (.sref 13052 1 0 s6.2.2.1.length), (.sref 13053 1 0 s6.2.1.length)])) (ot 5 (.ptr 1005 0 []))))
          (oc (lb hN 31 (.st [(i6 a1), (i6 x2), (.sref 13052 1 0 s6.2.2.1.length), (.sref 13053 1 0 s6.2.1.length)]) (.sref 13052 1 0 s6.2.2.1.length) tyS28 (At.st1 (f := (.sref 13052 1 0 s6.2.2.1.length)) (by rfl) (by rfl) (At.here _) (by first | rfl | omega)) (ot 37 (.ptr 1005 2 [2])))
          (oc (mv hN (ot 8 (i6 m33.1)))
          (oc (OpJ.buildSlice Try.underlying28 tyS3 tyZD3 (by rfl) (by decide) (by decide) (Opds.cons (ot 39 (i6 m33.1)) Opds.nil) (by kernel_rfl) (es := ([(.int .i64 m33.1)] : List D)) (by rfl) (by rfl) (by kernel_rfl) (by simp) (ltN hN rfl))
          (oc (OpJ.append hB Try.underlying28 tyE3 (nm := 1041) (by decide) (es := s6.2.2.1.map (eI .i64)) (ys := ([m33.1] : List Int).map (eI .i64)) (es' := (s6.2.2.1 ++ ([m33.1] : List Int)).map (eI .i64)) (len := (s6.2.2.1 ++ ([m33.1] : List Int)).length) (by simp) (by simp) (map_sz (f := (eI .i64)) (fun _ => rfl)) (by rw [List.length_map]; exact lim_mulN hc35 (by decide)) (by rw [List.length_map]; exact lim_leN hc35) (ltN hN rfl) (by simp) (ot 38 (.sref 13052 1 0 s6.2.2.1.length)) (ot 40 (qI_1 ([m33.1] : List Int))))
          (oc (ov (.ptr 1005 3 [3]) (fp hN Try.underlying31 3 tyS28 (.box 31 (.st [(i6 a1), (i6 x2), (.sref 13052 1 0 s6.2.2.1.length), (.sref 13053 1 0 s6.2.1.length)])) (ot 5 (.ptr 1005 0 []))))
          (oc (lb hN 31 (.st [(i6 a1), (i6 x2), (.sref 13052 1 0 s6.2.2.1.length), (.sref 13053 1 0 s6.2.1.length)]) (.sref 13053 1 0 s6.2.1.length) tyS28 (At.st1 (f := (.sref 13053 1 0 s6.2.1.length)) (by rfl) (by rfl) (At.here _) (by first | rfl | omega)) (ot 42 (.ptr 1005 3 [3])))
          (oc (mv hN (ot 9 (i6 m33.2)))
          (oc (OpJ.buildSlice Try.underlying28 tyS3 tyZD3 (by rfl) (by decide) (by decide) (Opds.cons (ot 44 (i6 m33.2)) Opds.nil) (by kernel_rfl) (es := ([(.int .i64 m33.2)] : List D)) (by rfl) (by rfl) (by kernel_rfl) (by simp) (ltN hN rfl))
          (oc (OpJ.append hB Try.underlying28 tyE3 (nm := 1046) (by decide) (es := s6.2.1.map (eI .i64)) (ys := ([m33.2] : List Int).map (eI .i64)) (es' := (s6.2.1 ++ ([m33.2] : List Int)).map (eI .i64)) (len := (s6.2.1 ++ ([m33.2] : List Int)).length) (by simp) (by simp) (map_sz (f := (eI .i64)) (fun _ => rfl)) (by rw [List.length_map]; exact lim_mulN hc36 (by decide)) (by rw [List.length_map]; exact lim_leN hc36) (ltN hN rfl) (by simp) (ot 43 (.sref 13053 1 0 s6.2.1.length)) (ot 45 (qI_1 ([m33.2] : List Int))))
          (oc (ov (.ptr 1005 2 [2]) (fp hN Try.underlying31 2 tyS28 (.box 31 (.st [(i6 a1), (i6 x2), (.sref 13052 1 0 s6.2.2.1.length), (.sref 13053 1 0 s6.2.1.length)])) (ot 5 (.ptr 1005 0 []))))
          (oc (OpJ.storeB (bt := 31) (c := (.st [(i6 a1), (i6 x2), (.sref 13052 1 0 s6.2.2.1.length), (.sref 13053 1 0 s6.2.1.length)])) (v := (.sref 1041 1 0 ((s6.2.2.1 ++ ([m33.1] : List Int)).length))) (c' := (.st [(i6 a1), (i6 x2), (.sref 1041 1 0 ((s6.2.2.1 ++ ([m33.1] : List Int)).length)), (.sref 13053 1 0 s6.2.1.length)])) tyS28 (SetAt.st1 (f := (.sref 13052 1 0 s6.2.2.1.length)) (by rfl) (by rfl) (SetAt.here _ _) (by rfl) (by rfl) (by first | rfl | omega)) (by rfl) (by rfl) (by simp) rfl (ot 47 (.ptr 1005 2 [2])) (ot 41 (.sref 1041 1 0 ((s6.2.2.1 ++ ([m33.1] : List Int)).length))))
          (oc (ov (.ptr 1005 3 [3]) (fp hN Try.underlying31 3 tyS28 (.box 31 (.st [(i6 a1), (i6 x2), (.sref 1041 1 0 ((s6.2.2.1 ++ ([m33.1] : List Int)).length)), (.sref 13053 1 0 s6.2.1.length)])) (ot 5 (.ptr 1005 0 []))))
          (oc (OpJ.storeB (bt := 31) (c := (.st [(i6 a1), (i6 x2), (.sref 1041 1 0 ((s6.2.2.1 ++ ([m33.1] : List Int)).length)), (.sref 13053 1 0 s6.2.1.length)])) (v := (.sref 1046 1 0 ((s6.2.1 ++ ([m33.2] : List Int)).length))) (c' := (.st [(i6 a1), (i6 x2), (.sref 1041 1 0 ((s6.2.2.1 ++ ([m33.1] : List Int)).length)), (.sref 1046 1 0 ((s6.2.1 ++ ([m33.2] : List Int)).length))])) tyS28 (SetAt.st1 (f := (.sref 13053 1 0 s6.2.1.length)) (by rfl) (by rfl) (SetAt.here _ _) (by rfl) (by rfl) (by first | rfl | omega)) (by rfl) (by rfl) (by simp) rfl (ot 48 (.ptr 1005 3 [3])) (ot 46 (.sref 1046 1 0 ((s6.2.1 ++ ([m33.2] : List Int)).length))))
          (OpJs.nil))))))))))))))) (by kernel_rfl) (by rfl) (by rfl) ?_
        refine blkQ_n ?_
        refine seqQ_n ?_
        refine AWp.ghost (mp [] [(0, (.ptr 0 0 [])), (4, (.ptr 1004 0 [])), (5, (.ptr 1005 0 [])), (6, (i6 x4)), (7, (i6 s6.1))] [(0, some (.box 72 (.d (e_exchangepointmill_Deck r31.2)))), (1004, some (.box 31 (.st [(i6 0), (i6 0), .nils, .nils]))), (1005, some (.box 31 (.st [(i6 a1), (i6 x2), (.sref 1041 1 0 ((s6.2.2.1 ++ ([m33.1] : List Int)).length)), (.sref 1046 1 0 ((s6.2.1 ++ ([m33.2] : List Int)).length))]))), (1041, some (wI_3_1 (s6.2.2.1 ++ ([m33.1] : List Int)))), (1046, some (wI_3_1 (s6.2.1 ++ ([m33.2] : List Int))))] hB) ?_
        refine AWp.region (oc (mv hN (ot 7 (i6 s6.1)))
          (oc (OpJ.sub (ltN hN rfl) (ot 26 (i6 s6.1)) (Opd.int .i64 (1)))
          (oc (OpJ.assign (ltN hN rfl) (ot 27 (i6 (w64 (s6.1 - (1 : Int))))))
          (OpJs.nil)))) (by rfl) (by rfl) ?_
        obtain rfl := Option.some.inj h
        exact ⟨rfl, (Mat.trans (mp [] [(0, (.ptr 0 0 [])), (4, (.ptr 1004 0 [])), (5, (.ptr 1005 0 [])), (6, (i6 x4)), (7, (i6 (w64 (s6.1 - (1 : Int)))))] [(0, some (.box 72 (.d (e_exchangepointmill_Deck r31.2)))), (1004, some (.box 31 (.st [(i6 0), (i6 0), .nils, .nils]))), (1005, some (.box 31 (.st [(i6 a1), (i6 x2), (.sref 1041 1 0 ((s6.2.2.1 ++ ([m33.1] : List Int)).length)), (.sref 1046 1 0 ((s6.2.1 ++ ([m33.2] : List Int)).length))]))), (1041, some (wI_3_1 (s6.2.2.1 ++ ([m33.1] : List Int)))), (1046, some (wI_3_1 (s6.2.1 ++ ([m33.2] : List Int))))] hB) (mp [(13052, 1041), (13053, 1046)] ((fun s6 : Int × (List Int) × (List Int) × exchangepointmill_Deck => ([(0, (.ptr 0 0 [])), (4, (.ptr 1004 0 [])), (5, (.ptr 1005 0 [])), (6, (i6 x4)), (7, (i6 s6.1))] : EL)) ((w64 (s6.1 - (1 : Int))), (s6.2.1 ++ ([m33.2] : List Int)), (s6.2.2.1 ++ ([m33.1] : List Int)), r31.2)) ((fun s6 : Int × (List Int) × (List Int) × exchangepointmill_Deck => ([(0, some (.box 72 (.d (e_exchangepointmill_Deck s6.2.2.2)))), (1004, some (.box 31 (.st [(i6 0), (i6 0), .nils, .nils]))), (1005, some (.box 31 (.st [(i6 a1), (i6 x2), (.sref 13052 1 0 s6.2.2.1.length), (.sref 13053 1 0 s6.2.1.length)]))), (13052, some (wI_3_1 s6.2.2.1)), (13053, some (wI_3_1 s6.2.1))] : OL)) ((w64 (s6.1 - (1 : Int))), (s6.2.1 ++ ([m33.2] : List Int)), (s6.2.2.1 ++ ([m33.1] : List Int)), r31.2)) hB))⟩
      · refine AWp.cond (b := (r31.1 == (0 : Int))) (by rfl) (fun hg37 => ?_) (fun hg37 => ?_)
        · replace h := ite_t hg37 h
          refine AWp.region (oc (OpJ.assign (ltN hN rfl) (Opd.int .i64 (-1)))
            (oc (OpJ.assign (ltN hN rfl) (Opd.int .i64 (-1)))
            (OpJs.nil))) (by rfl) (by rfl) ?_
          exact hjj34 _ h _ _ (Mat.trans (mp [] [(0, (.ptr 0 0 [])), (4, (.ptr 1004 0 [])), (5, (.ptr 1005 0 [])), (6, (i6 x4)), (7, (i6 s6.1)), (8, (i6 (-1 : Int))), (9, (i6 (-1 : Int)))] [(0, some (.box 72 (.d (e_exchangepointmill_Deck r31.2)))), (1004, some (.box 31 (.st [(i6 0), (i6 0), .nils, .nils]))), (1005, some (.box 31 (.st [(i6 a1), (i6 x2), (.sref 13052 1 0 s6.2.2.1.length), (.sref 13053 1 0 s6.2.1.length)]))), (13052, some (wI_3_1 s6.2.2.1)), (13053, some (wI_3_1 s6.2.1))] hB) (mp [] ((fun m33 : Int × Int => ([(0, (.ptr 0 0 [])), (4, (.ptr 1004 0 [])), (5, (.ptr 1005 0 [])), (6, (i6 x4)), (7, (i6 s6.1)), (8, (i6 m33.1)), (9, (i6 m33.2))] : EL)) ((-1 : Int), (-1 : Int))) ((fun m33 : Int × Int => ([(0, some (.box 72 (.d (e_exchangepointmill_Deck r31.2)))), (1004, some (.box 31 (.st [(i6 0), (i6 0), .nils, .nils]))), (1005, some (.box 31 (.st [(i6 a1), (i6 x2), (.sref 13052 1 0 s6.2.2.1.length), (.sref 13053 1 0 s6.2.1.length)]))), (13052, some (wI_3_1 s6.2.2.1)), (13053, some (wI_3_1 s6.2.1))] : OL)) ((-1 : Int), (-1 : Int))) hB))
        · replace h := ite_f hg37 h
          refine AWp.skip ?_
          exact hjj34 _ h _ _ (mp [] ((fun m33 : Int × Int => ([(0, (.ptr 0 0 [])), (4, (.ptr 1004 0 [])), (5, (.ptr 1005 0 [])), (6, (i6 x4)), (7, (i6 s6.1)), (8, (i6 m33.1)), (9, (i6 m33.2))] : EL)) (r29.1, r30.1)) ((fun m33 : Int × Int => ([(0, some (.box 72 (.d (e_exchangepointmill_Deck r31.2)))), (1004, some (.box 31 (.st [(i6 0), (i6 0), .nils, .nils]))), (1005, some (.box 31 (.st [(i6 a1), (i6 x2), (.sref 13052 1 0 s6.2.2.1.length), (.sref 13053 1 0 s6.2.1.length)]))), (13052, some (wI_3_1 s6.2.2.1)), (13053, some (wI_3_1 s6.2.1))] : OL)) (r29.1, r30.1)) hB)
    · replace h := ite_f hg28 h
      refine AWp.exit ?_
      refine seqQ_e ?_
      obtain rfl := Option.some.inj h
      exact ⟨(fun hc => by cases hc), rfl, (mp [] ((fun p27 : exchangepointmill_Deck × (List Int) × (List Int) => ([(4, (.ptr 1004 0 [])), (5, (.ptr 1005 0 []))] : EL)) (s6.2.2.2, s6.2.1, s6.2.2.1)) ((fun p27 : exchangepointmill_Deck × (List Int) × (List Int) => ([(0, some (.box 72 (.d (e_exchangepointmill_Deck p27.1)))), (1004, some (.box 31 (.st [(i6 0), (i6 0), .nils, .nils]))), (1005, some (.box 31 (.st [(i6 a1), (i6 x2), (.sref 13052 1 0 p27.2.2.length), (.sref 13053 1 0 p27.2.1.length)]))), (13052, some (wI_3_1 p27.2.2)), (13053, some (wI_3_1 p27.2.1))] : OL)) (s6.2.2.2, s6.2.1, s6.2.2.1)) hB)⟩
  · obtain ⟨rfl, hmat⟩ := hR
    refine blkQ_hit ?_
    refine seqQ_n ?_
    refine AWp.ghost hmat ?_
    refine AWp.seq ?_
    refine AWp.region (oc (lb hN 31 (.st [(i6 a1), (i6 x2), (.sref 13052 1 0 p27.2.2.length), (.sref 13053 1 0 p27.2.1.length)]) (.st [(i6 a1), (i6 x2), (.sref 13052 1 0 p27.2.2.length), (.sref 13053 1 0 p27.2.1.length)]) tyS31 (At.here _) (ot 5 (.ptr 1005 0 [])))
      (oc (OpJ.storeB (bt := 31) (c := (.st [(i6 0), (i6 0), .nils, .nils])) (v := (.st [(i6 a1), (i6 x2), (.sref 13052 1 0 p27.2.2.length), (.sref 13053 1 0 p27.2.1.length)])) (c' := (.st [(i6 a1), (i6 x2), (.sref 13052 1 0 p27.2.2.length), (.sref 13053 1 0 p27.2.1.length)])) tyS31 (SetAt.here _ _) (by rfl) (by rfl) (by simp) rfl (ot 4 (.ptr 1004 0 [])) (ot 49 (.st [(i6 a1), (i6 x2), (.sref 13052 1 0 p27.2.2.length), (.sref 13053 1 0 p27.2.1.length)])))
      (OpJs.nil))) (by rfl) (by rfl) ?_
    refine seqQ_n ?_
    refine AWp.ghost (mp [] [(4, (.ptr 1004 0 []))] [(0, some (.box 72 (.d (e_exchangepointmill_Deck p27.1)))), (1004, some (.box 31 (.st [(i6 a1), (i6 x2), (.sref 13052 1 0 p27.2.2.length), (.sref 13053 1 0 p27.2.1.length)]))), (13052, some (wI_3_1 p27.2.2)), (13053, some (wI_3_1 p27.2.1))] hB) ?_
    refine AWp.ret ?_
    obtain rfl := Option.some.inj h
    exact ⟨.inl rfl, _, _, (Mat.trans (Mat.freezeP (n := 13052) (e := 3) (sz := 1) (es := p27.2.2.map (eI .i64)) (Ts := []) (Bs := [(1004, some (.box 31 (.st [(i6 a1), (i6 x2), (qI_1 p27.2.2), (.sref 13053 1 0 p27.2.1.length)])))]) (by rfl) TwT.nil (TwB.cons (x := (.st [(i6 a1), (i6 x2), (.sref 13052 1 0 p27.2.2.length), (.sref 13053 1 0 p27.2.1.length)])) (by rfl) (Tw.st (TwL.cons (Tw.same _) (TwL.cons (Tw.same _) (TwL.cons (FrzL.all (by first | rfl | (simp; done) | (simp; omega))) (TwL.cons (Tw.same _) TwL.nil))))) TwB.nil)) (Mat.trans (Mat.freezeP (n := 13053) (e := 3) (sz := 1) (es := p27.2.1.map (eI .i64)) (Ts := []) (Bs := [(1004, some (.box 31 (.st [(i6 a1), (i6 x2), (qI_1 p27.2.2), (qI_1 p27.2.1)])))]) (by rfl) TwT.nil (TwB.cons (x := (.st [(i6 a1), (i6 x2), (qI_1 p27.2.2), (.sref 13053 1 0 p27.2.1.length)])) (by rfl) (Tw.st (TwL.cons (Tw.same _) (TwL.cons (Tw.same _) (TwL.cons (Tw.same _) (TwL.cons (FrzL.all (by first | rfl | (simp; done) | (simp; omega))) TwL.nil))))) TwB.nil)) (Mat.trans (Mat.coeP (Ts := []) (Bs := [(1004, some (.box 31 (.d (.st [(.int .i64 a1), (.int .i64 x2), (.list 1 (p27.2.2.map (eI .i64))), (.list 1 (p27.2.1.map (eI .i64)))]))))]) TwT.nil (TwB.cons (x := (.st [(i6 a1), (i6 x2), (qI_1 p27.2.2), (qI_1 p27.2.1)])) (by rfl) (Tw.leaf ⟨_, (Co.st (CoL.cons (Co.d _) (CoL.cons (Co.d _) (CoL.cons (Co.d _) (CoL.cons (Co.d _) CoL.nil))))), rfl⟩) TwB.nil)) (mp [] [(4, (.ptr 1004 0 []))] [(0, some (.box 72 (.d (e_exchangepointmill_Deck p27.1)))), (1004, some (.box 31 (.d (.st [(.int .i64 a1), (.int .i64 x2), (.list 1 (p27.2.2.map (eI .i64))), (.list 1 (p27.2.1.map (eI .i64)))]))))] hB)))), [(.d (.st [(.int .i64 a1), (.int .i64 x2), (.list 1 (p27.2.2.map (eI .i64))), (.list 1 (p27.2.1.map (eI .i64)))]))], (Res.cell (c := (.d (.st [(.int .i64 a1), (.int .i64 x2), (.list 1 (p27.2.2.map (eI .i64))), (.list 1 (p27.2.1.map (eI .i64)))]))) (by rfl) (by rfl) tyS31 (by rfl) (by rfl) (by rfl) Res.nil), rfl, by rfl, by rfl, by rfl⟩

noncomputable def exchangepointlaw41_bills_L1 (s92 : api_Series × exchangepointmill_Deck) : Option (((api_Series × exchangepointmill_Deck)) ⊕ (api_Series × exchangepointmill_Deck)) :=
  jn (fun m118 : Bool =>
  (if m118 = true then
  (exchangepointmill_Deck_Next s92.2 (17179869184 : Int)).bind fun r121 =>
  chk (decide ((([r121.1] : List Int) ++ s92.1.fIn).length ≤ LIM)) <|
  (exchangepointmill_Deck_Next r121.2 (17179869184 : Int)).bind fun r123 =>
  chk (decide ((([r123.1] : List Int) ++ s92.1.fOut).length ≤ LIM)) <|
  some (.inr ((api_Series.mk s92.1.fPort s92.1.fSeconds (([r121.1] : List Int) ++ s92.1.fIn) (([r123.1] : List Int) ++ s92.1.fOut)), r123.2))
  else
  some (.inl (s92.1, s92.2)))) (fun j119 =>
  (if (decide ((s92.1.fIn.length : Int) < (2 : Int))) = true then
  j119 true
  else
  (idx s92.1.fIn (0 : Int)).bind fun x126 =>
  j119 (decide (x126 < (0 : Int)))))
noncomputable def exchangepointlaw41_bills_L0 (r1 : api_Member × exchangepointmill_Deck) (s3 : Int × (List api_Series) × exchangepointmill_Deck) : Option (((exchangepointmill_Deck × (List api_Series))) ⊕ (Int × (List api_Series) × exchangepointmill_Deck)) :=
  (if (decide (s3.1 < (r1.1.fPorts.length : Int))) = true then
  (idx r1.1.fPorts s3.1).bind fun x90 =>
  (exchangepointmill_Deck_Series s3.2.2 x90.fID).bind fun r91 =>
  (loop (exchangepointlaw41_bills_L1) (r91.1, r91.2)).bind fun p115 =>
  chk (decide ((s3.2.1 ++ ([p115.1] : List api_Series)).length ≤ LIM)) <|
  some (.inr ((w64 (s3.1 + (1 : Int))), (s3.2.1 ++ ([p115.1] : List api_Series)), p115.2))
  else
  some (.inl (s3.2.2, s3.2.1)))
noncomputable def exchangepointlaw41_bills (a0 : exchangepointmill_Deck) : Option (api_Member × api_Tariff × (List api_Series) × exchangepointmill_Deck) :=
  (exchangepointmill_Deck_Member a0 (101 : Int)).bind fun r1 =>
  (exchangepointmill_Deck_Tariff r1.2).bind fun r2 =>
  (loop (exchangepointlaw41_bills_L0 r1) ((0 : Int), ([] : List api_Series), r2.2)).bind fun p88 =>
  some (r1.1, r2.1, p88.2, p88.1)
set_option maxHeartbeats 4000000 in
set_option maxRecDepth 100000 in
theorem exchangepointlaw41_bills_ac (a0 : exchangepointmill_Deck) (r : api_Member × api_Tariff × (List api_Series) × exchangepointmill_Deck) (h : exchangepointlaw41_bills a0 = some r) : AC Try.prog 8 [(.ptr 0 0 [])] [(0, (.box 72 (.d (e_exchangepointmill_Deck a0))))] (.tup [(.d (e_api_Member r.1)), (.d (e_api_Tariff r.2.1)), (.d (.list 4 (r.2.2.1.map e_api_Series)))]) [(0, some (.box 72 (.d (e_exchangepointmill_Deck r.2.2.2))))] := by
  refine AC.of_code2 Try.func8 rfl rfl (Nat.le_of_ble_eq_true (by rfl)) fun B hB hN => ?_
  delta exchangepointlaw41_bills at h
  refine AWp.seq ?_
  refine AWp.region (oc (OpJ.alloc hB tyZ24 (nm := 1002) (by decide) (ltN hN rfl))
  (oc (OpJ.alloc hB tyZ27 (nm := 1003) (by decide) (ltN hN rfl))
  (oc (OpJ.assign (ltN hN rfl) Opd.nils)
  (OpJs.nil)))) (by rfl) (by rfl) ?_
  refine seqQ_n ?_
  refine AWp.ghost (mp [] [(0, (.ptr 0 0 [])), (2, (.ptr 1002 0 [])), (3, (.ptr 1003 0 []))] [(0, some (.box 72 (.d (e_exchangepointmill_Deck a0)))), (1002, some (.box 24 (.st [(i6 0), (.d (.str ([] : List UInt8))), (.d (.str ([] : List UInt8))), (i6 0), (i6 0), .nils]))), (1003, some (.box 27 (.d (.st [(.int .i64 0), (.int .i64 0), (.int .i64 0)]))))] hB) ?_
  refine AWp.seq ?_
  obtain ⟨r1, hr1, h⟩ := bindS h
  obtain ⟨r2, hr2, h⟩ := bindS h
  refine AWp.region (oc (mv hN (ot 0 (.ptr 0 0 [])))
  (oc (OpJ.callFn hB fnOk22 (exchangepointmill_Deck_Member_ac a0 (101 : Int) r1 hr1) [(0, 0)] (by kernel_rfl) (ltN hN rfl) (by kernel_rfl) (OpdL.cons (ot 11 (.ptr 0 0 [])) (OpdL.cons (Opd.int .i64 (101)) OpdL.nil)))
  (oc (mv hN (ot 0 (.ptr 0 0 [])))
  (oc (OpJ.callFn hB fnOk24 (exchangepointmill_Deck_Tariff_ac r1.2 r2 hr2) [(0, 0)] (by kernel_rfl) (ltN hN rfl) (by kernel_rfl) (OpdL.cons (ot 13 (.ptr 0 0 [])) OpdL.nil))
  (oc (OpJ.alloc hB tyZ24 (nm := 1005) (by decide) (ltN hN rfl))
  (oc (OpJ.alloc hB tyZ27 (nm := 1006) (by decide) (ltN hN rfl))
  (oc (OpJ.storeB (bt := 24) (c := (.st [(i6 0), (.d (.str ([] : List UInt8))), (.d (.str ([] : List UInt8))), (i6 0), (i6 0), .nils])) (v := (.d (e_api_Member r1.1))) (c' := (.d (e_api_Member r1.1))) tyS24 (SetAt.here _ _) (by rfl) (by rfl) (by simp) rfl (ot 5 (.ptr 1005 0 [])) (ot 12 (.d (e_api_Member r1.1))))
  (oc (OpJ.storeB (bt := 27) (c := (.d (.st [(.int .i64 0), (.int .i64 0), (.int .i64 0)]))) (v := (.d (e_api_Tariff r2.1))) (c' := (.d (e_api_Tariff r2.1))) tyS27 (SetAt.here _ _) (by rfl) (by rfl) (by simp) rfl (ot 6 (.ptr 1006 0 [])) (ot 14 (.d (e_api_Tariff r2.1))))
  (OpJs.nil))))))))) (by rfl) (by rfl) ?_
  refine seqQ_n ?_
  refine AWp.ghost (mp [] [(0, (.ptr 0 0 [])), (2, (.ptr 1002 0 [])), (3, (.ptr 1003 0 [])), (5, (.ptr 1005 0 [])), (6, (.ptr 1006 0 []))] [(0, some (.box 72 (.d (e_exchangepointmill_Deck r2.2)))), (1002, some (.box 24 (.st [(i6 0), (.d (.str ([] : List UInt8))), (.d (.str ([] : List UInt8))), (i6 0), (i6 0), .nils]))), (1003, some (.box 27 (.d (.st [(.int .i64 0), (.int .i64 0), (.int .i64 0)])))), (1005, some (.box 24 (.d (e_api_Member r1.1)))), (1006, some (.box 27 (.d (e_api_Tariff r2.1))))] hB) ?_
  refine AWp.seq ?_
  refine AWp.region (oc (OpJ.assign (ltN hN rfl) Opd.nils)
  (OpJs.nil)) (by rfl) (by rfl) ?_
  refine seqQ_n ?_
  refine AWp.ghost (mp [] [(0, (.ptr 0 0 [])), (2, (.ptr 1002 0 [])), (3, (.ptr 1003 0 [])), (5, (.ptr 1005 0 [])), (6, (.ptr 1006 0 [])), (7, .nils)] [(0, some (.box 72 (.d (e_exchangepointmill_Deck r2.2)))), (1002, some (.box 24 (.st [(i6 0), (.d (.str ([] : List UInt8))), (.d (.str ([] : List UInt8))), (i6 0), (i6 0), .nils]))), (1003, some (.box 27 (.d (.st [(.int .i64 0), (.int .i64 0), (.int .i64 0)])))), (1005, some (.box 24 (.d (e_api_Member r1.1)))), (1006, some (.box 27 (.d (e_api_Tariff r2.1))))] hB) ?_
  refine AWp.seq ?_
  refine AWp.seq ?_
  refine AWp.region (oc (ov (.ptr 1005 5 [5]) (fp hN Try.underlying24 5 tyS22 (.box 24 (.d (e_api_Member r1.1))) (ot 5 (.ptr 1005 0 []))))
  (oc (lb hN 24 (.d (e_api_Member r1.1)) (qe_api_Port_10 r1.1.fPorts) tyS22 (ad (.list 10 (r1.1.fPorts.map e_api_Port))) (ot 15 (.ptr 1005 5 [5])))
  (oc (OpJ.val (v' := (i6 (r1.1.fPorts.length : Int))) (by simp) (OpJ.lenD Try.underlying22 (ltN hN rfl) (ot 16 (qe_api_Port_10 r1.1.fPorts))))
  (oc (mv hN (Opd.int .i64 (0)))
  (OpJs.nil))))) (by rfl) (by rfl) ?_
  refine seqQ_n ?_
  refine AWp.ghost (mp [] [(0, (.ptr 0 0 [])), (2, (.ptr 1002 0 [])), (3, (.ptr 1003 0 [])), (5, (.ptr 1005 0 [])), (6, (.ptr 1006 0 [])), (7, .nils), (16, (qe_api_Port_10 r1.1.fPorts)), (17, (i6 (r1.1.fPorts.length : Int))), (18, (i6 0))] [(0, some (.box 72 (.d (e_exchangepointmill_Deck r2.2)))), (1002, some (.box 24 (.st [(i6 0), (.d (.str ([] : List UInt8))), (.d (.str ([] : List UInt8))), (i6 0), (i6 0), .nils]))), (1003, some (.box 27 (.d (.st [(.int .i64 0), (.int .i64 0), (.int .i64 0)])))), (1005, some (.box 24 (.d (e_api_Member r1.1)))), (1006, some (.box 27 (.d (e_api_Tariff r2.1))))] hB) ?_
  refine AWp.block ?_
  obtain ⟨p88, hx131, h⟩ := bindS h
  refine AWp.ghost (Mat.trans (Mat.beginP (n := 3007) (e := 31) (sz := 4) (Ts := [(7, (.sref 3007 4 0 0))]) (Bs := []) hB (by decide) (by rfl) (by decide) (TwT.cons (x := .nils) (by rfl) (Tw.leaf ⟨rfl, rfl⟩) TwT.nil) TwB.nil) (mp [] ((fun s3 : Int × (List api_Series) × exchangepointmill_Deck => ([(0, (.ptr 0 0 [])), (2, (.ptr 1002 0 [])), (3, (.ptr 1003 0 [])), (5, (.ptr 1005 0 [])), (6, (.ptr 1006 0 [])), (7, (.sref 3007 4 0 s3.2.1.length)), (16, (qe_api_Port_10 r1.1.fPorts)), (17, (i6 (r1.1.fPorts.length : Int))), (18, (i6 s3.1))] : EL)) ((0 : Int), ([] : List api_Series), r2.2)) ((fun s3 : Int × (List api_Series) × exchangepointmill_Deck => ([(0, some (.box 72 (.d (e_exchangepointmill_Deck s3.2.2)))), (1002, some (.box 24 (.st [(i6 0), (.d (.str ([] : List UInt8))), (.d (.str ([] : List UInt8))), (i6 0), (i6 0), .nils]))), (1003, some (.box 27 (.d (.st [(.int .i64 0), (.int .i64 0), (.int .i64 0)])))), (1005, some (.box 24 (.d (e_api_Member r1.1)))), (1006, some (.box 27 (.d (e_api_Tariff r2.1)))), (3007, some (we_api_Series_31_4 s3.2.1))] : OL)) ((0 : Int), ([] : List api_Series), r2.2)) hB)) ?_
  refine AWp.loopS (exchangepointlaw41_bills_L0 r1) (fun s3 : Int × (List api_Series) × exchangepointmill_Deck => ([(0, (.ptr 0 0 [])), (2, (.ptr 1002 0 [])), (3, (.ptr 1003 0 [])), (5, (.ptr 1005 0 [])), (6, (.ptr 1006 0 [])), (7, (.sref 3007 4 0 s3.2.1.length)), (16, (qe_api_Port_10 r1.1.fPorts)), (17, (i6 (r1.1.fPorts.length : Int))), (18, (i6 s3.1))] : EL)) (fun s3 : Int × (List api_Series) × exchangepointmill_Deck => ([(0, some (.box 72 (.d (e_exchangepointmill_Deck s3.2.2)))), (1002, some (.box 24 (.st [(i6 0), (.d (.str ([] : List UInt8))), (.d (.str ([] : List UInt8))), (i6 0), (i6 0), .nils]))), (1003, some (.box 27 (.d (.st [(.int .i64 0), (.int .i64 0), (.int .i64 0)])))), (1005, some (.box 24 (.d (e_api_Member r1.1)))), (1006, some (.box 27 (.d (e_api_Tariff r2.1)))), (3007, some (we_api_Series_31_4 s3.2.1))] : OL)) (fun (p88 : (exchangepointmill_Deck × (List api_Series))) e E' O' => e = .exit 0 ∧ Mat B E' O' ([(2, (.ptr 1002 0 [])), (3, (.ptr 1003 0 [])), (5, (.ptr 1005 0 [])), (6, (.ptr 1006 0 [])), (7, (.sref 3007 4 0 p88.2.length))] : EL) ([(0, some (.box 72 (.d (e_exchangepointmill_Deck p88.1)))), (1002, some (.box 24 (.st [(i6 0), (.d (.str ([] : List UInt8))), (.d (.str ([] : List UInt8))), (i6 0), (i6 0), .nils]))), (1003, some (.box 27 (.d (.st [(.int .i64 0), (.int .i64 0), (.int .i64 0)])))), (1005, some (.box 24 (.d (e_api_Member r1.1)))), (1006, some (.box 27 (.d (e_api_Tariff r2.1)))), (3007, some (we_api_Series_31_4 p88.2))] : OL)) hx131 (fun s3 y h => ?_) (fun e E' O' hR => ?_)
  · unfold exchangepointlaw41_bills_L0 at h
    show AWp _ _ _ _ ([(0, (.ptr 0 0 [])), (2, (.ptr 1002 0 [])), (3, (.ptr 1003 0 [])), (5, (.ptr 1005 0 [])), (6, (.ptr 1006 0 [])), (7, (.sref 3007 4 0 s3.2.1.length)), (16, (qe_api_Port_10 r1.1.fPorts)), (17, (i6 (r1.1.fPorts.length : Int))), (18, (i6 s3.1))] : EL) ([(0, some (.box 72 (.d (e_exchangepointmill_Deck s3.2.2)))), (1002, some (.box 24 (.st [(i6 0), (.d (.str ([] : List UInt8))), (.d (.str ([] : List UInt8))), (i6 0), (i6 0), .nils]))), (1003, some (.box 27 (.d (.st [(.int .i64 0), (.int .i64 0), (.int .i64 0)])))), (1005, some (.box 24 (.d (e_api_Member r1.1)))), (1006, some (.box 27 (.d (e_api_Tariff r2.1)))), (3007, some (we_api_Series_31_4 s3.2.1))] : OL)
    refine AWp.seq ?_
    refine AWp.region (oc (OpJ.lss (ltN hN rfl) (ot 18 (i6 s3.1)) (ot 17 (i6 (r1.1.fPorts.length : Int))))
      (OpJs.nil)) (by rfl) (by rfl) ?_
    refine seqQ_n ?_
    refine AWp.ghost (mp [] [(0, (.ptr 0 0 [])), (2, (.ptr 1002 0 [])), (3, (.ptr 1003 0 [])), (5, (.ptr 1005 0 [])), (6, (.ptr 1006 0 [])), (7, (.sref 3007 4 0 s3.2.1.length)), (16, (qe_api_Port_10 r1.1.fPorts)), (17, (i6 (r1.1.fPorts.length : Int))), (18, (i6 s3.1)), (19, (bo (decide (s3.1 < (r1.1.fPorts.length : Int)))))] [(0, some (.box 72 (.d (e_exchangepointmill_Deck s3.2.2)))), (1002, some (.box 24 (.st [(i6 0), (.d (.str ([] : List UInt8))), (.d (.str ([] : List UInt8))), (i6 0), (i6 0), .nils]))), (1003, some (.box 27 (.d (.st [(.int .i64 0), (.int .i64 0), (.int .i64 0)])))), (1005, some (.box 24 (.d (e_api_Member r1.1)))), (1006, some (.box 27 (.d (e_api_Tariff r2.1)))), (3007, some (we_api_Series_31_4 s3.2.1))] hB) ?_
    refine AWp.seq ?_
    refine AWp.cond (b := (decide (s3.1 < (r1.1.fPorts.length : Int)))) (by rfl) (fun hg89 => ?_) (fun hg89 => ?_)
    · replace h := ite_t hg89 h
      refine AWp.skip ?_
      refine seqQ_n ?_
      refine AWp.seq ?_
      refine AWp.block ?_
      refine AWp.seq ?_
      obtain ⟨x90, hx90, h⟩ := bindS h
      refine AWp.region (oc (OpJ.indexD (el := (e_api_Port x90)) Try.underlying22 tyS68 (idx_some hx90).1 (get_map e_api_Port (idx_some hx90).2) (ltN hN rfl) (ot 16 (qe_api_Port_10 r1.1.fPorts)) (ot 18 (i6 s3.1)))
        (oc (OpJ.loadD tyS68 (by rfl) (by rfl) (ltN hN rfl) (ot 20 (.dptr (e_api_Port x90))))
        (oc (OpJ.alloc hB tyZ68 (nm := 1009) (by decide) (ltN hN rfl))
        (oc (OpJ.storeB (bt := 68) (c := (.st [(i6 0), (i6 0), (i6 0), .nils, (.d (.st [(.bool false), (.int .u64 0), (.int .u64 0)])), (.d (.st [(.bool false), (.int .u64 0), (.int .u64 0)]))])) (v := (.d (e_api_Port x90))) (c' := (.d (e_api_Port x90))) tyS68 (SetAt.here _ _) (by rfl) (by rfl) (by simp) rfl (ot 9 (.ptr 1009 0 [])) (ot 21 (.d (e_api_Port x90))))
        (OpJs.nil))))) (by rfl) (by rfl) ?_
      refine seqQ_n ?_
      refine AWp.ghost (mp [] [(0, (.ptr 0 0 [])), (2, (.ptr 1002 0 [])), (3, (.ptr 1003 0 [])), (5, (.ptr 1005 0 [])), (6, (.ptr 1006 0 [])), (7, (.sref 3007 4 0 s3.2.1.length)), (9, (.ptr 1009 0 [])), (16, (qe_api_Port_10 r1.1.fPorts)), (17, (i6 (r1.1.fPorts.length : Int))), (18, (i6 s3.1))] [(0, some (.box 72 (.d (e_exchangepointmill_Deck s3.2.2)))), (1002, some (.box 24 (.st [(i6 0), (.d (.str ([] : List UInt8))), (.d (.str ([] : List UInt8))), (i6 0), (i6 0), .nils]))), (1003, some (.box 27 (.d (.st [(.int .i64 0), (.int .i64 0), (.int .i64 0)])))), (1005, some (.box 24 (.d (e_api_Member r1.1)))), (1006, some (.box 27 (.d (e_api_Tariff r2.1)))), (1009, some (.box 68 (.d (e_api_Port x90)))), (3007, some (we_api_Series_31_4 s3.2.1))] hB) ?_
      refine AWp.seq ?_
      obtain ⟨r91, hr91, h⟩ := bindS h
      refine AWp.region (oc (mv hN (ot 0 (.ptr 0 0 [])))
        (oc (ov (.ptr 1009 0 [0]) (fp hN Try.underlying68 0 tyS3 (.box 68 (.d (e_api_Port x90))) (ot 9 (.ptr 1009 0 []))))
        (oc (lb hN 68 (.d (e_api_Port x90)) (i6 x90.fID) tyS3 (ad (.int .i64 x90.fID)) (ot 23 (.ptr 1009 0 [0])))
        (oc (OpJ.callFn hB fnOk25 (exchangepointmill_Deck_Series_ac s3.2.2 x90.fID r91 hr91) [(0, 0)] (by kernel_rfl) (ltN hN rfl) (by kernel_rfl) (OpdL.cons (ot 22 (.ptr 0 0 [])) (OpdL.cons (ot 24 (i6 x90.fID)) OpdL.nil)))
        (oc (OpJ.alloc hB tyZ31 (nm := 1010) (by decide) (ltN hN rfl))
        (oc (OpJ.storeB (bt := 31) (c := (.st [(i6 0), (i6 0), .nils, .nils])) (v := (.d (e_api_Series r91.1))) (c' := (.d (e_api_Series r91.1))) tyS31 (SetAt.here _ _) (by rfl) (by rfl) (by simp) rfl (ot 10 (.ptr 1010 0 [])) (ot 25 (.d (e_api_Series r91.1))))
        (OpJs.nil))))))) (by rfl) (by rfl) ?_
      refine seqQ_n ?_
      refine AWp.ghost (mp [] [(0, (.ptr 0 0 [])), (2, (.ptr 1002 0 [])), (3, (.ptr 1003 0 [])), (5, (.ptr 1005 0 [])), (6, (.ptr 1006 0 [])), (7, (.sref 3007 4 0 s3.2.1.length)), (10, (.ptr 1010 0 [])), (16, (qe_api_Port_10 r1.1.fPorts)), (17, (i6 (r1.1.fPorts.length : Int))), (18, (i6 s3.1))] [(0, some (.box 72 (.d (e_exchangepointmill_Deck r91.2)))), (1002, some (.box 24 (.st [(i6 0), (.d (.str ([] : List UInt8))), (.d (.str ([] : List UInt8))), (i6 0), (i6 0), .nils]))), (1003, some (.box 27 (.d (.st [(.int .i64 0), (.int .i64 0), (.int .i64 0)])))), (1005, some (.box 24 (.d (e_api_Member r1.1)))), (1006, some (.box 27 (.d (e_api_Tariff r2.1)))), (1010, some (.box 31 (.d (e_api_Series r91.1)))), (3007, some (we_api_Series_31_4 s3.2.1))] hB) ?_
      refine AWp.seq ?_
      refine AWp.block ?_
      obtain ⟨p115, hx128, h⟩ := bindS h
      refine AWp.ghost (mp [] ((fun s92 : api_Series × exchangepointmill_Deck => ([(0, (.ptr 0 0 [])), (2, (.ptr 1002 0 [])), (3, (.ptr 1003 0 [])), (5, (.ptr 1005 0 [])), (6, (.ptr 1006 0 [])), (7, (.sref 3007 4 0 s3.2.1.length)), (10, (.ptr 1010 0 [])), (16, (qe_api_Port_10 r1.1.fPorts)), (17, (i6 (r1.1.fPorts.length : Int))), (18, (i6 s3.1))] : EL)) (r91.1, r91.2)) ((fun s92 : api_Series × exchangepointmill_Deck => ([(0, some (.box 72 (.d (e_exchangepointmill_Deck s92.2)))), (1002, some (.box 24 (.st [(i6 0), (.d (.str ([] : List UInt8))), (.d (.str ([] : List UInt8))), (i6 0), (i6 0), .nils]))), (1003, some (.box 27 (.d (.st [(.int .i64 0), (.int .i64 0), (.int .i64 0)])))), (1005, some (.box 24 (.d (e_api_Member r1.1)))), (1006, some (.box 27 (.d (e_api_Tariff r2.1)))), (1010, some (.box 31 (.d (e_api_Series s92.1)))), (3007, some (we_api_Series_31_4 s3.2.1))] : OL)) (r91.1, r91.2)) hB) ?_
      refine AWp.loopS (exchangepointlaw41_bills_L1) (fun s92 : api_Series × exchangepointmill_Deck => ([(0, (.ptr 0 0 [])), (2, (.ptr 1002 0 [])), (3, (.ptr 1003 0 [])), (5, (.ptr 1005 0 [])), (6, (.ptr 1006 0 [])), (7, (.sref 3007 4 0 s3.2.1.length)), (10, (.ptr 1010 0 [])), (16, (qe_api_Port_10 r1.1.fPorts)), (17, (i6 (r1.1.fPorts.length : Int))), (18, (i6 s3.1))] : EL)) (fun s92 : api_Series × exchangepointmill_Deck => ([(0, some (.box 72 (.d (e_exchangepointmill_Deck s92.2)))), (1002, some (.box 24 (.st [(i6 0), (.d (.str ([] : List UInt8))), (.d (.str ([] : List UInt8))), (i6 0), (i6 0), .nils]))), (1003, some (.box 27 (.d (.st [(.int .i64 0), (.int .i64 0), (.int .i64 0)])))), (1005, some (.box 24 (.d (e_api_Member r1.1)))), (1006, some (.box 27 (.d (e_api_Tariff r2.1)))), (1010, some (.box 31 (.d (e_api_Series s92.1)))), (3007, some (we_api_Series_31_4 s3.2.1))] : OL)) (fun (p115 : (api_Series × exchangepointmill_Deck)) e E' O' => e = .exit 2 ∧ Mat B E' O' ([(0, (.ptr 0 0 [])), (2, (.ptr 1002 0 [])), (3, (.ptr 1003 0 [])), (5, (.ptr 1005 0 [])), (6, (.ptr 1006 0 [])), (7, (.sref 3007 4 0 s3.2.1.length)), (10, (.ptr 1010 0 [])), (16, (qe_api_Port_10 r1.1.fPorts)), (17, (i6 (r1.1.fPorts.length : Int))), (18, (i6 s3.1))] : EL) ([(0, some (.box 72 (.d (e_exchangepointmill_Deck p115.2)))), (1002, some (.box 24 (.st [(i6 0), (.d (.str ([] : List UInt8))), (.d (.str ([] : List UInt8))), (i6 0), (i6 0), .nils]))), (1003, some (.box 27 (.d (.st [(.int .i64 0), (.int .i64 0), (.int .i64 0)])))), (1005, some (.box 24 (.d (e_api_Member r1.1)))), (1006, some (.box 27 (.d (e_api_Tariff r2.1)))), (1010, some (.box 31 (.d (e_api_Series p115.1)))), (3007, some (we_api_Series_31_4 s3.2.1))] : OL)) hx128 (fun s92 y h => ?_) (fun e E' O' hR => ?_)
      · unfold exchangepointlaw41_bills_L1 at h
        show AWp _ _ _ _ ([(0, (.ptr 0 0 [])), (2, (.ptr 1002 0 [])), (3, (.ptr 1003 0 [])), (5, (.ptr 1005 0 [])), (6, (.ptr 1006 0 [])), (7, (.sref 3007 4 0 s3.2.1.length)), (10, (.ptr 1010 0 [])), (16, (qe_api_Port_10 r1.1.fPorts)), (17, (i6 (r1.1.fPorts.length : Int))), (18, (i6 s3.1))] : EL) ([(0, some (.box 72 (.d (e_exchangepointmill_Deck s92.2)))), (1002, some (.box 24 (.st [(i6 0), (.d (.str ([] : List UInt8))), (.d (.str ([] : List UInt8))), (i6 0), (i6 0), .nils]))), (1003, some (.box 27 (.d (.st [(.int .i64 0), (.int .i64 0), (.int .i64 0)])))), (1005, some (.box 24 (.d (e_api_Member r1.1)))), (1006, some (.box 27 (.d (e_api_Tariff r2.1)))), (1010, some (.box 31 (.d (e_api_Series s92.1)))), (3007, some (we_api_Series_31_4 s3.2.1))] : OL)
        refine AWp.seq ?_
        refine AWp.seq ?_
        refine AWp.cut h (fun m118 : Bool => ([(0, (.ptr 0 0 [])), (2, (.ptr 1002 0 [])), (3, (.ptr 1003 0 [])), (5, (.ptr 1005 0 [])), (6, (.ptr 1006 0 [])), (7, (.sref 3007 4 0 s3.2.1.length)), (10, (.ptr 1010 0 [])), (16, (qe_api_Port_10 r1.1.fPorts)), (17, (i6 (r1.1.fPorts.length : Int))), (18, (i6 s3.1)), (36, (bo m118))] : EL)) (fun m118 : Bool => ([(0, some (.box 72 (.d (e_exchangepointmill_Deck s92.2)))), (1002, some (.box 24 (.st [(i6 0), (.d (.str ([] : List UInt8))), (.d (.str ([] : List UInt8))), (i6 0), (i6 0), .nils]))), (1003, some (.box 27 (.d (.st [(.int .i64 0), (.int .i64 0), (.int .i64 0)])))), (1005, some (.box 24 (.d (e_api_Member r1.1)))), (1006, some (.box 27 (.d (e_api_Tariff r2.1)))), (1010, some (.box 31 (.d (e_api_Series s92.1)))), (3007, some (we_api_Series_31_4 s3.2.1))] : OL)) (fun m118 h E' O' hmat => ?_) (fun j119 hjj119 h => ?_)
        · refine seqQ_n ?_
          refine AWp.ghost hmat ?_
          refine AWp.cond (b := m118) (by rfl) (fun hg120 => ?_) (fun hg120 => ?_)
          · replace h := ite_t hg120 h
            refine AWp.skip ?_
            refine seqQ_n ?_
            refine AWp.block ?_
            obtain ⟨r121, hr121, h⟩ := bindS h
            obtain ⟨hc122, h⟩ := chk_some h
            obtain ⟨r123, hr123, h⟩ := bindS h
            obtain ⟨hc124, h⟩ := chk_some h
            refine AWp.draws (by kernel_rfl) (oc (mv hN (ot 0 (.ptr 0 0 [])))
              (oc (OpJ.callFn hB fnOk17 (exchangepointmill_Deck_Next_ac s92.2 (17179869184 : Int) r121 hr121) [(0, 0)] (by kernel_rfl) (ltN hN rfl) (by kernel_rfl) (OpdL.cons (ot 37 (.ptr 0 0 [])) (OpdL.cons (Opd.int .i64 (17179869184)) OpdL.nil)))
              (oc (OpJ.buildSliceR Try.underlying28 tyS3 tyZD3 (by rfl) (by decide) (by decide) hB (nm := 1039) (by decide) (len := ([r121.1] : List Int).length) (by rfl) (Opds.cons (ot 38 (i6 r121.1)) Opds.nil) (by kernel_rfl) (es := ([r121.1] : List Int).map (eI .i64)) (by rfl) (by rfl) (by kernel_rfl) (by simp) (ltN hN rfl))
              (oc (ov (.ptr 1010 2 [2]) (fp hN Try.underlying31 2 tyS28 (.box 31 (.d (e_api_Series s92.1))) (ot 10 (.ptr 1010 0 []))))
              (oc (lb hN 31 (.d (e_api_Series s92.1)) (qI_1 s92.1.fIn) tyS28 (ad (.list 1 (s92.1.fIn.map (eI .i64)))) (ot 40 (.ptr 1010 2 [2])))
              (oc (OpJ.append hB Try.underlying28 tyE3 (nm := 1042) (by decide) (es := ([r121.1] : List Int).map (eI .i64)) (ys := s92.1.fIn.map (eI .i64)) (es' := (([r121.1] : List Int) ++ s92.1.fIn).map (eI .i64)) (len := (([r121.1] : List Int) ++ s92.1.fIn).length) (by simp) (by simp) (map_sz (f := (eI .i64)) (fun _ => rfl)) (by rw [List.length_map]; exact lim_mulN hc122 (by decide)) (by rw [List.length_map]; exact lim_leN hc122) (ltN hN rfl) (by simp) (ot 39 (.sref 1039 1 0 (([r121.1] : List Int).length))) (ot 41 (qI_1 s92.1.fIn)))
              (oc (mv hN (ot 0 (.ptr 0 0 [])))
              (oc (OpJ.callFn hB fnOk17 (exchangepointmill_Deck_Next_ac r121.2 (17179869184 : Int) r123 hr123) [(0, 0)] (by kernel_rfl) (ltN hN rfl) (by kernel_rfl) (OpdL.cons (ot 43 (.ptr 0 0 [])) (OpdL.cons (Opd.int .i64 (17179869184)) OpdL.nil)))
              (oc (OpJ.buildSliceR Try.underlying28 tyS3 tyZD3 (by rfl) (by decide) (by decide) hB (nm := 1045) (by decide) (len := ([r123.1] : List Int).length) (by rfl) (Opds.cons (ot 44 (i6 r123.1)) Opds.nil) (by kernel_rfl) (es := ([r123.1] : List Int).map (eI .i64)) (by rfl) (by rfl) (by kernel_rfl) (by simp) (ltN hN rfl))
              (oc (ov (.ptr 1010 3 [3]) (fp hN Try.underlying31 3 tyS28 (.box 31 (.d (e_api_Series s92.1))) (ot 10 (.ptr 1010 0 []))))
              (oc (lb hN 31 (.d (e_api_Series s92.1)) (qI_1 s92.1.fOut) tyS28 (ad (.list 1 (s92.1.fOut.map (eI .i64)))) (ot 46 (.ptr 1010 3 [3])))
              (oc (OpJ.append hB Try.underlying28 tyE3 (nm := 1048) (by decide) (es := ([r123.1] : List Int).map (eI .i64)) (ys := s92.1.fOut.map (eI .i64)) (es' := (([r123.1] : List Int) ++ s92.1.fOut).map (eI .i64)) (len := (([r123.1] : List Int) ++ s92.1.fOut).length) (by simp) (by simp) (map_sz (f := (eI .i64)) (fun _ => rfl)) (by rw [List.length_map]; exact lim_mulN hc124 (by decide)) (by rw [List.length_map]; exact lim_leN hc124) (ltN hN rfl) (by simp) (ot 45 (.sref 1045 1 0 (([r123.1] : List Int).length))) (ot 47 (qI_1 s92.1.fOut)))
              (oc (ov (.ptr 1010 2 [2]) (fp hN Try.underlying31 2 tyS28 (.box 31 (.d (e_api_Series s92.1))) (ot 10 (.ptr 1010 0 []))))
              (oc (OpJ.storeB (bt := 31) (c := (.d (e_api_Series s92.1))) (v := (.sref 1042 1 0 ((([r121.1] : List Int) ++ s92.1.fIn).length))) (c' := (.st [(i6 s92.1.fPort), (i6 s92.1.fSeconds), (.sref 1042 1 0 ((([r121.1] : List Int) ++ s92.1.fIn).length)), (qI_1 s92.1.fOut)])) tyS28 (SetAt.lift (fs := [(.int .i64 s92.1.fPort), (.int .i64 s92.1.fSeconds), (.list 1 (s92.1.fIn.map (eI .i64))), (.list 1 (s92.1.fOut.map (eI .i64)))]) (SetAt.st1 (by rfl) (by rfl) (SetAt.here _ _) (by rfl) (by rfl) (by first | rfl | omega))) (by rfl) (by rfl) (by simp) rfl (ot 49 (.ptr 1010 2 [2])) (ot 42 (.sref 1042 1 0 ((([r121.1] : List Int) ++ s92.1.fIn).length))))
              (oc (ov (.ptr 1010 3 [3]) (fp hN Try.underlying31 3 tyS28 (.box 31 (.st [(i6 s92.1.fPort), (i6 s92.1.fSeconds), (.sref 1042 1 0 ((([r121.1] : List Int) ++ s92.1.fIn).length)), (qI_1 s92.1.fOut)])) (ot 10 (.ptr 1010 0 []))))
              (oc (OpJ.storeB (bt := 31) (c := (.st [(i6 s92.1.fPort), (i6 s92.1.fSeconds), (.sref 1042 1 0 ((([r121.1] : List Int) ++ s92.1.fIn).length)), (qI_1 s92.1.fOut)])) (v := (.sref 1048 1 0 ((([r123.1] : List Int) ++ s92.1.fOut).length))) (c' := (.st [(i6 s92.1.fPort), (i6 s92.1.fSeconds), (.sref 1042 1 0 ((([r121.1] : List Int) ++ s92.1.fIn).length)), (.sref 1048 1 0 ((([r123.1] : List Int) ++ s92.1.fOut).length))])) tyS28 (SetAt.st1 (f := (qI_1 s92.1.fOut)) (by rfl) (by rfl) (SetAt.here _ _) (by rfl) (by rfl) (by first | rfl | omega)) (by rfl) (by rfl) (by simp) rfl (ot 50 (.ptr 1010 3 [3])) (ot 48 (.sref 1048 1 0 ((([r123.1] : List Int) ++ s92.1.fOut).length))))
              (OpJs.nil))))))))))))))))) (by kernel_rfl) (by rfl) (by rfl) ?_
            refine blkQ_n ?_
            obtain rfl := Option.some.inj h
            exact ⟨rfl, (Mat.trans (mp [] [(0, (.ptr 0 0 [])), (2, (.ptr 1002 0 [])), (3, (.ptr 1003 0 [])), (5, (.ptr 1005 0 [])), (6, (.ptr 1006 0 [])), (7, (.sref 3007 4 0 s3.2.1.length)), (10, (.ptr 1010 0 [])), (16, (qe_api_Port_10 r1.1.fPorts)), (17, (i6 (r1.1.fPorts.length : Int))), (18, (i6 s3.1))] [(0, some (.box 72 (.d (e_exchangepointmill_Deck r123.2)))), (1002, some (.box 24 (.st [(i6 0), (.d (.str ([] : List UInt8))), (.d (.str ([] : List UInt8))), (i6 0), (i6 0), .nils]))), (1003, some (.box 27 (.d (.st [(.int .i64 0), (.int .i64 0), (.int .i64 0)])))), (1005, some (.box 24 (.d (e_api_Member r1.1)))), (1006, some (.box 27 (.d (e_api_Tariff r2.1)))), (1010, some (.box 31 (.st [(i6 s92.1.fPort), (i6 s92.1.fSeconds), (.sref 1042 1 0 ((([r121.1] : List Int) ++ s92.1.fIn).length)), (.sref 1048 1 0 ((([r123.1] : List Int) ++ s92.1.fOut).length))]))), (1042, some (wI_3_1 (([r121.1] : List Int) ++ s92.1.fIn))), (1048, some (wI_3_1 (([r123.1] : List Int) ++ s92.1.fOut))), (3007, some (we_api_Series_31_4 s3.2.1))] hB) (Mat.trans (Mat.freezeP (n := 1042) (e := 3) (sz := 1) (es := (([r121.1] : List Int) ++ s92.1.fIn).map (eI .i64)) (Ts := []) (Bs := [(1010, some (.box 31 (.st [(i6 s92.1.fPort), (i6 s92.1.fSeconds), (qI_1 (([r121.1] : List Int) ++ s92.1.fIn)), (.sref 1048 1 0 ((([r123.1] : List Int) ++ s92.1.fOut).length))])))]) (by rfl) TwT.nil (TwB.cons (x := (.st [(i6 s92.1.fPort), (i6 s92.1.fSeconds), (.sref 1042 1 0 ((([r121.1] : List Int) ++ s92.1.fIn).length)), (.sref 1048 1 0 ((([r123.1] : List Int) ++ s92.1.fOut).length))])) (by rfl) (Tw.st (TwL.cons (Tw.same _) (TwL.cons (Tw.same _) (TwL.cons (FrzL.all (by first | rfl | (simp; done) | (simp; omega))) (TwL.cons (Tw.same _) TwL.nil))))) TwB.nil)) (Mat.trans (Mat.freezeP (n := 1048) (e := 3) (sz := 1) (es := (([r123.1] : List Int) ++ s92.1.fOut).map (eI .i64)) (Ts := []) (Bs := [(1010, some (.box 31 (.st [(i6 s92.1.fPort), (i6 s92.1.fSeconds), (qI_1 (([r121.1] : List Int) ++ s92.1.fIn)), (qI_1 (([r123.1] : List Int) ++ s92.1.fOut))])))]) (by rfl) TwT.nil (TwB.cons (x := (.st [(i6 s92.1.fPort), (i6 s92.1.fSeconds), (qI_1 (([r121.1] : List Int) ++ s92.1.fIn)), (.sref 1048 1 0 ((([r123.1] : List Int) ++ s92.1.fOut).length))])) (by rfl) (Tw.st (TwL.cons (Tw.same _) (TwL.cons (Tw.same _) (TwL.cons (Tw.same _) (TwL.cons (FrzL.all (by first | rfl | (simp; done) | (simp; omega))) TwL.nil))))) TwB.nil)) (Mat.trans (Mat.coeP (Ts := []) (Bs := [(1010, some (.box 31 (.d (.st [(.int .i64 s92.1.fPort), (.int .i64 s92.1.fSeconds), (.list 1 ((([r121.1] : List Int) ++ s92.1.fIn).map (eI .i64))), (.list 1 ((([r123.1] : List Int) ++ s92.1.fOut).map (eI .i64)))]))))]) TwT.nil (TwB.cons (x := (.st [(i6 s92.1.fPort), (i6 s92.1.fSeconds), (qI_1 (([r121.1] : List Int) ++ s92.1.fIn)), (qI_1 (([r123.1] : List Int) ++ s92.1.fOut))])) (by rfl) (Tw.leaf ⟨_, (Co.st (CoL.cons (Co.d _) (CoL.cons (Co.d _) (CoL.cons (Co.d _) (CoL.cons (Co.d _) CoL.nil))))), rfl⟩) TwB.nil)) (mp [] ((fun s92 : api_Series × exchangepointmill_Deck => ([(0, (.ptr 0 0 [])), (2, (.ptr 1002 0 [])), (3, (.ptr 1003 0 [])), (5, (.ptr 1005 0 [])), (6, (.ptr 1006 0 [])), (7, (.sref 3007 4 0 s3.2.1.length)), (10, (.ptr 1010 0 [])), (16, (qe_api_Port_10 r1.1.fPorts)), (17, (i6 (r1.1.fPorts.length : Int))), (18, (i6 s3.1))] : EL)) ((api_Series.mk s92.1.fPort s92.1.fSeconds (([r121.1] : List Int) ++ s92.1.fIn) (([r123.1] : List Int) ++ s92.1.fOut)), r123.2)) ((fun s92 : api_Series × exchangepointmill_Deck => ([(0, some (.box 72 (.d (e_exchangepointmill_Deck s92.2)))), (1002, some (.box 24 (.st [(i6 0), (.d (.str ([] : List UInt8))), (.d (.str ([] : List UInt8))), (i6 0), (i6 0), .nils]))), (1003, some (.box 27 (.d (.st [(.int .i64 0), (.int .i64 0), (.int .i64 0)])))), (1005, some (.box 24 (.d (e_api_Member r1.1)))), (1006, some (.box 27 (.d (e_api_Tariff r2.1)))), (1010, some (.box 31 (.d (e_api_Series s92.1)))), (3007, some (we_api_Series_31_4 s3.2.1))] : OL)) ((api_Series.mk s92.1.fPort s92.1.fSeconds (([r121.1] : List Int) ++ s92.1.fIn) (([r123.1] : List Int) ++ s92.1.fOut)), r123.2)) hB)))))⟩
          · replace h := ite_f hg120 h
            refine AWp.exit ?_
            refine seqQ_e ?_
            obtain rfl := Option.some.inj h
            exact ⟨(fun hc => by cases hc), rfl, (mp [] ((fun p115 : api_Series × exchangepointmill_Deck => ([(0, (.ptr 0 0 [])), (2, (.ptr 1002 0 [])), (3, (.ptr 1003 0 [])), (5, (.ptr 1005 0 [])), (6, (.ptr 1006 0 [])), (7, (.sref 3007 4 0 s3.2.1.length)), (10, (.ptr 1010 0 [])), (16, (qe_api_Port_10 r1.1.fPorts)), (17, (i6 (r1.1.fPorts.length : Int))), (18, (i6 s3.1))] : EL)) (s92.1, s92.2)) ((fun p115 : api_Series × exchangepointmill_Deck => ([(0, some (.box 72 (.d (e_exchangepointmill_Deck p115.2)))), (1002, some (.box 24 (.st [(i6 0), (.d (.str ([] : List UInt8))), (.d (.str ([] : List UInt8))), (i6 0), (i6 0), .nils]))), (1003, some (.box 27 (.d (.st [(.int .i64 0), (.int .i64 0), (.int .i64 0)])))), (1005, some (.box 24 (.d (e_api_Member r1.1)))), (1006, some (.box 27 (.d (e_api_Tariff r2.1)))), (1010, some (.box 31 (.d (e_api_Series p115.1)))), (3007, some (we_api_Series_31_4 s3.2.1))] : OL)) (s92.1, s92.2)) hB)⟩
        · rcases Bool.eq_false_or_eq_true (decide ((s92.1.fIn.length : Int) < (2 : Int))) with hg125 | hg125
          · replace h := ite_t hg125 h
            refine AWp.region (oc (ov (.ptr 1010 2 [2]) (fp hN Try.underlying31 2 tyS28 (.box 31 (.d (e_api_Series s92.1))) (ot 10 (.ptr 1010 0 []))))
              (oc (lb hN 31 (.d (e_api_Series s92.1)) (qI_1 s92.1.fIn) tyS28 (ad (.list 1 (s92.1.fIn.map (eI .i64)))) (ot 26 (.ptr 1010 2 [2])))
              (oc (OpJ.val (v' := (i6 (s92.1.fIn.length : Int))) (by simp) (OpJ.lenD Try.underlying28 (ltN hN rfl) (ot 27 (qI_1 s92.1.fIn))))
              (oc (OpJ.lss (ltN hN rfl) (ot 28 (i6 (s92.1.fIn.length : Int))) (Opd.int .i64 (2)))
              (oc (OpJ.val (v' := .d (.bool true)) (by rw [hg125]) (mv hN (ot 29 (bo (decide ((s92.1.fIn.length : Int) < (2 : Int)))))))
              (oc (OpJ.skipU (ltN hN rfl) (by rfl))
              (oc (OpJ.skipU (ltN hN rfl) (by rfl))
              (oc (OpJ.skipU (ltN hN rfl) (by rfl))
              (oc (OpJ.skipU (ltN hN rfl) (by rfl))
              (oc (OpJ.skipU (ltN hN rfl) (by rfl))
              (oc (OpJ.pickT (ltN hN rfl) (ot 30 (bo true)) (Opd.bool true))
              (OpJs.nil)))))))))))) (by rfl) (by rfl) ?_
            exact hjj119 _ h _ _ (Mat.trans (mp [] [(0, (.ptr 0 0 [])), (2, (.ptr 1002 0 [])), (3, (.ptr 1003 0 [])), (5, (.ptr 1005 0 [])), (6, (.ptr 1006 0 [])), (7, (.sref 3007 4 0 s3.2.1.length)), (10, (.ptr 1010 0 [])), (16, (qe_api_Port_10 r1.1.fPorts)), (17, (i6 (r1.1.fPorts.length : Int))), (18, (i6 s3.1)), (36, (bo true))] [(0, some (.box 72 (.d (e_exchangepointmill_Deck s92.2)))), (1002, some (.box 24 (.st [(i6 0), (.d (.str ([] : List UInt8))), (.d (.str ([] : List UInt8))), (i6 0), (i6 0), .nils]))), (1003, some (.box 27 (.d (.st [(.int .i64 0), (.int .i64 0), (.int .i64 0)])))), (1005, some (.box 24 (.d (e_api_Member r1.1)))), (1006, some (.box 27 (.d (e_api_Tariff r2.1)))), (1010, some (.box 31 (.d (e_api_Series s92.1)))), (3007, some (we_api_Series_31_4 s3.2.1))] hB) (mp [] ((fun m118 : Bool => ([(0, (.ptr 0 0 [])), (2, (.ptr 1002 0 [])), (3, (.ptr 1003 0 [])), (5, (.ptr 1005 0 [])), (6, (.ptr 1006 0 [])), (7, (.sref 3007 4 0 s3.2.1.length)), (10, (.ptr 1010 0 [])), (16, (qe_api_Port_10 r1.1.fPorts)), (17, (i6 (r1.1.fPorts.length : Int))), (18, (i6 s3.1)), (36, (bo m118))] : EL)) true) ((fun m118 : Bool => ([(0, some (.box 72 (.d (e_exchangepointmill_Deck s92.2)))), (1002, some (.box 24 (.st [(i6 0), (.d (.str ([] : List UInt8))), (.d (.str ([] : List UInt8))), (i6 0), (i6 0), .nils]))), (1003, some (.box 27 (.d (.st [(.int .i64 0), (.int .i64 0), (.int .i64 0)])))), (1005, some (.box 24 (.d (e_api_Member r1.1)))), (1006, some (.box 27 (.d (e_api_Tariff r2.1)))), (1010, some (.box 31 (.d (e_api_Series s92.1)))), (3007, some (we_api_Series_31_4 s3.2.1))] : OL)) true) hB))
          · replace h := ite_f hg125 h
            obtain ⟨x126, hx126, h⟩ := bindS h
            refine AWp.region (oc (ov (.ptr 1010 2 [2]) (fp hN Try.underlying31 2 tyS28 (.box 31 (.d (e_api_Series s92.1))) (ot 10 (.ptr 1010 0 []))))
              (oc (lb hN 31 (.d (e_api_Series s92.1)) (qI_1 s92.1.fIn) tyS28 (ad (.list 1 (s92.1.fIn.map (eI .i64)))) (ot 26 (.ptr 1010 2 [2])))
              (oc (OpJ.val (v' := (i6 (s92.1.fIn.length : Int))) (by simp) (OpJ.lenD Try.underlying28 (ltN hN rfl) (ot 27 (qI_1 s92.1.fIn))))
              (oc (OpJ.lss (ltN hN rfl) (ot 28 (i6 (s92.1.fIn.length : Int))) (Opd.int .i64 (2)))
              (oc (OpJ.val (v' := .d (.bool false)) (by rw [hg125]) (mv hN (ot 29 (bo (decide ((s92.1.fIn.length : Int) < (2 : Int)))))))
              (oc (OpJ.guarded (by rfl) (ov (.ptr 1010 2 [2]) (fp hN Try.underlying31 2 tyS28 (.box 31 (.d (e_api_Series s92.1))) (ot 10 (.ptr 1010 0 [])))))
              (oc (OpJ.guarded (by rfl) (lb hN 31 (.d (e_api_Series s92.1)) (qI_1 s92.1.fIn) tyS28 (ad (.list 1 (s92.1.fIn.map (eI .i64)))) (ot 31 (.ptr 1010 2 [2]))))
              (oc (OpJ.guarded (by rfl) (OpJ.indexD (el := (.int .i64 x126)) Try.underlying28 tyS3 (idx_some hx126).1 (get_map (eI .i64) (idx_some hx126).2) (ltN hN rfl) (ot 32 (qI_1 s92.1.fIn)) (Opd.int .i64 (0))))
              (oc (OpJ.guarded (by rfl) (OpJ.loadD tyS3 (by rfl) (by rfl) (ltN hN rfl) (ot 33 (.dptr (.int .i64 x126)))))
              (oc (OpJ.guarded (by rfl) (OpJ.lss (ltN hN rfl) (ot 34 (i6 x126)) (Opd.int .i64 (0))))
              (oc (OpJ.pickF (ltN hN rfl) (ot 30 (bo false)) (ot 35 (bo (decide (x126 < (0 : Int))))))
              (OpJs.nil)))))))))))) (by rfl) (by rfl) ?_
            exact hjj119 _ h _ _ (Mat.trans (mp [] [(0, (.ptr 0 0 [])), (2, (.ptr 1002 0 [])), (3, (.ptr 1003 0 [])), (5, (.ptr 1005 0 [])), (6, (.ptr 1006 0 [])), (7, (.sref 3007 4 0 s3.2.1.length)), (10, (.ptr 1010 0 [])), (16, (qe_api_Port_10 r1.1.fPorts)), (17, (i6 (r1.1.fPorts.length : Int))), (18, (i6 s3.1)), (36, (bo (decide (x126 < (0 : Int)))))] [(0, some (.box 72 (.d (e_exchangepointmill_Deck s92.2)))), (1002, some (.box 24 (.st [(i6 0), (.d (.str ([] : List UInt8))), (.d (.str ([] : List UInt8))), (i6 0), (i6 0), .nils]))), (1003, some (.box 27 (.d (.st [(.int .i64 0), (.int .i64 0), (.int .i64 0)])))), (1005, some (.box 24 (.d (e_api_Member r1.1)))), (1006, some (.box 27 (.d (e_api_Tariff r2.1)))), (1010, some (.box 31 (.d (e_api_Series s92.1)))), (3007, some (we_api_Series_31_4 s3.2.1))] hB) (mp [] ((fun m118 : Bool => ([(0, (.ptr 0 0 [])), (2, (.ptr 1002 0 [])), (3, (.ptr 1003 0 [])), (5, (.ptr 1005 0 [])), (6, (.ptr 1006 0 [])), (7, (.sref 3007 4 0 s3.2.1.length)), (10, (.ptr 1010 0 [])), (16, (qe_api_Port_10 r1.1.fPorts)), (17, (i6 (r1.1.fPorts.length : Int))), (18, (i6 s3.1)), (36, (bo m118))] : EL)) (decide (x126 < (0 : Int)))) ((fun m118 : Bool => ([(0, some (.box 72 (.d (e_exchangepointmill_Deck s92.2)))), (1002, some (.box 24 (.st [(i6 0), (.d (.str ([] : List UInt8))), (.d (.str ([] : List UInt8))), (i6 0), (i6 0), .nils]))), (1003, some (.box 27 (.d (.st [(.int .i64 0), (.int .i64 0), (.int .i64 0)])))), (1005, some (.box 24 (.d (e_api_Member r1.1)))), (1006, some (.box 27 (.d (e_api_Tariff r2.1)))), (1010, some (.box 31 (.d (e_api_Series s92.1)))), (3007, some (we_api_Series_31_4 s3.2.1))] : OL)) (decide (x126 < (0 : Int)))) hB))
      · obtain ⟨rfl, hmat⟩ := hR
        refine blkQ_hit ?_
        refine seqQ_n ?_
        refine AWp.ghost hmat ?_
        obtain ⟨hc129, h⟩ := chk_some h
        refine AWp.region (oc (mv hN (ot 7 (.sref 3007 4 0 s3.2.1.length)))
          (oc (lb hN 31 (.d (e_api_Series p115.1)) (.d (e_api_Series p115.1)) tyS31 (At.here _) (ot 10 (.ptr 1010 0 [])))
          (oc (OpJ.buildSlice Try.underlying25 tyS31 tyZD31 (by rfl) (by decide) (by decide) (Opds.cons (ot 52 (.d (e_api_Series p115.1))) Opds.nil) (by kernel_rfl) (es := ([(e_api_Series p115.1)] : List D)) (by rfl) (by rfl) (by kernel_rfl) (by simp) (ltN hN rfl))
          (oc (OpJ.append hB Try.underlying25 tyE31 (nm := 1054) (by decide) (es := s3.2.1.map e_api_Series) (ys := ([p115.1] : List api_Series).map e_api_Series) (es' := (s3.2.1 ++ ([p115.1] : List api_Series)).map e_api_Series) (len := (s3.2.1 ++ ([p115.1] : List api_Series)).length) (by simp) (by simp) (map_sz (f := e_api_Series) (fun _ => rfl)) (by rw [List.length_map]; exact lim_mulN hc129 (by decide)) (by rw [List.length_map]; exact lim_leN hc129) (ltN hN rfl) (by simp) (ot 51 (.sref 3007 4 0 s3.2.1.length)) (ot 53 (qe_api_Series_4 ([p115.1] : List api_Series))))
          (oc (OpJ.assign (ltN hN rfl) (ot 54 (.sref 1054 4 0 ((s3.2.1 ++ ([p115.1] : List api_Series)).length))))
          (OpJs.nil)))))) (by rfl) (by rfl) ?_
        refine blkQ_n ?_
        refine seqQ_n ?_
        refine AWp.ghost (mp [] [(0, (.ptr 0 0 [])), (2, (.ptr 1002 0 [])), (3, (.ptr 1003 0 [])), (5, (.ptr 1005 0 [])), (6, (.ptr 1006 0 [])), (7, (.sref 1054 4 0 ((s3.2.1 ++ ([p115.1] : List api_Series)).length))), (16, (qe_api_Port_10 r1.1.fPorts)), (17, (i6 (r1.1.fPorts.length : Int))), (18, (i6 s3.1))] [(0, some (.box 72 (.d (e_exchangepointmill_Deck p115.2)))), (1002, some (.box 24 (.st [(i6 0), (.d (.str ([] : List UInt8))), (.d (.str ([] : List UInt8))), (i6 0), (i6 0), .nils]))), (1003, some (.box 27 (.d (.st [(.int .i64 0), (.int .i64 0), (.int .i64 0)])))), (1005, some (.box 24 (.d (e_api_Member r1.1)))), (1006, some (.box 27 (.d (e_api_Tariff r2.1)))), (1054, some (we_api_Series_31_4 (s3.2.1 ++ ([p115.1] : List api_Series))))] hB) ?_
        refine AWp.region (oc (OpJ.add (ltN hN rfl) (ot 18 (i6 s3.1)) (Opd.int .i64 (1)))
          (oc (mv hN (ot 55 (i6 (w64 (s3.1 + (1 : Int))))))
          (OpJs.nil))) (by rfl) (by rfl) ?_
        obtain rfl := Option.some.inj h
        exact ⟨rfl, (Mat.trans (mp [] [(0, (.ptr 0 0 [])), (2, (.ptr 1002 0 [])), (3, (.ptr 1003 0 [])), (5, (.ptr 1005 0 [])), (6, (.ptr 1006 0 [])), (7, (.sref 1054 4 0 ((s3.2.1 ++ ([p115.1] : List api_Series)).length))), (16, (qe_api_Port_10 r1.1.fPorts)), (17, (i6 (r1.1.fPorts.length : Int))), (18, (i6 (w64 (s3.1 + (1 : Int)))))] [(0, some (.box 72 (.d (e_exchangepointmill_Deck p115.2)))), (1002, some (.box 24 (.st [(i6 0), (.d (.str ([] : List UInt8))), (.d (.str ([] : List UInt8))), (i6 0), (i6 0), .nils]))), (1003, some (.box 27 (.d (.st [(.int .i64 0), (.int .i64 0), (.int .i64 0)])))), (1005, some (.box 24 (.d (e_api_Member r1.1)))), (1006, some (.box 27 (.d (e_api_Tariff r2.1)))), (1054, some (we_api_Series_31_4 (s3.2.1 ++ ([p115.1] : List api_Series))))] hB) (mp [(3007, 1054)] ((fun s3 : Int × (List api_Series) × exchangepointmill_Deck => ([(0, (.ptr 0 0 [])), (2, (.ptr 1002 0 [])), (3, (.ptr 1003 0 [])), (5, (.ptr 1005 0 [])), (6, (.ptr 1006 0 [])), (7, (.sref 3007 4 0 s3.2.1.length)), (16, (qe_api_Port_10 r1.1.fPorts)), (17, (i6 (r1.1.fPorts.length : Int))), (18, (i6 s3.1))] : EL)) ((w64 (s3.1 + (1 : Int))), (s3.2.1 ++ ([p115.1] : List api_Series)), p115.2)) ((fun s3 : Int × (List api_Series) × exchangepointmill_Deck => ([(0, some (.box 72 (.d (e_exchangepointmill_Deck s3.2.2)))), (1002, some (.box 24 (.st [(i6 0), (.d (.str ([] : List UInt8))), (.d (.str ([] : List UInt8))), (i6 0), (i6 0), .nils]))), (1003, some (.box 27 (.d (.st [(.int .i64 0), (.int .i64 0), (.int .i64 0)])))), (1005, some (.box 24 (.d (e_api_Member r1.1)))), (1006, some (.box 27 (.d (e_api_Tariff r2.1)))), (3007, some (we_api_Series_31_4 s3.2.1))] : OL)) ((w64 (s3.1 + (1 : Int))), (s3.2.1 ++ ([p115.1] : List api_Series)), p115.2)) hB))⟩
    · replace h := ite_f hg89 h
      refine AWp.exit ?_
      refine seqQ_e ?_
      obtain rfl := Option.some.inj h
      exact ⟨(fun hc => by cases hc), rfl, (mp [] ((fun p88 : exchangepointmill_Deck × (List api_Series) => ([(2, (.ptr 1002 0 [])), (3, (.ptr 1003 0 [])), (5, (.ptr 1005 0 [])), (6, (.ptr 1006 0 [])), (7, (.sref 3007 4 0 p88.2.length))] : EL)) (s3.2.2, s3.2.1)) ((fun p88 : exchangepointmill_Deck × (List api_Series) => ([(0, some (.box 72 (.d (e_exchangepointmill_Deck p88.1)))), (1002, some (.box 24 (.st [(i6 0), (.d (.str ([] : List UInt8))), (.d (.str ([] : List UInt8))), (i6 0), (i6 0), .nils]))), (1003, some (.box 27 (.d (.st [(.int .i64 0), (.int .i64 0), (.int .i64 0)])))), (1005, some (.box 24 (.d (e_api_Member r1.1)))), (1006, some (.box 27 (.d (e_api_Tariff r2.1)))), (3007, some (we_api_Series_31_4 p88.2))] : OL)) (s3.2.2, s3.2.1)) hB)⟩
  · obtain ⟨rfl, hmat⟩ := hR
    refine blkQ_hit ?_
    refine seqQ_n ?_
    refine AWp.ghost hmat ?_
    refine AWp.seq ?_
    refine AWp.draws (by kernel_rfl) (oc (lb hN 24 (.d (e_api_Member r1.1)) (.d (e_api_Member r1.1)) tyS24 (At.here _) (ot 5 (.ptr 1005 0 [])))
      (oc (lb hN 27 (.d (e_api_Tariff r2.1)) (.d (e_api_Tariff r2.1)) tyS27 (At.here _) (ot 6 (.ptr 1006 0 [])))
      (oc (mv hN (ot 7 (.sref 3007 4 0 p88.2.length)))
      (oc (OpJ.storeB (bt := 24) (c := (.st [(i6 0), (.d (.str ([] : List UInt8))), (.d (.str ([] : List UInt8))), (i6 0), (i6 0), .nils])) (v := (.d (e_api_Member r1.1))) (c' := (.d (e_api_Member r1.1))) tyS24 (SetAt.here _ _) (by rfl) (by rfl) (by simp) rfl (ot 2 (.ptr 1002 0 [])) (ot 56 (.d (e_api_Member r1.1))))
      (oc (OpJ.storeB (bt := 27) (c := (.d (.st [(.int .i64 0), (.int .i64 0), (.int .i64 0)]))) (v := (.d (e_api_Tariff r2.1))) (c' := (.d (e_api_Tariff r2.1))) tyS27 (SetAt.here _ _) (by rfl) (by rfl) (by simp) rfl (ot 3 (.ptr 1003 0 [])) (ot 57 (.d (e_api_Tariff r2.1))))
      (oc (OpJ.assign (ltN hN rfl) (ot 58 (.sref 3007 4 0 p88.2.length)))
      (OpJs.nil))))))) (by kernel_rfl) (by rfl) (by rfl) ?_
    refine seqQ_n ?_
    refine AWp.ghost (mp [] [(2, (.ptr 1002 0 [])), (3, (.ptr 1003 0 [])), (4, (.sref 3007 4 0 p88.2.length))] [(0, some (.box 72 (.d (e_exchangepointmill_Deck p88.1)))), (1002, some (.box 24 (.d (e_api_Member r1.1)))), (1003, some (.box 27 (.d (e_api_Tariff r2.1)))), (3007, some (we_api_Series_31_4 p88.2))] hB) ?_
    refine AWp.ret ?_
    obtain rfl := Option.some.inj h
    exact ⟨.inl rfl, _, _, (Mat.trans (Mat.freezeP (n := 3007) (e := 31) (sz := 4) (es := p88.2.map e_api_Series) (Ts := [(4, (qe_api_Series_4 p88.2))]) (Bs := []) (by rfl) (TwT.cons (x := (.sref 3007 4 0 p88.2.length)) (by rfl) (FrzL.all (by first | rfl | (simp; done) | (simp; omega))) TwT.nil) TwB.nil) (mp [] [(2, (.ptr 1002 0 [])), (3, (.ptr 1003 0 [])), (4, (qe_api_Series_4 p88.2))] [(0, some (.box 72 (.d (e_exchangepointmill_Deck p88.1)))), (1002, some (.box 24 (.d (e_api_Member r1.1)))), (1003, some (.box 27 (.d (e_api_Tariff r2.1))))] hB)), [(.d (e_api_Member r1.1)), (.d (e_api_Tariff r2.1)), (qe_api_Series_4 p88.2)], (Res.cell (c := (.d (e_api_Member r1.1))) (by rfl) (by rfl) tyS24 (by rfl) (by rfl) (by rfl) (Res.cell (c := (.d (e_api_Tariff r2.1))) (by rfl) (by rfl) tyS27 (by rfl) (by rfl) (by rfl) (Res.tmp (by rfl) (by rfl) Res.nil))), rfl, by rfl, by rfl, by rfl⟩

noncomputable def exchangepointref41_Valid (a0 : api_Tariff) : Option (Bool) :=
  some ((((((decide ((0 : Int) ≤ a0.fBase)) && (decide (a0.fBase ≤ (1099511627776 : Int)))) && (decide ((0 : Int) ≤ a0.fIncluded))) && (decide (a0.fIncluded ≤ (1048576 : Int)))) && (decide ((0 : Int) ≤ a0.fRate))) && (decide (a0.fRate ≤ (1048576 : Int))))
set_option maxHeartbeats 4000000 in
set_option maxRecDepth 100000 in
theorem exchangepointref41_Valid_ac (a0 : api_Tariff) (r : Bool) (h : exchangepointref41_Valid a0 = some r) : AC Try.prog 27 [(.d (e_api_Tariff a0))] [] (.d (.bool r)) [] := by
  refine AC.of_code2 Try.func27 rfl rfl (Nat.le_of_ble_eq_true (by rfl)) fun B hB hN => ?_
  delta exchangepointref41_Valid at h
  refine AWp.seq ?_
  refine AWp.region (oc (OpJ.box hB (nm := 1001) (by decide) (by simp) rfl (ltN hN rfl) (ot 0 (.d (e_api_Tariff a0))))
  (oc (OpJ.assign (ltN hN rfl) (Opd.bool false))
  (OpJs.nil))) (by rfl) (by rfl) ?_
  refine seqQ_n ?_
  refine AWp.ghost (mp [] [(1, (.ptr 1001 0 []))] [(1001, some (.box 27 (.d (e_api_Tariff a0))))] hB) ?_
  refine AWp.seq ?_
  refine AWp.region (oc (ov (.ptr 1001 0 [0]) (fp hN Try.underlying27 0 tyS3 (.box 27 (.d (e_api_Tariff a0))) (ot 1 (.ptr 1001 0 []))))
  (oc (lb hN 27 (.d (e_api_Tariff a0)) (i6 a0.fBase) tyS3 (ad (.int .i64 a0.fBase)) (ot 3 (.ptr 1001 0 [0])))
  (oc (OpJ.geq (ltN hN rfl) (ot 4 (i6 a0.fBase)) (Opd.int .i64 (0)))
  (oc (mv hN (ot 5 (bo (decide ((0 : Int) ≤ a0.fBase)))))
  (oc (op hN (.ptr 1001 0 [0]) (ov (.ptr 1001 0 [0]) (fp hN Try.underlying27 0 tyS3 (.box 27 (.d (e_api_Tariff a0))) (ot 1 (.ptr 1001 0 [])))) (OptL.keep rfl OptL.nil) (GuardV.plain _))
  (oc (op hN (i6 a0.fBase) (lb hN 27 (.d (e_api_Tariff a0)) (i6 a0.fBase) tyS3 (ad (.int .i64 a0.fBase)) (ot 7 (.ptr 1001 0 [0]))) (OptL.opt OptL.nil) (GuardV.plain _))
  (oc (op hN (bo (decide (a0.fBase ≤ (1099511627776 : Int)))) (OpJ.leq (ltN hN rfl) (ot 8 (i6 a0.fBase)) (Opd.int .i64 (1099511627776))) (OptL.opt OptL.nil) (GuardV.plain _))
  (oc (OpJ.pickAnd rfl (ltN hN rfl) (ot 6 (bo (decide ((0 : Int) ≤ a0.fBase)))) (ot 9 (.opt ((decide ((0 : Int) ≤ a0.fBase)) == true) (bo (decide (a0.fBase ≤ (1099511627776 : Int)))))))
  (oc (mv hN (ot 10 (bo ((decide ((0 : Int) ≤ a0.fBase)) && (decide (a0.fBase ≤ (1099511627776 : Int)))))))
  (oc (op hN (.ptr 1001 1 [1]) (ov (.ptr 1001 1 [1]) (fp hN Try.underlying27 1 tyS3 (.box 27 (.d (e_api_Tariff a0))) (ot 1 (.ptr 1001 0 [])))) (OptL.keep rfl OptL.nil) (GuardV.plain _))
  (oc (op hN (i6 a0.fIncluded) (lb hN 27 (.d (e_api_Tariff a0)) (i6 a0.fIncluded) tyS3 (ad (.int .i64 a0.fIncluded)) (ot 12 (.ptr 1001 1 [1]))) (OptL.opt OptL.nil) (GuardV.plain _))
  (oc (op hN (bo (decide ((0 : Int) ≤ a0.fIncluded))) (OpJ.geq (ltN hN rfl) (ot 13 (i6 a0.fIncluded)) (Opd.int .i64 (0))) (OptL.opt OptL.nil) (GuardV.plain _))
  (oc (OpJ.pickAnd rfl (ltN hN rfl) (ot 11 (bo ((decide ((0 : Int) ≤ a0.fBase)) && (decide (a0.fBase ≤ (1099511627776 : Int)))))) (ot 14 (.opt (((decide ((0 : Int) ≤ a0.fBase)) && (decide (a0.fBase ≤ (1099511627776 : Int)))) == true) (bo (decide ((0 : Int) ≤ a0.fIncluded))))))
  (oc (mv hN (ot 15 (bo (((decide ((0 : Int) ≤ a0.fBase)) && (decide (a0.fBase ≤ (1099511627776 : Int)))) && (decide ((0 : Int) ≤ a0.fIncluded))))))
  (oc (op hN (.ptr 1001 1 [1]) (ov (.ptr 1001 1 [1]) (fp hN Try.underlying27 1 tyS3 (.box 27 (.d (e_api_Tariff a0))) (ot 1 (.ptr 1001 0 [])))) (OptL.keep rfl OptL.nil) (GuardV.plain _))
  (oc (op hN (i6 a0.fIncluded) (lb hN 27 (.d (e_api_Tariff a0)) (i6 a0.fIncluded) tyS3 (ad (.int .i64 a0.fIncluded)) (ot 17 (.ptr 1001 1 [1]))) (OptL.opt OptL.nil) (GuardV.plain _))
  (oc (op hN (bo (decide (a0.fIncluded ≤ (1048576 : Int)))) (OpJ.leq (ltN hN rfl) (ot 18 (i6 a0.fIncluded)) (Opd.int .i64 (1048576))) (OptL.opt OptL.nil) (GuardV.plain _))
  (oc (OpJ.pickAnd rfl (ltN hN rfl) (ot 16 (bo (((decide ((0 : Int) ≤ a0.fBase)) && (decide (a0.fBase ≤ (1099511627776 : Int)))) && (decide ((0 : Int) ≤ a0.fIncluded))))) (ot 19 (.opt ((((decide ((0 : Int) ≤ a0.fBase)) && (decide (a0.fBase ≤ (1099511627776 : Int)))) && (decide ((0 : Int) ≤ a0.fIncluded))) == true) (bo (decide (a0.fIncluded ≤ (1048576 : Int)))))))
  (oc (mv hN (ot 20 (bo ((((decide ((0 : Int) ≤ a0.fBase)) && (decide (a0.fBase ≤ (1099511627776 : Int)))) && (decide ((0 : Int) ≤ a0.fIncluded))) && (decide (a0.fIncluded ≤ (1048576 : Int)))))))
  (oc (op hN (.ptr 1001 2 [2]) (ov (.ptr 1001 2 [2]) (fp hN Try.underlying27 2 tyS3 (.box 27 (.d (e_api_Tariff a0))) (ot 1 (.ptr 1001 0 [])))) (OptL.keep rfl OptL.nil) (GuardV.plain _))
  (oc (op hN (i6 a0.fRate) (lb hN 27 (.d (e_api_Tariff a0)) (i6 a0.fRate) tyS3 (ad (.int .i64 a0.fRate)) (ot 22 (.ptr 1001 2 [2]))) (OptL.opt OptL.nil) (GuardV.plain _))
  (oc (op hN (bo (decide ((0 : Int) ≤ a0.fRate))) (OpJ.geq (ltN hN rfl) (ot 23 (i6 a0.fRate)) (Opd.int .i64 (0))) (OptL.opt OptL.nil) (GuardV.plain _))
  (oc (OpJ.pickAnd rfl (ltN hN rfl) (ot 21 (bo ((((decide ((0 : Int) ≤ a0.fBase)) && (decide (a0.fBase ≤ (1099511627776 : Int)))) && (decide ((0 : Int) ≤ a0.fIncluded))) && (decide (a0.fIncluded ≤ (1048576 : Int)))))) (ot 24 (.opt (((((decide ((0 : Int) ≤ a0.fBase)) && (decide (a0.fBase ≤ (1099511627776 : Int)))) && (decide ((0 : Int) ≤ a0.fIncluded))) && (decide (a0.fIncluded ≤ (1048576 : Int)))) == true) (bo (decide ((0 : Int) ≤ a0.fRate))))))
  (oc (mv hN (ot 25 (bo (((((decide ((0 : Int) ≤ a0.fBase)) && (decide (a0.fBase ≤ (1099511627776 : Int)))) && (decide ((0 : Int) ≤ a0.fIncluded))) && (decide (a0.fIncluded ≤ (1048576 : Int)))) && (decide ((0 : Int) ≤ a0.fRate))))))
  (oc (op hN (.ptr 1001 2 [2]) (ov (.ptr 1001 2 [2]) (fp hN Try.underlying27 2 tyS3 (.box 27 (.d (e_api_Tariff a0))) (ot 1 (.ptr 1001 0 [])))) (OptL.keep rfl OptL.nil) (GuardV.plain _))
  (oc (op hN (i6 a0.fRate) (lb hN 27 (.d (e_api_Tariff a0)) (i6 a0.fRate) tyS3 (ad (.int .i64 a0.fRate)) (ot 27 (.ptr 1001 2 [2]))) (OptL.opt OptL.nil) (GuardV.plain _))
  (oc (op hN (bo (decide (a0.fRate ≤ (1048576 : Int)))) (OpJ.leq (ltN hN rfl) (ot 28 (i6 a0.fRate)) (Opd.int .i64 (1048576))) (OptL.opt OptL.nil) (GuardV.plain _))
  (oc (OpJ.pickAnd rfl (ltN hN rfl) (ot 26 (bo (((((decide ((0 : Int) ≤ a0.fBase)) && (decide (a0.fBase ≤ (1099511627776 : Int)))) && (decide ((0 : Int) ≤ a0.fIncluded))) && (decide (a0.fIncluded ≤ (1048576 : Int)))) && (decide ((0 : Int) ≤ a0.fRate))))) (ot 29 (.opt ((((((decide ((0 : Int) ≤ a0.fBase)) && (decide (a0.fBase ≤ (1099511627776 : Int)))) && (decide ((0 : Int) ≤ a0.fIncluded))) && (decide (a0.fIncluded ≤ (1048576 : Int)))) && (decide ((0 : Int) ≤ a0.fRate))) == true) (bo (decide (a0.fRate ≤ (1048576 : Int)))))))
  (oc (OpJ.assign (ltN hN rfl) (ot 30 (bo ((((((decide ((0 : Int) ≤ a0.fBase)) && (decide (a0.fBase ≤ (1099511627776 : Int)))) && (decide ((0 : Int) ≤ a0.fIncluded))) && (decide (a0.fIncluded ≤ (1048576 : Int)))) && (decide ((0 : Int) ≤ a0.fRate))) && (decide (a0.fRate ≤ (1048576 : Int)))))))
  (OpJs.nil)))))))))))))))))))))))))))))) (by rfl) (by rfl) ?_
  refine seqQ_n ?_
  refine AWp.ghost (mp [] [(2, (bo ((((((decide ((0 : Int) ≤ a0.fBase)) && (decide (a0.fBase ≤ (1099511627776 : Int)))) && (decide ((0 : Int) ≤ a0.fIncluded))) && (decide (a0.fIncluded ≤ (1048576 : Int)))) && (decide ((0 : Int) ≤ a0.fRate))) && (decide (a0.fRate ≤ (1048576 : Int))))))] [] hB) ?_
  refine AWp.ret ?_
  obtain rfl := Option.some.inj h
  exact ⟨.inl rfl, _, _, (mp [] [(2, (bo ((((((decide ((0 : Int) ≤ a0.fBase)) && (decide (a0.fBase ≤ (1099511627776 : Int)))) && (decide ((0 : Int) ≤ a0.fIncluded))) && (decide (a0.fIncluded ≤ (1048576 : Int)))) && (decide ((0 : Int) ≤ a0.fRate))) && (decide (a0.fRate ≤ (1048576 : Int))))))] [] hB), [(bo ((((((decide ((0 : Int) ≤ a0.fBase)) && (decide (a0.fBase ≤ (1099511627776 : Int)))) && (decide ((0 : Int) ≤ a0.fIncluded))) && (decide (a0.fIncluded ≤ (1048576 : Int)))) && (decide ((0 : Int) ≤ a0.fRate))) && (decide (a0.fRate ≤ (1048576 : Int)))))], (Res.tmp (by rfl) (by rfl) Res.nil), rfl, by rfl, by rfl, by rfl⟩

noncomputable def exchangepointref41_Price (a0 : api_Tariff) (a1 : Int) : Option (Int × Int) :=
  (exchangepointref41_Valid a0).bind fun r1 =>
  (if (!r1) = true then
  some ((0 : Int), (38 : Int))
  else
  (if ((decide (a1 < (0 : Int))) || (decide ((1099511627776 : Int) < a1))) = true then
  some ((0 : Int), (1 : Int))
  else
  (if (decide ((1125899906842624 : Int) < (w64 (a0.fBase + (w64 (a0.fRate * (maxI (0 : Int) (w64 (a1 - a0.fIncluded))))))))) = true then
  some ((0 : Int), (3 : Int))
  else
  some ((w64 (a0.fBase + (w64 (a0.fRate * (maxI (0 : Int) (w64 (a1 - a0.fIncluded))))))), (0 : Int)))))
set_option maxHeartbeats 4000000 in
set_option maxRecDepth 100000 in
theorem exchangepointref41_Price_ac (a0 : api_Tariff) (a1 : Int) (r : Int × Int) (h : exchangepointref41_Price a0 a1 = some r) : AC Try.prog 12 [(.d (e_api_Tariff a0)), (.d (.int .i64 a1))] [] (.tup [(.d (.int .i64 r.1)), (.d (.int .i64 r.2))]) [] := by
  refine AC.of_code2 Try.func12 rfl rfl (Nat.le_of_ble_eq_true (by rfl)) fun B hB hN => ?_
  delta exchangepointref41_Price at h
  refine AWp.seq ?_
  refine AWp.region (oc (OpJ.box hB (nm := 1002) (by decide) (by simp) rfl (ltN hN rfl) (ot 0 (.d (e_api_Tariff a0))))
  (oc (OpJ.assign (ltN hN rfl) (Opd.int .i64 (0)))
  (oc (OpJ.assign (ltN hN rfl) (Opd.int .i64 (0)))
  (OpJs.nil)))) (by rfl) (by rfl) ?_
  refine seqQ_n ?_
  refine AWp.ghost (mp [] [(1, (i6 a1)), (2, (.ptr 1002 0 []))] [(1002, some (.box 27 (.d (e_api_Tariff a0))))] hB) ?_
  refine AWp.seq ?_
  refine AWp.seq ?_
  obtain ⟨r1, hr1, h⟩ := bindS h
  refine AWp.region (oc (lb hN 27 (.d (e_api_Tariff a0)) (.d (e_api_Tariff a0)) tyS27 (At.here _) (ot 2 (.ptr 1002 0 [])))
  (oc (OpJ.callFn hB fnOk27 (exchangepointref41_Valid_ac a0 r1 hr1) [] (by kernel_rfl) (ltN hN rfl) (by kernel_rfl) (OpdL.cons (ot 7 (.d (e_api_Tariff a0))) OpdL.nil))
  (oc (OpJ.not (ltN hN rfl) (ot 8 (bo r1)))
  (OpJs.nil)))) (by rfl) (by rfl) ?_
  refine seqQ_n ?_
  refine AWp.ghost (mp [] [(1, (i6 a1)), (2, (.ptr 1002 0 [])), (9, (bo (!r1)))] [(1002, some (.box 27 (.d (e_api_Tariff a0))))] hB) ?_
  refine AWp.cond (b := (!r1)) (by rfl) (fun hg2 => ?_) (fun hg2 => ?_)
  · replace h := ite_t hg2 h
    refine AWp.seq ?_
    refine AWp.region (oc (OpJ.assign (ltN hN rfl) (Opd.int .i64 (0)))
      (oc (OpJ.assign (ltN hN rfl) (Opd.int .i64 (38)))
      (OpJs.nil))) (by rfl) (by rfl) ?_
    refine seqQ_n ?_
    refine AWp.ghost (mp [] [(4, (i6 0)), (5, (i6 (38 : Int)))] [] hB) ?_
    refine AWp.ret ?_
    refine seqQ_r ?_
    obtain rfl := Option.some.inj h
    exact ⟨.inl rfl, _, _, (mp [] [(4, (i6 0)), (5, (i6 (38 : Int)))] [] hB), [(i6 0), (i6 (38 : Int))], (Res.tmp (by rfl) (by rfl) (Res.tmp (by rfl) (by rfl) Res.nil)), rfl, by rfl, by rfl, by rfl⟩
  · replace h := ite_f hg2 h
    refine AWp.skip ?_
    refine seqQ_n ?_
    refine AWp.seq ?_
    refine AWp.seq ?_
    refine AWp.region (oc (mv hN (ot 1 (i6 a1)))
      (oc (OpJ.lss (ltN hN rfl) (ot 10 (i6 a1)) (Opd.int .i64 (0)))
      (oc (mv hN (ot 11 (bo (decide (a1 < (0 : Int))))))
      (oc (op hN (i6 a1) (mv hN (ot 1 (i6 a1))) (OptL.keep rfl OptL.nil) (GuardV.plain _))
      (oc (op hN (bo (decide ((1099511627776 : Int) < a1))) (OpJ.gtr (ltN hN rfl) (ot 13 (i6 a1)) (Opd.int .i64 (1099511627776))) (OptL.opt OptL.nil) (GuardV.plain _))
      (oc (OpJ.pickOr rfl (ltN hN rfl) (ot 12 (bo (decide (a1 < (0 : Int))))) (ot 14 (.opt ((decide (a1 < (0 : Int))) == false) (bo (decide ((1099511627776 : Int) < a1))))))
      (OpJs.nil))))))) (by rfl) (by rfl) ?_
    refine seqQ_n ?_
    refine AWp.ghost (mp [] [(1, (i6 a1)), (2, (.ptr 1002 0 [])), (15, (bo ((decide (a1 < (0 : Int))) || (decide ((1099511627776 : Int) < a1)))))] [(1002, some (.box 27 (.d (e_api_Tariff a0))))] hB) ?_
    refine AWp.cond (b := ((decide (a1 < (0 : Int))) || (decide ((1099511627776 : Int) < a1)))) (by rfl) (fun hg3 => ?_) (fun hg3 => ?_)
    · replace h := ite_t hg3 h
      refine AWp.seq ?_
      refine AWp.region (oc (OpJ.assign (ltN hN rfl) (Opd.int .i64 (0)))
        (oc (OpJ.assign (ltN hN rfl) (Opd.int .i64 (1)))
        (OpJs.nil))) (by rfl) (by rfl) ?_
      refine seqQ_n ?_
      refine AWp.ghost (mp [] [(4, (i6 0)), (5, (i6 1))] [] hB) ?_
      refine AWp.ret ?_
      refine seqQ_r ?_
      obtain rfl := Option.some.inj h
      exact ⟨.inl rfl, _, _, (mp [] [(4, (i6 0)), (5, (i6 1))] [] hB), [(i6 0), (i6 1)], (Res.tmp (by rfl) (by rfl) (Res.tmp (by rfl) (by rfl) Res.nil)), rfl, by rfl, by rfl, by rfl⟩
    · replace h := ite_f hg3 h
      refine AWp.skip ?_
      refine seqQ_n ?_
      refine AWp.seq ?_
      refine AWp.region (oc (ov (.ptr 1002 0 [0]) (fp hN Try.underlying27 0 tyS3 (.box 27 (.d (e_api_Tariff a0))) (ot 2 (.ptr 1002 0 []))))
        (oc (lb hN 27 (.d (e_api_Tariff a0)) (i6 a0.fBase) tyS3 (ad (.int .i64 a0.fBase)) (ot 16 (.ptr 1002 0 [0])))
        (oc (ov (.ptr 1002 2 [2]) (fp hN Try.underlying27 2 tyS3 (.box 27 (.d (e_api_Tariff a0))) (ot 2 (.ptr 1002 0 []))))
        (oc (lb hN 27 (.d (e_api_Tariff a0)) (i6 a0.fRate) tyS3 (ad (.int .i64 a0.fRate)) (ot 18 (.ptr 1002 2 [2])))
        (oc (mv hN (ot 1 (i6 a1)))
        (oc (ov (.ptr 1002 1 [1]) (fp hN Try.underlying27 1 tyS3 (.box 27 (.d (e_api_Tariff a0))) (ot 2 (.ptr 1002 0 []))))
        (oc (lb hN 27 (.d (e_api_Tariff a0)) (i6 a0.fIncluded) tyS3 (ad (.int .i64 a0.fIncluded)) (ot 21 (.ptr 1002 1 [1])))
        (oc (OpJ.sub (ltN hN rfl) (ot 20 (i6 a1)) (ot 22 (i6 a0.fIncluded)))
        (oc (OpJ.max (ltN hN rfl) (Opd.int .i64 (0)) (ot 23 (i6 (w64 (a1 - a0.fIncluded)))))
        (oc (OpJ.mul (ltN hN rfl) (ot 19 (i6 a0.fRate)) (ot 24 (i6 (maxI (0 : Int) (w64 (a1 - a0.fIncluded))))))
        (oc (OpJ.add (ltN hN rfl) (ot 17 (i6 a0.fBase)) (ot 25 (i6 (w64 (a0.fRate * (maxI (0 : Int) (w64 (a1 - a0.fIncluded))))))))
        (oc (OpJ.assign (ltN hN rfl) (ot 26 (i6 (w64 (a0.fBase + (w64 (a0.fRate * (maxI (0 : Int) (w64 (a1 - a0.fIncluded))))))))))
        (OpJs.nil))))))))))))) (by rfl) (by rfl) ?_
      refine seqQ_n ?_
      refine AWp.ghost (mp [] [(6, (i6 (w64 (a0.fBase + (w64 (a0.fRate * (maxI (0 : Int) (w64 (a1 - a0.fIncluded)))))))))] [] hB) ?_
      refine AWp.seq ?_
      refine AWp.seq ?_
      refine AWp.region (oc (mv hN (ot 6 (i6 (w64 (a0.fBase + (w64 (a0.fRate * (maxI (0 : Int) (w64 (a1 - a0.fIncluded))))))))))
        (oc (OpJ.gtr (ltN hN rfl) (ot 27 (i6 (w64 (a0.fBase + (w64 (a0.fRate * (maxI (0 : Int) (w64 (a1 - a0.fIncluded))))))))) (Opd.int .i64 (1125899906842624)))
        (OpJs.nil))) (by rfl) (by rfl) ?_
      refine seqQ_n ?_
      refine AWp.ghost (mp [] [(6, (i6 (w64 (a0.fBase + (w64 (a0.fRate * (maxI (0 : Int) (w64 (a1 - a0.fIncluded))))))))), (28, (bo (decide ((1125899906842624 : Int) < (w64 (a0.fBase + (w64 (a0.fRate * (maxI (0 : Int) (w64 (a1 - a0.fIncluded)))))))))))] [] hB) ?_
      refine AWp.cond (b := (decide ((1125899906842624 : Int) < (w64 (a0.fBase + (w64 (a0.fRate * (maxI (0 : Int) (w64 (a1 - a0.fIncluded)))))))))) (by rfl) (fun hg4 => ?_) (fun hg4 => ?_)
      · replace h := ite_t hg4 h
        refine AWp.seq ?_
        refine AWp.region (oc (OpJ.assign (ltN hN rfl) (Opd.int .i64 (0)))
          (oc (OpJ.assign (ltN hN rfl) (Opd.int .i64 (3)))
          (OpJs.nil))) (by rfl) (by rfl) ?_
        refine seqQ_n ?_
        refine AWp.ghost (mp [] [(4, (i6 0)), (5, (i6 (3 : Int)))] [] hB) ?_
        refine AWp.ret ?_
        refine seqQ_r ?_
        obtain rfl := Option.some.inj h
        exact ⟨.inl rfl, _, _, (mp [] [(4, (i6 0)), (5, (i6 (3 : Int)))] [] hB), [(i6 0), (i6 (3 : Int))], (Res.tmp (by rfl) (by rfl) (Res.tmp (by rfl) (by rfl) Res.nil)), rfl, by rfl, by rfl, by rfl⟩
      · replace h := ite_f hg4 h
        refine AWp.skip ?_
        refine seqQ_n ?_
        refine AWp.seq ?_
        refine AWp.region (oc (mv hN (ot 6 (i6 (w64 (a0.fBase + (w64 (a0.fRate * (maxI (0 : Int) (w64 (a1 - a0.fIncluded))))))))))
          (oc (OpJ.assign (ltN hN rfl) (ot 29 (i6 (w64 (a0.fBase + (w64 (a0.fRate * (maxI (0 : Int) (w64 (a1 - a0.fIncluded))))))))))
          (oc (OpJ.assign (ltN hN rfl) (Opd.int .i64 (0)))
          (OpJs.nil)))) (by rfl) (by rfl) ?_
        refine seqQ_n ?_
        refine AWp.ghost (mp [] [(4, (i6 (w64 (a0.fBase + (w64 (a0.fRate * (maxI (0 : Int) (w64 (a1 - a0.fIncluded))))))))), (5, (i6 0))] [] hB) ?_
        refine AWp.ret ?_
        obtain rfl := Option.some.inj h
        exact ⟨.inl rfl, _, _, (mp [] [(4, (i6 (w64 (a0.fBase + (w64 (a0.fRate * (maxI (0 : Int) (w64 (a1 - a0.fIncluded))))))))), (5, (i6 0))] [] hB), [(i6 (w64 (a0.fBase + (w64 (a0.fRate * (maxI (0 : Int) (w64 (a1 - a0.fIncluded)))))))), (i6 0)], (Res.tmp (by rfl) (by rfl) (Res.tmp (by rfl) (by rfl) Res.nil)), rfl, by rfl, by rfl, by rfl⟩


end Go.Proofs.Ytimcphncaffenaa
