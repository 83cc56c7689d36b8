/- Printed by gen.py: the Go functions as plain functions, and that the code does what they say. -/
import Derived.Test.YtimcphncaffenaaChecked
import Derived.Test.YtimcphncaffenaaVcYB
import Derived.Test.YtimcphncaffenaaVcZ
import Derived.KernelRfl
import Derived.Test.YtimcphncaffenaaFnsA
import Derived.Test.YtimcphncaffenaaExt
import Derived.Test.YtimcphncaffenaaVcV
import Derived.Test.YtimcphncaffenaaVcQ
namespace Go.Proofs.Ytimcphncaffenaa
open Go Go.Vc
noncomputable def exchangepointmill_Deck_Member_L0 (s1 : Int × (List api_Port) × exchangepointmill_Deck) : Option (((exchangepointmill_Deck × (List api_Port))) ⊕ (Int × (List api_Port) × exchangepointmill_Deck)) :=
  (exchangepointmill_Deck_Next s1.2.2 (3 : Int)).bind fun r11 =>
  (if (decide (s1.1 < (w64 ((1 : Int) + r11.1)))) = true then
  (exchangepointmill_Deck_Next r11.2 (3 : Int)).bind fun r13 =>
  chk (decide ((s1.2.1 ++ ([(api_Port.mk (w64 ((w64 ((w64 ((3 : Int) * s1.1)) + (1 : Int))) + r13.1)) (0 : Int) (0 : Int) ([] : List (List Int)) (api_Addr.mk false (0 : Int) (0 : Int)) (api_Addr.mk false (0 : Int) (0 : Int)))] : List api_Port)).length ≤ LIM)) <|
  some (.inr ((w64 (s1.1 + (1 : Int))), (s1.2.1 ++ ([(api_Port.mk (w64 ((w64 ((w64 ((3 : Int) * s1.1)) + (1 : Int))) + r13.1)) (0 : Int) (0 : Int) ([] : List (List Int)) (api_Addr.mk false (0 : Int) (0 : Int)) (api_Addr.mk false (0 : Int) (0 : Int)))] : List api_Port)), r13.2))
  else
  some (.inl (r11.2, s1.2.1)))
noncomputable def exchangepointmill_Deck_Member (a0 : exchangepointmill_Deck) (a1 : Int) : Option (api_Member × exchangepointmill_Deck) :=
  (loop (exchangepointmill_Deck_Member_L0) ((0 : Int), ([] : List api_Port), a0)).bind fun p10 =>
  some ((api_Member.mk a1 ([109] : List UInt8) ([] : List UInt8) (0 : Int) (0 : Int) p10.2), p10.1)
set_option maxHeartbeats 4000000 in
set_option maxRecDepth 100000 in
theorem exchangepointmill_Deck_Member_ac (a0 : exchangepointmill_Deck) (a1 : Int) (r : api_Member × exchangepointmill_Deck) (h : exchangepointmill_Deck_Member a0 a1 = some r) : AC Try.prog 22 [(.ptr 0 0 []), (.d (.int .i64 a1))] [(0, (.box 72 (.d (e_exchangepointmill_Deck a0))))] (.d (e_api_Member r.1)) [(0, some (.box 72 (.d (e_exchangepointmill_Deck r.2))))] := by
  refine AC.of_code2 Try.func22 rfl rfl (Nat.le_of_ble_eq_true (by rfl)) fun B hB hN => ?_
  have L {d : Nat} (h : Nat.blt d Try.f22.ntmps = true) : d < B.N := ltN hN h
  delta exchangepointmill_Deck_Member at h
  refine sr (cg (OpJ.alloc hB tyZ24 (nm := 1004) (by decide) (L rfl)) rfl cn) ?_
  refine gh [(0, _), (1, _), (4, _)] [(0, some _), (1004, some _)] hB rfl rfl (by rfl) ?_
  refine sr (c (mv hN (q 1)) rfl (c (OpJ.build (places := [(0, 1), (1, 1), (2, 1), (3, 1), (4, 1), (5, 1)]) ⟨Try.underlying24, fun w => by kernel_rfl⟩ tyZS24 (Opds.cons (q 7) (Opds.cons (Opd.str ([109] : List UInt8) _ rfl) Opds.nil)) (by kernel_rfl) (r := (.st [(i6 a1), (.d (.str ([109] : List UInt8))), (.d (.str ([] : List UInt8))), (i6 0), (i6 0), .nils])) (by rfl) (L rfl)) rfl (cg (OpJ.alloc hB tyZ24 (nm := 1005) (by decide) (L rfl)) rfl (cg (OpJ.storeB tyS24 (SetAt.here _ _) (by rfl) (by rfl) (by simp) rfl (q 5) (q 8)) rfl cn)))) ?_
  refine gh [(0, _), (4, _), (5, _)] [(0, some _), (1004, some _), (1005, some _)] hB rfl rfl (by rfl) ?_
  refine AWp.seq ?_
  refine sr (c (OpJ.assign (L rfl) (Opd.int .i64 (0))) rfl cn) ?_
  refine gh [(0, _), (4, _), (5, _), (6, _)] [(0, some _), (1004, some _), (1005, some _)] hB rfl rfl (by rfl) ?_
  refine AWp.block ?_
  obtain ⟨p10, hx16, h⟩ := bindS h
  refine lg (exchangepointmill_Deck_Member_L0) (fun s1 : Int × (List api_Port) × exchangepointmill_Deck => ([(0, (.ptr 0 0 [])), (4, (.ptr 1004 0 [])), (5, (.ptr 1005 0 [])), (6, (i6 s1.1))] : EL)) (fun s1 : Int × (List api_Port) × exchangepointmill_Deck => ([(0, some (.box 72 (.d (e_exchangepointmill_Deck s1.2.2)))), (1004, some (.box 24 (.st [(i6 0), (.d (.str ([] : List UInt8))), (.d (.str ([] : List UInt8))), (i6 0), (i6 0), .nils]))), (1005, some (.box 24 (.st [(i6 a1), (.d (.str ([109] : List UInt8))), (.d (.str ([] : List UInt8))), (i6 0), (i6 0), (.sref 13055 10 0 s1.2.1.length)]))), (13055, some (we_api_Port_68_10 s1.2.1))] : OL)) (fun (p10 : (exchangepointmill_Deck × (List api_Port))) e E' O' => e = .exit 0 ∧ Mat B E' O' ([(4, (.ptr 1004 0 [])), (5, (.ptr 1005 0 []))] : EL) ([(0, some (.box 72 (.d (e_exchangepointmill_Deck p10.1)))), (1004, some (.box 24 (.st [(i6 0), (.d (.str ([] : List UInt8))), (.d (.str ([] : List UInt8))), (i6 0), (i6 0), .nils]))), (1005, some (.box 24 (.st [(i6 a1), (.d (.str ([109] : List UInt8))), (.d (.str ([] : List UInt8))), (i6 0), (i6 0), (.sref 13055 10 0 p10.2.length)]))), (13055, some (we_api_Port_68_10 p10.2))] : OL)) hx16 (Mat.trans (Mat.beginP (n := 13055) (e := 68) (sz := 10) (Ts := []) (Bs := [(1005, some (.box 24 (.st [(i6 a1), (.d (.str ([109] : List UInt8))), (.d (.str ([] : List UInt8))), (i6 0), (i6 0), (.sref 13055 10 0 0)])))]) hB (by decide) (by rfl) (by decide) TwT.nil (TwB.cons (x := (.st [(i6 a1), (.d (.str ([109] : List UInt8))), (.d (.str ([] : List UInt8))), (i6 0), (i6 0), .nils])) (by rfl) (Tw.st (TwL.cons (Tw.same _) (TwL.cons (Tw.same _) (TwL.cons (Tw.same _) (TwL.cons (Tw.same _) (TwL.cons (Tw.same _) (TwL.cons (Tw.leaf ⟨rfl, rfl⟩) TwL.nil))))))) TwB.nil)) (mp [] _ _ hB)) (fun s1 y h => ?_) (fun e E' O' hR => ?_)
  · unfold exchangepointmill_Deck_Member_L0 at h
    refine AWp.seq ?_
    refine AWp.seq ?_
    obtain ⟨r11, hr11, h⟩ := bindS h
    refine AWp.region (oc (mv hN (ot 6 (i6 s1.1)))
      (oc (mv hN (ot 0 (.ptr 0 0 [])))
      (oc (OpJ.callFn hB fnOk17 (exchangepointmill_Deck_Next_ac s1.2.2 (3 : Int) r11 hr11) [(0, 0)] (by kernel_rfl) (L rfl) (by kernel_rfl) (OpdL.cons (ot 10 (.ptr 0 0 [])) (OpdL.cons (Opd.int .i64 (3)) OpdL.nil)))
      (oc (add6 (L rfl) (Opd.int .i64 (1)) (ot 11 (i6 r11.1)))
      (oc (OpJ.lss (L rfl) (ot 9 (i6 s1.1)) (ot 12 (i6 (w64 ((1 : Int) + r11.1)))))
      (OpJs.nil)))))) (by rfl) (by rfl) ?_
    refine seqQ_n ?_
    refine AWp.ghost (mp [] [(0, (.ptr 0 0 [])), (4, (.ptr 1004 0 [])), (5, (.ptr 1005 0 [])), (6, (i6 s1.1)), (13, (bo (decide (s1.1 < (w64 ((1 : Int) + r11.1))))))] [(0, some (.box 72 (.d (e_exchangepointmill_Deck r11.2)))), (1004, some (.box 24 (.st [(i6 0), (.d (.str ([] : List UInt8))), (.d (.str ([] : List UInt8))), (i6 0), (i6 0), .nils]))), (1005, some (.box 24 (.st [(i6 a1), (.d (.str ([109] : List UInt8))), (.d (.str ([] : List UInt8))), (i6 0), (i6 0), (.sref 13055 10 0 s1.2.1.length)]))), (13055, some (we_api_Port_68_10 s1.2.1))] hB) ?_
    refine AWp.cond rfl (fun hg12 => ?_) (fun hg12 => ?_)
    · replace h := ite_t hg12 h
      refine AWp.skip ?_
      refine seqQ_n ?_
      refine AWp.seq ?_
      refine AWp.block ?_
      obtain ⟨r13, hr13, h⟩ := bindS h
      obtain ⟨hc14, h⟩ := chk_some h
      refine AWp.draws (by kernel_rfl) (oc (ov (.ptr 1005 5 [5]) (fp hN Try.underlying24 5 tyS22 (.box 24 (.st [(i6 a1), (.d (.str ([109] : List UInt8))), (.d (.str ([] : List UInt8))), (i6 0), (i6 0), (.sref 13055 10 0 s1.2.1.length)])) (ot 5 (.ptr 1005 0 []))))
        (oc (lb hN 24 (.st [(i6 a1), (.d (.str ([109] : List UInt8))), (.d (.str ([] : List UInt8))), (i6 0), (i6 0), (.sref 13055 10 0 s1.2.1.length)]) (.sref 13055 10 0 s1.2.1.length) tyS22 (At.st1 (f := (.sref 13055 10 0 s1.2.1.length)) (by rfl) (by rfl) (At.here _) (by first | rfl | omega)) (ot 16 (.ptr 1005 5 [5])))
        (oc (mv hN (ot 6 (i6 s1.1)))
        (oc (mul6 (L rfl) (Opd.int .i64 (3)) (ot 18 (i6 s1.1)))
        (oc (add6 (L rfl) (ot 19 (i6 (w64 ((3 : Int) * s1.1)))) (Opd.int .i64 (1)))
        (oc (mv hN (ot 0 (.ptr 0 0 [])))
        (oc (OpJ.callFn hB fnOk17 (exchangepointmill_Deck_Next_ac r11.2 (3 : Int) r13 hr13) [(0, 0)] (by kernel_rfl) (L rfl) (by kernel_rfl) (OpdL.cons (ot 21 (.ptr 0 0 [])) (OpdL.cons (Opd.int .i64 (3)) OpdL.nil)))
        (oc (add6 (L rfl) (ot 20 (i6 (w64 ((w64 ((3 : Int) * s1.1)) + (1 : Int))))) (ot 22 (i6 r13.1)))
        (oc (OpJ.build (places := [(0, 1), (1, 1), (2, 1), (3, 1), (4, 3), (7, 3)]) ⟨Try.underlying68, fun w => by kernel_rfl⟩ tyZS68 (Opds.cons (ot 23 (i6 (w64 ((w64 ((w64 ((3 : Int) * s1.1)) + (1 : Int))) + r13.1)))) Opds.nil) (by kernel_rfl) (r := (.st [(i6 (w64 ((w64 ((w64 ((3 : Int) * s1.1)) + (1 : Int))) + r13.1))), (i6 0), (i6 0), .nils, (.d (.st [(.bool false), (.int .u64 0), (.int .u64 0)])), (.d (.st [(.bool false), (.int .u64 0), (.int .u64 0)]))])) (by rfl) (L rfl))
        (oc (OpJ.buildSlice Try.underlying22 tyS68 tyZD68 (by rfl) (by decide) (by decide) (Opds.cons (Opd.co (Co.st (CoL.cons (Co.d _) (CoL.cons (Co.d _) (CoL.cons (Co.d _) (CoL.cons (Co.nils 6) (CoL.cons (Co.d _) (CoL.cons (Co.d _) CoL.nil))))))) (ot 24 (.st [(i6 (w64 ((w64 ((w64 ((3 : Int) * s1.1)) + (1 : Int))) + r13.1))), (i6 0), (i6 0), .nils, (.d (.st [(.bool false), (.int .u64 0), (.int .u64 0)])), (.d (.st [(.bool false), (.int .u64 0), (.int .u64 0)]))]))) Opds.nil) (by kernel_rfl) (es := ([(.st [(.int .i64 (w64 ((w64 ((w64 ((3 : Int) * s1.1)) + (1 : Int))) + r13.1))), (.int .i64 0), (.int .i64 0), (.list 6 (([] : List (List Int)).map e_A6eIu8)), (.st [(.bool false), (.int .u64 0), (.int .u64 0)]), (.st [(.bool false), (.int .u64 0), (.int .u64 0)])])] : List D)) (by rfl) (by rfl) (by kernel_rfl) (by simp) (L rfl))
        (oc (OpJ.append hB Try.underlying22 tyE68 (nm := 1026) (by decide) (es := s1.2.1.map e_api_Port) (ys := ([(api_Port.mk (w64 ((w64 ((w64 ((3 : Int) * s1.1)) + (1 : Int))) + r13.1)) (0 : Int) (0 : Int) ([] : List (List Int)) (api_Addr.mk false (0 : Int) (0 : Int)) (api_Addr.mk false (0 : Int) (0 : Int)))] : List api_Port).map e_api_Port) (es' := (s1.2.1 ++ ([(api_Port.mk (w64 ((w64 ((w64 ((3 : Int) * s1.1)) + (1 : Int))) + r13.1)) (0 : Int) (0 : Int) ([] : List (List Int)) (api_Addr.mk false (0 : Int) (0 : Int)) (api_Addr.mk false (0 : Int) (0 : Int)))] : List api_Port)).map e_api_Port) (len := (s1.2.1 ++ ([(api_Port.mk (w64 ((w64 ((w64 ((3 : Int) * s1.1)) + (1 : Int))) + r13.1)) (0 : Int) (0 : Int) ([] : List (List Int)) (api_Addr.mk false (0 : Int) (0 : Int)) (api_Addr.mk false (0 : Int) (0 : Int)))] : List api_Port)).length) (by simp) (by simp) (map_sz (f := e_api_Port) (fun _ => rfl)) (by rw [List.length_map]; exact lim_mulN hc14 (by decide)) (by rw [List.length_map]; exact lim_leN hc14) (L rfl) (by simp) (ot 17 (.sref 13055 10 0 s1.2.1.length)) (ot 25 (qe_api_Port_10 ([(api_Port.mk (w64 ((w64 ((w64 ((3 : Int) * s1.1)) + (1 : Int))) + r13.1)) (0 : Int) (0 : Int) ([] : List (List Int)) (api_Addr.mk false (0 : Int) (0 : Int)) (api_Addr.mk false (0 : Int) (0 : Int)))] : List api_Port))))
        (oc (ov (.ptr 1005 5 [5]) (fp hN Try.underlying24 5 tyS22 (.box 24 (.st [(i6 a1), (.d (.str ([109] : List UInt8))), (.d (.str ([] : List UInt8))), (i6 0), (i6 0), (.sref 13055 10 0 s1.2.1.length)])) (ot 5 (.ptr 1005 0 []))))
        (oc (OpJ.storeB (bt := 24) (c := (.st [(i6 a1), (.d (.str ([109] : List UInt8))), (.d (.str ([] : List UInt8))), (i6 0), (i6 0), (.sref 13055 10 0 s1.2.1.length)])) (v := (.sref 1026 10 0 ((s1.2.1 ++ ([(api_Port.mk (w64 ((w64 ((w64 ((3 : Int) * s1.1)) + (1 : Int))) + r13.1)) (0 : Int) (0 : Int) ([] : List (List Int)) (api_Addr.mk false (0 : Int) (0 : Int)) (api_Addr.mk false (0 : Int) (0 : Int)))] : List api_Port)).length))) (c' := (.st [(i6 a1), (.d (.str ([109] : List UInt8))), (.d (.str ([] : List UInt8))), (i6 0), (i6 0), (.sref 1026 10 0 ((s1.2.1 ++ ([(api_Port.mk (w64 ((w64 ((w64 ((3 : Int) * s1.1)) + (1 : Int))) + r13.1)) (0 : Int) (0 : Int) ([] : List (List Int)) (api_Addr.mk false (0 : Int) (0 : Int)) (api_Addr.mk false (0 : Int) (0 : Int)))] : List api_Port)).length))])) tyS22 (SetAt.st1 (f := (.sref 13055 10 0 s1.2.1.length)) (by rfl) (by rfl) (SetAt.here _ _) (by rfl) (by rfl) (by first | rfl | omega)) (by rfl) (by rfl) (by simp) rfl (ot 27 (.ptr 1005 5 [5])) (ot 26 (.sref 1026 10 0 ((s1.2.1 ++ ([(api_Port.mk (w64 ((w64 ((w64 ((3 : Int) * s1.1)) + (1 : Int))) + r13.1)) (0 : Int) (0 : Int) ([] : List (List Int)) (api_Addr.mk false (0 : Int) (0 : Int)) (api_Addr.mk false (0 : Int) (0 : Int)))] : List api_Port)).length))))
        (OpJs.nil)))))))))))))) (by kernel_rfl) (by rfl) (by rfl) ?_
      refine blkQ_n ?_
      refine seqQ_n ?_
      refine AWp.ghost (mp [] [(0, (.ptr 0 0 [])), (4, (.ptr 1004 0 [])), (5, (.ptr 1005 0 [])), (6, (i6 s1.1))] [(0, some (.box 72 (.d (e_exchangepointmill_Deck r13.2)))), (1004, some (.box 24 (.st [(i6 0), (.d (.str ([] : List UInt8))), (.d (.str ([] : List UInt8))), (i6 0), (i6 0), .nils]))), (1005, some (.box 24 (.st [(i6 a1), (.d (.str ([109] : List UInt8))), (.d (.str ([] : List UInt8))), (i6 0), (i6 0), (.sref 1026 10 0 ((s1.2.1 ++ ([(api_Port.mk (w64 ((w64 ((w64 ((3 : Int) * s1.1)) + (1 : Int))) + r13.1)) (0 : Int) (0 : Int) ([] : List (List Int)) (api_Addr.mk false (0 : Int) (0 : Int)) (api_Addr.mk false (0 : Int) (0 : Int)))] : List api_Port)).length))]))), (1026, some (we_api_Port_68_10 (s1.2.1 ++ ([(api_Port.mk (w64 ((w64 ((w64 ((3 : Int) * s1.1)) + (1 : Int))) + r13.1)) (0 : Int) (0 : Int) ([] : List (List Int)) (api_Addr.mk false (0 : Int) (0 : Int)) (api_Addr.mk false (0 : Int) (0 : Int)))] : List api_Port))))] hB) ?_
      refine rg (c (mv hN (q 6)) rfl (c (add6 (L rfl) (q 14) (Opd.int .i64 (1))) rfl (c (OpJ.assign (L rfl) (q 15)) rfl cn))) ?_
      obtain rfl := Option.some.inj h
      exact ⟨rfl, (Mat.trans (mp [] [(0, (.ptr 0 0 [])), (4, (.ptr 1004 0 [])), (5, (.ptr 1005 0 [])), (6, (i6 (w64 (s1.1 + (1 : Int)))))] [(0, some (.box 72 (.d (e_exchangepointmill_Deck r13.2)))), (1004, some (.box 24 (.st [(i6 0), (.d (.str ([] : List UInt8))), (.d (.str ([] : List UInt8))), (i6 0), (i6 0), .nils]))), (1005, some (.box 24 (.st [(i6 a1), (.d (.str ([109] : List UInt8))), (.d (.str ([] : List UInt8))), (i6 0), (i6 0), (.sref 1026 10 0 ((s1.2.1 ++ ([(api_Port.mk (w64 ((w64 ((w64 ((3 : Int) * s1.1)) + (1 : Int))) + r13.1)) (0 : Int) (0 : Int) ([] : List (List Int)) (api_Addr.mk false (0 : Int) (0 : Int)) (api_Addr.mk false (0 : Int) (0 : Int)))] : List api_Port)).length))]))), (1026, some (we_api_Port_68_10 (s1.2.1 ++ ([(api_Port.mk (w64 ((w64 ((w64 ((3 : Int) * s1.1)) + (1 : Int))) + r13.1)) (0 : Int) (0 : Int) ([] : List (List Int)) (api_Addr.mk false (0 : Int) (0 : Int)) (api_Addr.mk false (0 : Int) (0 : Int)))] : List api_Port))))] hB) (mp [(13055, 1026)] _ _ hB))⟩
    · replace h := ite_f hg12 h
      refine AWp.exit ?_
      refine seqQ_e ?_
      obtain rfl := Option.some.inj h
      exact ⟨(fun hc => by cases hc), rfl, (mp [] _ _ hB)⟩
  · obtain ⟨rfl, hmat⟩ := hR
    refine blkQ_hit ?_
    refine seqQ_n ?_
    refine AWp.ghost hmat ?_
    refine sr (c (lb hN 24 _ _ tyS24 (At.here _) (q 5)) rfl (cg (OpJ.storeB tyS24 (SetAt.here _ _) (by rfl) (by rfl) (by simp) rfl (q 4) (q 28)) rfl cn)) ?_
    refine gh [(4, _)] [(0, some _), (1004, some _), (13055, some _)] hB rfl rfl (by rfl) ?_
    refine AWp.ret ?_
    obtain rfl := Option.some.inj h
    exact ⟨.inl rfl, _, _, (Mat.trans (Mat.freezeP (n := 13055) (e := 68) (sz := 10) (es := p10.2.map e_api_Port) (Ts := []) (Bs := [(1004, some (.box 24 (.st [(i6 a1), (.d (.str ([109] : List UInt8))), (.d (.str ([] : List UInt8))), (i6 0), (i6 0), (qe_api_Port_10 p10.2)])))]) (by rfl) TwT.nil (TwB.cons (x := (.st [(i6 a1), (.d (.str ([109] : List UInt8))), (.d (.str ([] : List UInt8))), (i6 0), (i6 0), (.sref 13055 10 0 p10.2.length)])) (by rfl) (Tw.st (TwL.cons (Tw.same _) (TwL.cons (Tw.same _) (TwL.cons (Tw.same _) (TwL.cons (Tw.same _) (TwL.cons (Tw.same _) (TwL.cons (FrzL.all (by first | rfl | (simp; done) | (simp; omega))) TwL.nil))))))) TwB.nil)) (Mat.trans (Mat.coeP (Ts := []) (Bs := [(1004, some (.box 24 (.d (.st [(.int .i64 a1), (.str ([109] : List UInt8)), (.str ([] : List UInt8)), (.int .i64 0), (.int .i64 0), (.list 10 (p10.2.map e_api_Port))]))))]) TwT.nil (TwB.cons (x := (.st [(i6 a1), (.d (.str ([109] : List UInt8))), (.d (.str ([] : List UInt8))), (i6 0), (i6 0), (qe_api_Port_10 p10.2)])) (by rfl) (Tw.leaf ⟨_, (Co.st (CoL.cons (Co.d _) (CoL.cons (Co.d _) (CoL.cons (Co.d _) (CoL.cons (Co.d _) (CoL.cons (Co.d _) (CoL.cons (Co.d _) CoL.nil))))))), rfl⟩) TwB.nil)) (mp [] [(4, (.ptr 1004 0 []))] [(0, some (.box 72 (.d (e_exchangepointmill_Deck p10.1)))), (1004, some (.box 24 (.d (.st [(.int .i64 a1), (.str ([109] : List UInt8)), (.str ([] : List UInt8)), (.int .i64 0), (.int .i64 0), (.list 10 (p10.2.map e_api_Port))]))))] hB))), [(.d (.st [(.int .i64 a1), (.str ([109] : List UInt8)), (.str ([] : List UInt8)), (.int .i64 0), (.int .i64 0), (.list 10 (p10.2.map e_api_Port))]))], (Res.cell (c := (.d (.st [(.int .i64 a1), (.str ([109] : List UInt8)), (.str ([] : List UInt8)), (.int .i64 0), (.int .i64 0), (.list 10 (p10.2.map e_api_Port))]))) (by rfl) (by rfl) tyS24 (by rfl) (by rfl) (by rfl) Res.nil), rfl, by rfl, by rfl, by rfl⟩

noncomputable def exchangepointmill_Deck_Tariff (a0 : exchangepointmill_Deck) : Option (api_Tariff × exchangepointmill_Deck) :=
  (exchangepointmill_Deck_Next a0 (100000 : Int)).bind fun r1 =>
  (exchangepointmill_Deck_Next r1.2 (200 : Int)).bind fun r2 =>
  (exchangepointmill_Deck_Next r2.2 (50 : Int)).bind fun r3 =>
  some ((api_Tariff.mk r1.1 r2.1 r3.1), r3.2)
set_option maxHeartbeats 4000000 in
set_option maxRecDepth 100000 in
theorem exchangepointmill_Deck_Tariff_ac (a0 : exchangepointmill_Deck) (r : api_Tariff × exchangepointmill_Deck) (h : exchangepointmill_Deck_Tariff a0 = some r) : AC Try.prog 24 [(.ptr 0 0 [])] [(0, (.box 72 (.d (e_exchangepointmill_Deck a0))))] (.d (e_api_Tariff r.1)) [(0, some (.box 72 (.d (e_exchangepointmill_Deck r.2))))] := by
  refine AC.of_code2 Try.func24 rfl rfl (Nat.le_of_ble_eq_true (by rfl)) fun B hB hN => ?_
  delta exchangepointmill_Deck_Tariff at h
  refine sr (cg (OpJ.alloc hB tyZ27 (nm := 1002) (by decide) (ltN hN rfl)) rfl cn) ?_
  refine gh [(0, _), (2, _)] [(0, some _), (1002, some _)] hB rfl rfl (by rfl) ?_
  refine AWp.seq ?_
  obtain ⟨r1, hr1, h⟩ := bindS h
  obtain ⟨r2, hr2, h⟩ := bindS h
  obtain ⟨r3, hr3, h⟩ := bindS h
  refine AWp.region (oc (mv hN (ot 0 (.ptr 0 0 [])))
  (oc (OpJ.callFn hB fnOk17 (exchangepointmill_Deck_Next_ac a0 (100000 : Int) r1 hr1) [(0, 0)] (by kernel_rfl) (ltN hN rfl) (by kernel_rfl) (OpdL.cons (ot 3 (.ptr 0 0 [])) (OpdL.cons (Opd.int .i64 (100000)) OpdL.nil)))
  (oc (mv hN (ot 0 (.ptr 0 0 [])))
  (oc (OpJ.callFn hB fnOk17 (exchangepointmill_Deck_Next_ac r1.2 (200 : Int) r2 hr2) [(0, 0)] (by kernel_rfl) (ltN hN rfl) (by kernel_rfl) (OpdL.cons (ot 5 (.ptr 0 0 [])) (OpdL.cons (Opd.int .i64 (200)) OpdL.nil)))
  (oc (mv hN (ot 0 (.ptr 0 0 [])))
  (oc (OpJ.callFn hB fnOk17 (exchangepointmill_Deck_Next_ac r2.2 (50 : Int) r3 hr3) [(0, 0)] (by kernel_rfl) (ltN hN rfl) (by kernel_rfl) (OpdL.cons (ot 7 (.ptr 0 0 [])) (OpdL.cons (Opd.int .i64 (50)) OpdL.nil)))
  (oc (OpJ.coe (v := (.st [(i6 r1.1), (i6 r2.1), (i6 r3.1)])) (y := (.st [(.int .i64 r1.1), (.int .i64 r2.1), (.int .i64 r3.1)])) (Co.st (CoL.cons (Co.d _) (CoL.cons (Co.d _) (CoL.cons (Co.d _) CoL.nil)))) rfl (OpJ.build (places := [(0, 1), (1, 1), (2, 1)]) ⟨Try.underlying27, fun w => by kernel_rfl⟩ tyZS27 (Opds.cons (ot 4 (i6 r1.1)) (Opds.cons (ot 6 (i6 r2.1)) (Opds.cons (ot 8 (i6 r3.1)) Opds.nil))) (by kernel_rfl) (r := (.st [(i6 r1.1), (i6 r2.1), (i6 r3.1)])) (by rfl) (ltN hN rfl)))
  (oc (OpJ.storeB (bt := 27) (c := (.d (.st [(.int .i64 0), (.int .i64 0), (.int .i64 0)]))) (v := (.d (.st [(.int .i64 r1.1), (.int .i64 r2.1), (.int .i64 r3.1)]))) (c' := (.d (.st [(.int .i64 r1.1), (.int .i64 r2.1), (.int .i64 r3.1)]))) tyS27 (SetAt.here _ _) (by rfl) (by rfl) (by simp) rfl (ot 2 (.ptr 1002 0 [])) (ot 9 (.d (.st [(.int .i64 r1.1), (.int .i64 r2.1), (.int .i64 r3.1)]))))
  (OpJs.nil))))))))) (by rfl) (by rfl) ?_
  refine seqQ_n ?_
  refine AWp.ghost (mp [] [(2, (.ptr 1002 0 []))] [(0, some (.box 72 (.d (e_exchangepointmill_Deck r3.2)))), (1002, some (.box 27 (.d (.st [(.int .i64 r1.1), (.int .i64 r2.1), (.int .i64 r3.1)]))))] hB) ?_
  refine AWp.ret ?_
  obtain rfl := Option.some.inj h
  exact ⟨.inl rfl, _, _, (kp [(2, _)] [(0, some _), (1002, some _)] hB rfl rfl (by rfl)), [(.d (.st [(.int .i64 r1.1), (.int .i64 r2.1), (.int .i64 r3.1)]))], (Res.cell (c := (.d (.st [(.int .i64 r1.1), (.int .i64 r2.1), (.int .i64 r3.1)]))) (by rfl) (by rfl) tyS27 (by rfl) (by rfl) (by rfl) Res.nil), rfl, by rfl, by rfl, by rfl⟩

noncomputable def exchangepointmill_Deck_Series_L0 (x4 : Int) (s6 : Int × (List Int) × (List Int) × exchangepointmill_Deck) : Option (((exchangepointmill_Deck × (List Int) × (List Int))) ⊕ (Int × (List Int) × (List Int) × exchangepointmill_Deck)) :=
  (if (decide ((0 : Int) < s6.1)) = true then
  (exchangepointmill_Deck_Next s6.2.2.2 x4).bind fun r29 =>
  (exchangepointmill_Deck_Next r29.2 x4).bind fun r30 =>
  (exchangepointmill_Deck_Next r30.2 (6 : Int)).bind fun r31 =>
  jn (fun m33 : Int × Int =>
  chk (decide ((s6.2.2.1 ++ ([m33.1] : List Int)).length ≤ LIM)) <|
  chk (decide ((s6.2.1 ++ ([m33.2] : List Int)).length ≤ LIM)) <|
  some (.inr ((w64 (s6.1 - (1 : Int))), (s6.2.1 ++ ([m33.2] : List Int)), (s6.2.2.1 ++ ([m33.1] : List Int)), r31.2))) (fun j34 =>
  (if (r31.1 == (0 : Int)) = true then
  j34 ((-1 : Int), (-1 : Int))
  else
  j34 (r29.1, r30.1)))
  else
  some (.inl (s6.2.2.2, s6.2.1, s6.2.2.1)))
noncomputable def exchangepointmill_Deck_Series (a0 : exchangepointmill_Deck) (a1 : Int) : Option (api_Series × exchangepointmill_Deck) :=
  (exchangepointmill_Deck_Next a0 (3 : Int)).bind fun r1 =>
  (idx ([(300 : Int), (1 : Int), (60 : Int)] : List Int) r1.1).bind fun x2 =>
  (exchangepointmill_Deck_Next r1.2 (3 : Int)).bind fun r3 =>
  (idx ([(1048576 : Int), (17179869184 : Int), (1125899906842625 : Int)] : List Int) r3.1).bind fun x4 =>
  (exchangepointmill_Deck_Next r3.2 (30 : Int)).bind fun r5 =>
  (loop (exchangepointmill_Deck_Series_L0 x4) (r5.1, ([] : List Int), ([] : List Int), r5.2)).bind fun p27 =>
  some ((api_Series.mk a1 x2 p27.2.2 p27.2.1), p27.1)
set_option maxHeartbeats 4000000 in
set_option maxRecDepth 100000 in
theorem exchangepointmill_Deck_Series_ac (a0 : exchangepointmill_Deck) (a1 : Int) (r : api_Series × exchangepointmill_Deck) (h : exchangepointmill_Deck_Series a0 a1 = some r) : AC Try.prog 25 [(.ptr 0 0 []), (.d (.int .i64 a1))] [(0, (.box 72 (.d (e_exchangepointmill_Deck a0))))] (.d (e_api_Series r.1)) [(0, some (.box 72 (.d (e_exchangepointmill_Deck r.2))))] := by
  refine AC.of_code2 Try.func25 rfl rfl (Nat.le_of_ble_eq_true (by rfl)) fun B hB hN => ?_
  have L {d : Nat} (h : Nat.blt d Try.f25.ntmps = true) : d < B.N := ltN hN h
  delta exchangepointmill_Deck_Series at h
  refine sr (cg (OpJ.alloc hB tyZ31 (nm := 1004) (by decide) (L rfl)) rfl cn) ?_
  refine gh [(0, _), (1, _), (4, _)] [(0, some _), (1004, some _)] hB rfl rfl (by rfl) ?_
  refine AWp.seq ?_
  obtain ⟨r1, hr1, h⟩ := bindS h
  obtain ⟨x2, hx2, h⟩ := bindS h
  refine AWp.region (oc (mv hN (ot 1 (i6 a1)))
  (oc (OpJ.buildSlice Try.underlying28 tyS3 tyZD3 (by rfl) (by decide) (by decide) (Opds.cons (Opd.int .i64 (300)) (Opds.cons (Opd.int .i64 (1)) (Opds.cons (Opd.int .i64 (60)) Opds.nil))) (by kernel_rfl) (es := ([(.int .i64 (300 : Int)), (.int .i64 1), (.int .i64 (60 : Int))] : List D)) (by rfl) (by rfl) (by kernel_rfl) (by simp) (L rfl))
  (oc (mv hN (ot 0 (.ptr 0 0 [])))
  (oc (OpJ.callFn hB fnOk17 (exchangepointmill_Deck_Next_ac a0 (3 : Int) r1 hr1) [(0, 0)] (by kernel_rfl) (L rfl) (by kernel_rfl) (OpdL.cons (ot 12 (.ptr 0 0 [])) (OpdL.cons (Opd.int .i64 (3)) OpdL.nil)))
  (oc (OpJ.indexD (el := (.int .i64 x2)) Try.underlying28 tyS3 (idx_some hx2).1 (get_map (eI .i64) (idx_some hx2).2) (L rfl) (ot 11 (qI_1 ([(300 : Int), (1 : Int), (60 : Int)] : List Int))) (ot 13 (i6 r1.1)))
  (oc (OpJ.loadD tyS3 (by rfl) (by rfl) (L rfl) (ot 14 (.dptr (.int .i64 x2))))
  (oc (OpJ.build (places := [(0, 1), (1, 1), (2, 1), (3, 1)]) ⟨Try.underlying31, fun w => by kernel_rfl⟩ tyZS31 (Opds.cons (ot 10 (i6 a1)) (Opds.cons (ot 15 (i6 x2)) Opds.nil)) (by kernel_rfl) (r := (.st [(i6 a1), (i6 x2), .nils, .nils])) (by rfl) (L rfl))
  (oc (OpJ.alloc hB tyZ31 (nm := 1005) (by decide) (L rfl))
  (oc (OpJ.storeB (bt := 31) (c := (.st [(i6 0), (i6 0), .nils, .nils])) (v := (.st [(i6 a1), (i6 x2), .nils, .nils])) (c' := (.st [(i6 a1), (i6 x2), .nils, .nils])) tyS31 (SetAt.here _ _) (by rfl) (by rfl) (by simp) rfl (ot 5 (.ptr 1005 0 [])) (ot 16 (.st [(i6 a1), (i6 x2), .nils, .nils])))
  (OpJs.nil)))))))))) (by rfl) (by rfl) ?_
  refine seqQ_n ?_
  refine AWp.ghost (mp [] [(0, (.ptr 0 0 [])), (4, (.ptr 1004 0 [])), (5, (.ptr 1005 0 []))] [(0, some (.box 72 (.d (e_exchangepointmill_Deck r1.2)))), (1004, some (.box 31 (.st [(i6 0), (i6 0), .nils, .nils]))), (1005, some (.box 31 (.st [(i6 a1), (i6 x2), .nils, .nils])))] hB) ?_
  refine AWp.seq ?_
  obtain ⟨r3, hr3, h⟩ := bindS h
  obtain ⟨x4, hx4, h⟩ := bindS h
  refine AWp.region (oc (OpJ.buildSlice Try.underlying28 tyS3 tyZD3 (by rfl) (by decide) (by decide) (Opds.cons (Opd.int .i64 (1048576)) (Opds.cons (Opd.int .i64 (17179869184)) (Opds.cons (Opd.int .i64 (1125899906842625)) Opds.nil))) (by kernel_rfl) (es := ([(.int .i64 (1048576 : Int)), (.int .i64 (17179869184 : Int)), (.int .i64 (1125899906842625 : Int))] : List D)) (by rfl) (by rfl) (by kernel_rfl) (by simp) (L rfl))
  (oc (mv hN (ot 0 (.ptr 0 0 [])))
  (oc (OpJ.callFn hB fnOk17 (exchangepointmill_Deck_Next_ac r1.2 (3 : Int) r3 hr3) [(0, 0)] (by kernel_rfl) (L rfl) (by kernel_rfl) (OpdL.cons (ot 18 (.ptr 0 0 [])) (OpdL.cons (Opd.int .i64 (3)) OpdL.nil)))
  (oc (OpJ.indexD (el := (.int .i64 x4)) Try.underlying28 tyS3 (idx_some hx4).1 (get_map (eI .i64) (idx_some hx4).2) (L rfl) (ot 17 (qI_1 ([(1048576 : Int), (17179869184 : Int), (1125899906842625 : Int)] : List Int))) (ot 19 (i6 r3.1)))
  (oc (OpJ.loadD tyS3 (by rfl) (by rfl) (L rfl) (ot 20 (.dptr (.int .i64 x4))))
  (oc (OpJ.assign (L rfl) (ot 21 (i6 x4)))
  (OpJs.nil))))))) (by rfl) (by rfl) ?_
  refine seqQ_n ?_
  refine AWp.ghost (mp [] [(0, (.ptr 0 0 [])), (4, (.ptr 1004 0 [])), (5, (.ptr 1005 0 [])), (6, (i6 x4))] [(0, some (.box 72 (.d (e_exchangepointmill_Deck r3.2)))), (1004, some (.box 31 (.st [(i6 0), (i6 0), .nils, .nils]))), (1005, some (.box 31 (.st [(i6 a1), (i6 x2), .nils, .nils])))] hB) ?_
  refine AWp.seq ?_
  refine AWp.seq ?_
  obtain ⟨r5, hr5, h⟩ := bindS h
  refine AWp.region (oc (mv hN (ot 0 (.ptr 0 0 [])))
  (oc (OpJ.callFn hB fnOk17 (exchangepointmill_Deck_Next_ac r3.2 (30 : Int) r5 hr5) [(0, 0)] (by kernel_rfl) (L rfl) (by kernel_rfl) (OpdL.cons (ot 22 (.ptr 0 0 [])) (OpdL.cons (Opd.int .i64 (30)) OpdL.nil)))
  (oc (OpJ.assign (L rfl) (ot 23 (i6 r5.1)))
  (OpJs.nil)))) (by rfl) (by rfl) ?_
  refine seqQ_n ?_
  refine AWp.ghost (mp [] [(0, (.ptr 0 0 [])), (4, (.ptr 1004 0 [])), (5, (.ptr 1005 0 [])), (6, (i6 x4)), (7, (i6 r5.1))] [(0, some (.box 72 (.d (e_exchangepointmill_Deck r5.2)))), (1004, some (.box 31 (.st [(i6 0), (i6 0), .nils, .nils]))), (1005, some (.box 31 (.st [(i6 a1), (i6 x2), .nils, .nils])))] hB) ?_
  refine AWp.block ?_
  obtain ⟨p27, hx39, h⟩ := bindS h
  refine lg (exchangepointmill_Deck_Series_L0 x4) (fun s6 : Int × (List Int) × (List Int) × exchangepointmill_Deck => ([(0, (.ptr 0 0 [])), (4, (.ptr 1004 0 [])), (5, (.ptr 1005 0 [])), (6, (i6 x4)), (7, (i6 s6.1))] : EL)) (fun s6 : Int × (List Int) × (List Int) × exchangepointmill_Deck => ([(0, some (.box 72 (.d (e_exchangepointmill_Deck s6.2.2.2)))), (1004, some (.box 31 (.st [(i6 0), (i6 0), .nils, .nils]))), (1005, some (.box 31 (.st [(i6 a1), (i6 x2), (.sref 13052 1 0 s6.2.2.1.length), (.sref 13053 1 0 s6.2.1.length)]))), (13052, some (wI_3_1 s6.2.2.1)), (13053, some (wI_3_1 s6.2.1))] : OL)) (fun (p27 : (exchangepointmill_Deck × (List Int) × (List Int))) e E' O' => e = .exit 0 ∧ Mat B E' O' ([(4, (.ptr 1004 0 [])), (5, (.ptr 1005 0 []))] : EL) ([(0, some (.box 72 (.d (e_exchangepointmill_Deck p27.1)))), (1004, some (.box 31 (.st [(i6 0), (i6 0), .nils, .nils]))), (1005, some (.box 31 (.st [(i6 a1), (i6 x2), (.sref 13052 1 0 p27.2.2.length), (.sref 13053 1 0 p27.2.1.length)]))), (13052, some (wI_3_1 p27.2.2)), (13053, some (wI_3_1 p27.2.1))] : OL)) hx39 (Mat.trans (Mat.beginP (n := 13052) (e := 3) (sz := 1) (Ts := []) (Bs := [(1005, some (.box 31 (.st [(i6 a1), (i6 x2), (.sref 13052 1 0 0), .nils])))]) hB (by decide) (by rfl) (by decide) TwT.nil (TwB.cons (x := (.st [(i6 a1), (i6 x2), .nils, .nils])) (by rfl) (Tw.st (TwL.cons (Tw.same _) (TwL.cons (Tw.same _) (TwL.cons (Tw.leaf ⟨rfl, rfl⟩) (TwL.cons (Tw.same _) TwL.nil))))) TwB.nil)) (Mat.trans (Mat.beginP (n := 13053) (e := 3) (sz := 1) (Ts := []) (Bs := [(1005, some (.box 31 (.st [(i6 a1), (i6 x2), (.sref 13052 1 0 0), (.sref 13053 1 0 0)])))]) hB (by decide) (by rfl) (by decide) TwT.nil (TwB.cons (x := (.st [(i6 a1), (i6 x2), (.sref 13052 1 0 0), .nils])) (by rfl) (Tw.st (TwL.cons (Tw.same _) (TwL.cons (Tw.same _) (TwL.cons (Tw.same _) (TwL.cons (Tw.leaf ⟨rfl, rfl⟩) TwL.nil))))) TwB.nil)) (mp [] _ _ hB))) (fun s6 y h => ?_) (fun e E' O' hR => ?_)
  · unfold exchangepointmill_Deck_Series_L0 at h
    refine AWp.seq ?_
    refine sr (c (mv hN (q 7)) rfl (c (OpJ.gtr (L rfl) (q 24) (Opd.int .i64 (0))) rfl cn)) ?_
    refine gh [(0, _), (4, _), (5, _), (6, _), (7, _), (25, _)] [(0, some _), (1004, some _), (1005, some _), (13052, some _), (13053, some _)] hB rfl rfl (by rfl) ?_
    refine AWp.cond rfl (fun hg28 => ?_) (fun hg28 => ?_)
    · replace h := ite_t hg28 h
      refine AWp.skip ?_
      refine seqQ_n ?_
      refine AWp.seq ?_
      refine AWp.block ?_
      refine AWp.seq ?_
      obtain ⟨r29, hr29, h⟩ := bindS h
      obtain ⟨r30, hr30, h⟩ := bindS h
      refine AWp.region (oc (mv hN (ot 0 (.ptr 0 0 [])))
        (oc (mv hN (ot 6 (i6 x4)))
        (oc (OpJ.callFn hB fnOk17 (exchangepointmill_Deck_Next_ac s6.2.2.2 x4 r29 hr29) [(0, 0)] (by kernel_rfl) (L rfl) (by kernel_rfl) (OpdL.cons (ot 28 (.ptr 0 0 [])) (OpdL.cons (ot 29 (i6 x4)) OpdL.nil)))
        (oc (mv hN (ot 0 (.ptr 0 0 [])))
        (oc (mv hN (ot 6 (i6 x4)))
        (oc (OpJ.callFn hB fnOk17 (exchangepointmill_Deck_Next_ac r29.2 x4 r30 hr30) [(0, 0)] (by kernel_rfl) (L rfl) (by kernel_rfl) (OpdL.cons (ot 31 (.ptr 0 0 [])) (OpdL.cons (ot 32 (i6 x4)) OpdL.nil)))
        (oc (OpJ.assign (L rfl) (ot 30 (i6 r29.1)))
        (oc (OpJ.assign (L rfl) (ot 33 (i6 r30.1)))
        (OpJs.nil))))))))) (by rfl) (by rfl) ?_
      refine seqQ_n ?_
      refine AWp.ghost (mp [] [(0, (.ptr 0 0 [])), (4, (.ptr 1004 0 [])), (5, (.ptr 1005 0 [])), (6, (i6 x4)), (7, (i6 s6.1)), (8, (i6 r29.1)), (9, (i6 r30.1))] [(0, some (.box 72 (.d (e_exchangepointmill_Deck r30.2)))), (1004, some (.box 31 (.st [(i6 0), (i6 0), .nils, .nils]))), (1005, some (.box 31 (.st [(i6 a1), (i6 x2), (.sref 13052 1 0 s6.2.2.1.length), (.sref 13053 1 0 s6.2.1.length)]))), (13052, some (wI_3_1 s6.2.2.1)), (13053, some (wI_3_1 s6.2.1))] hB) ?_
      refine AWp.seq ?_
      refine AWp.seq ?_
      obtain ⟨r31, hr31, h⟩ := bindS h
      refine AWp.region (oc (mv hN (ot 0 (.ptr 0 0 [])))
        (oc (OpJ.callFn hB fnOk17 (exchangepointmill_Deck_Next_ac r30.2 (6 : Int) r31 hr31) [(0, 0)] (by kernel_rfl) (L rfl) (by kernel_rfl) (OpdL.cons (ot 34 (.ptr 0 0 [])) (OpdL.cons (Opd.int .i64 (6)) OpdL.nil)))
        (oc (OpJ.eqlI (L rfl) (ot 35 (i6 r31.1)) (Opd.int .i64 (0)))
        (OpJs.nil)))) (by rfl) (by rfl) ?_
      refine seqQ_n ?_
      refine AWp.ghost (mp [] [(0, (.ptr 0 0 [])), (4, (.ptr 1004 0 [])), (5, (.ptr 1005 0 [])), (6, (i6 x4)), (7, (i6 s6.1)), (8, (i6 r29.1)), (9, (i6 r30.1)), (36, (bo (r31.1 == (0 : Int))))] [(0, some (.box 72 (.d (e_exchangepointmill_Deck r31.2)))), (1004, some (.box 31 (.st [(i6 0), (i6 0), .nils, .nils]))), (1005, some (.box 31 (.st [(i6 a1), (i6 x2), (.sref 13052 1 0 s6.2.2.1.length), (.sref 13053 1 0 s6.2.1.length)]))), (13052, some (wI_3_1 s6.2.2.1)), (13053, some (wI_3_1 s6.2.1))] hB) ?_
      refine AWp.cut h (fun m33 : Int × Int => ([(0, (.ptr 0 0 [])), (4, (.ptr 1004 0 [])), (5, (.ptr 1005 0 [])), (6, (i6 x4)), (7, (i6 s6.1)), (8, (i6 m33.1)), (9, (i6 m33.2))] : EL)) (fun m33 : Int × Int => ([(0, some (.box 72 (.d (e_exchangepointmill_Deck r31.2)))), (1004, some (.box 31 (.st [(i6 0), (i6 0), .nils, .nils]))), (1005, some (.box 31 (.st [(i6 a1), (i6 x2), (.sref 13052 1 0 s6.2.2.1.length), (.sref 13053 1 0 s6.2.1.length)]))), (13052, some (wI_3_1 s6.2.2.1)), (13053, some (wI_3_1 s6.2.1))] : OL)) (fun m33 h E' O' hmat => ?_) (fun j34 hjj34 h => ?_)
      · refine seqQ_n ?_
        refine AWp.ghost hmat ?_
        obtain ⟨hc35, h⟩ := chk_some h
        obtain ⟨hc36, h⟩ := chk_some h
        refine dr (c (ov (.ptr 1005 2 [2]) (fp hN Try.underlying31 2 tyS28 _ (q 5))) rfl (c (lb hN 31 _ (.sref 13052 1 0 s6.2.2.1.length) tyS28 (At.st1 (f := (.sref 13052 1 0 s6.2.2.1.length)) (by rfl) (by rfl) (At.here _) (by first | rfl | omega)) (q 37)) rfl (c (mv hN (q 8)) rfl (c (OpJ.buildSlice Try.underlying28 tyS3 tyZD3 (by rfl) (by decide) (by decide) (Opds.cons (q 39) Opds.nil) (by kernel_rfl) (es := ([(.int .i64 m33.1)] : List D)) (by rfl) (by rfl) (by kernel_rfl) (by simp) (L rfl)) rfl (cg (OpJ.append hB Try.underlying28 tyE3 (nm := 1041) (by decide) (es := s6.2.2.1.map (eI .i64)) (ys := ([m33.1] : List Int).map (eI .i64)) (es' := (s6.2.2.1 ++ ([m33.1] : List Int)).map (eI .i64)) (len := (s6.2.2.1 ++ ([m33.1] : List Int)).length) (by simp) (by simp) (map_sz (f := (eI .i64)) (fun _ => rfl)) (by rw [List.length_map]; exact lim_mulN hc35 (by decide)) (by rw [List.length_map]; exact lim_leN hc35) (L rfl) (by simp) (q 38) (q 40)) rfl (c (ov (.ptr 1005 3 [3]) (fp hN Try.underlying31 3 tyS28 _ (q 5))) rfl (c (lb hN 31 _ (.sref 13053 1 0 s6.2.1.length) tyS28 (At.st1 (f := (.sref 13053 1 0 s6.2.1.length)) (by rfl) (by rfl) (At.here _) (by first | rfl | omega)) (q 42)) rfl (c (mv hN (q 9)) rfl (c (OpJ.buildSlice Try.underlying28 tyS3 tyZD3 (by rfl) (by decide) (by decide) (Opds.cons (q 44) Opds.nil) (by kernel_rfl) (es := ([(.int .i64 m33.2)] : List D)) (by rfl) (by rfl) (by kernel_rfl) (by simp) (L rfl)) rfl (cg (OpJ.append hB Try.underlying28 tyE3 (nm := 1046) (by decide) (es := s6.2.1.map (eI .i64)) (ys := ([m33.2] : List Int).map (eI .i64)) (es' := (s6.2.1 ++ ([m33.2] : List Int)).map (eI .i64)) (len := (s6.2.1 ++ ([m33.2] : List Int)).length) (by simp) (by simp) (map_sz (f := (eI .i64)) (fun _ => rfl)) (by rw [List.length_map]; exact lim_mulN hc36 (by decide)) (by rw [List.length_map]; exact lim_leN hc36) (L rfl) (by simp) (q 43) (q 45)) rfl (c (ov (.ptr 1005 2 [2]) (fp hN Try.underlying31 2 tyS28 _ (q 5))) rfl (cg (OpJ.storeB (c' := (.st [(i6 a1), (i6 x2), (.sref 1041 1 0 ((s6.2.2.1 ++ ([m33.1] : List Int)).length)), (.sref 13053 1 0 s6.2.1.length)])) tyS28 (SetAt.st1 (f := (.sref 13052 1 0 s6.2.2.1.length)) (by rfl) (by rfl) (SetAt.here _ _) (by rfl) (by rfl) (by first | rfl | omega)) (by rfl) (by rfl) (by simp) rfl (q 47) (q 41)) rfl (c (ov (.ptr 1005 3 [3]) (fp hN Try.underlying31 3 tyS28 _ (q 5))) rfl (cg (OpJ.storeB (c' := (.st [(i6 a1), (i6 x2), (.sref 1041 1 0 ((s6.2.2.1 ++ ([m33.1] : List Int)).length)), (.sref 1046 1 0 ((s6.2.1 ++ ([m33.2] : List Int)).length))])) tyS28 (SetAt.st1 (f := (.sref 13053 1 0 s6.2.1.length)) (by rfl) (by rfl) (SetAt.here _ _) (by rfl) (by rfl) (by first | rfl | omega)) (by rfl) (by rfl) (by simp) rfl (q 48) (q 46)) rfl cn)))))))))))))) (by kernel_rfl) (by kernel_rfl) ?_
        refine blkQ_n ?_
        refine seqQ_n ?_
        refine gh [(0, _), (4, _), (5, _), (6, _), (7, _)] [(0, some _), (1004, some _), (1005, some _), (1041, some _), (1046, some _)] hB rfl rfl (by rfl) ?_
        refine rg (c (mv hN (q 7)) rfl (c (sub6 (L rfl) (q 26) (Opd.int .i64 (1))) rfl (c (OpJ.assign (L rfl) (q 27)) rfl cn))) ?_
        obtain rfl := Option.some.inj h
        exact ⟨rfl, (Mat.trans (mp [] [(0, (.ptr 0 0 [])), (4, (.ptr 1004 0 [])), (5, (.ptr 1005 0 [])), (6, (i6 x4)), (7, (i6 (w64 (s6.1 - (1 : Int)))))] [(0, some (.box 72 (.d (e_exchangepointmill_Deck r31.2)))), (1004, some (.box 31 (.st [(i6 0), (i6 0), .nils, .nils]))), (1005, some (.box 31 (.st [(i6 a1), (i6 x2), (.sref 1041 1 0 ((s6.2.2.1 ++ ([m33.1] : List Int)).length)), (.sref 1046 1 0 ((s6.2.1 ++ ([m33.2] : List Int)).length))]))), (1041, some (wI_3_1 (s6.2.2.1 ++ ([m33.1] : List Int)))), (1046, some (wI_3_1 (s6.2.1 ++ ([m33.2] : List Int))))] hB) (mp [(13052, 1041), (13053, 1046)] _ _ hB))⟩
      · refine AWp.cond rfl (fun hg37 => ?_) (fun hg37 => ?_)
        · replace h := ite_t hg37 h
          refine rg (c (OpJ.assign (L rfl) (Opd.int .i64 (-1))) rfl (c (OpJ.assign (L rfl) (Opd.int .i64 (-1))) rfl cn)) ?_
          exact hjj34 _ h _ _ (Mat.trans (mp [] [(0, (.ptr 0 0 [])), (4, (.ptr 1004 0 [])), (5, (.ptr 1005 0 [])), (6, (i6 x4)), (7, (i6 s6.1)), (8, (i6 (-1 : Int))), (9, (i6 (-1 : Int)))] [(0, some (.box 72 (.d (e_exchangepointmill_Deck r31.2)))), (1004, some (.box 31 (.st [(i6 0), (i6 0), .nils, .nils]))), (1005, some (.box 31 (.st [(i6 a1), (i6 x2), (.sref 13052 1 0 s6.2.2.1.length), (.sref 13053 1 0 s6.2.1.length)]))), (13052, some (wI_3_1 s6.2.2.1)), (13053, some (wI_3_1 s6.2.1))] hB) (mp [] _ _ hB))
        · replace h := ite_f hg37 h
          refine AWp.skip ?_
          exact hjj34 _ h _ _ (mp [] _ _ hB)
    · replace h := ite_f hg28 h
      refine AWp.exit ?_
      refine seqQ_e ?_
      obtain rfl := Option.some.inj h
      exact ⟨(fun hc => by cases hc), rfl, (mp [] _ _ hB)⟩
  · obtain ⟨rfl, hmat⟩ := hR
    refine blkQ_hit ?_
    refine seqQ_n ?_
    refine AWp.ghost hmat ?_
    refine sr (c (lb hN 31 _ _ tyS31 (At.here _) (q 5)) rfl (cg (OpJ.storeB tyS31 (SetAt.here _ _) (by rfl) (by rfl) (by simp) rfl (q 4) (q 49)) rfl cn)) ?_
    refine gh [(4, _)] [(0, some _), (1004, some _), (13052, some _), (13053, some _)] hB rfl rfl (by rfl) ?_
    refine AWp.ret ?_
    obtain rfl := Option.some.inj h
    exact ⟨.inl rfl, _, _, (Mat.trans (Mat.freezeP (n := 13052) (e := 3) (sz := 1) (es := p27.2.2.map (eI .i64)) (Ts := []) (Bs := [(1004, some (.box 31 (.st [(i6 a1), (i6 x2), (qI_1 p27.2.2), (.sref 13053 1 0 p27.2.1.length)])))]) (by rfl) TwT.nil (TwB.cons (x := (.st [(i6 a1), (i6 x2), (.sref 13052 1 0 p27.2.2.length), (.sref 13053 1 0 p27.2.1.length)])) (by rfl) (Tw.st (TwL.cons (Tw.same _) (TwL.cons (Tw.same _) (TwL.cons (FrzL.all (by first | rfl | (simp; done) | (simp; omega))) (TwL.cons (Tw.same _) TwL.nil))))) TwB.nil)) (Mat.trans (Mat.freezeP (n := 13053) (e := 3) (sz := 1) (es := p27.2.1.map (eI .i64)) (Ts := []) (Bs := [(1004, some (.box 31 (.st [(i6 a1), (i6 x2), (qI_1 p27.2.2), (qI_1 p27.2.1)])))]) (by rfl) TwT.nil (TwB.cons (x := (.st [(i6 a1), (i6 x2), (qI_1 p27.2.2), (.sref 13053 1 0 p27.2.1.length)])) (by rfl) (Tw.st (TwL.cons (Tw.same _) (TwL.cons (Tw.same _) (TwL.cons (Tw.same _) (TwL.cons (FrzL.all (by first | rfl | (simp; done) | (simp; omega))) TwL.nil))))) TwB.nil)) (Mat.trans (Mat.coeP (Ts := []) (Bs := [(1004, some (.box 31 (.d (.st [(.int .i64 a1), (.int .i64 x2), (.list 1 (p27.2.2.map (eI .i64))), (.list 1 (p27.2.1.map (eI .i64)))]))))]) TwT.nil (TwB.cons (x := (.st [(i6 a1), (i6 x2), (qI_1 p27.2.2), (qI_1 p27.2.1)])) (by rfl) (Tw.leaf ⟨_, (Co.st (CoL.cons (Co.d _) (CoL.cons (Co.d _) (CoL.cons (Co.d _) (CoL.cons (Co.d _) CoL.nil))))), rfl⟩) TwB.nil)) (mp [] [(4, (.ptr 1004 0 []))] [(0, some (.box 72 (.d (e_exchangepointmill_Deck p27.1)))), (1004, some (.box 31 (.d (.st [(.int .i64 a1), (.int .i64 x2), (.list 1 (p27.2.2.map (eI .i64))), (.list 1 (p27.2.1.map (eI .i64)))]))))] hB)))), [(.d (.st [(.int .i64 a1), (.int .i64 x2), (.list 1 (p27.2.2.map (eI .i64))), (.list 1 (p27.2.1.map (eI .i64)))]))], (Res.cell (c := (.d (.st [(.int .i64 a1), (.int .i64 x2), (.list 1 (p27.2.2.map (eI .i64))), (.list 1 (p27.2.1.map (eI .i64)))]))) (by rfl) (by rfl) tyS31 (by rfl) (by rfl) (by rfl) Res.nil), rfl, by rfl, by rfl, by rfl⟩

noncomputable def exchangepointlaw41_bills_L1 (s92 : api_Series × exchangepointmill_Deck) : Option (((api_Series × exchangepointmill_Deck)) ⊕ (api_Series × exchangepointmill_Deck)) :=
  jn (fun m118 : Bool =>
  (if m118 = true then
  (exchangepointmill_Deck_Next s92.2 (17179869184 : Int)).bind fun r121 =>
  chk (decide ((([r121.1] : List Int) ++ s92.1.fIn).length ≤ LIM)) <|
  (exchangepointmill_Deck_Next r121.2 (17179869184 : Int)).bind fun r123 =>
  chk (decide ((([r123.1] : List Int) ++ s92.1.fOut).length ≤ LIM)) <|
  some (.inr ((api_Series.mk s92.1.fPort s92.1.fSeconds (([r121.1] : List Int) ++ s92.1.fIn) (([r123.1] : List Int) ++ s92.1.fOut)), r123.2))
  else
  some (.inl (s92.1, s92.2)))) (fun j119 =>
  (if (decide ((s92.1.fIn.length : Int) < (2 : Int))) = true then
  j119 true
  else
  (idx s92.1.fIn (0 : Int)).bind fun x126 =>
  j119 (decide (x126 < (0 : Int)))))
noncomputable def exchangepointlaw41_bills_L0 (r1 : api_Member × exchangepointmill_Deck) (s3 : Int × (List api_Series) × exchangepointmill_Deck) : Option (((exchangepointmill_Deck × (List api_Series))) ⊕ (Int × (List api_Series) × exchangepointmill_Deck)) :=
  (if (decide (s3.1 < (r1.1.fPorts.length : Int))) = true then
  (idx r1.1.fPorts s3.1).bind fun x90 =>
  (exchangepointmill_Deck_Series s3.2.2 x90.fID).bind fun r91 =>
  (loop (exchangepointlaw41_bills_L1) (r91.1, r91.2)).bind fun p115 =>
  chk (decide ((s3.2.1 ++ ([p115.1] : List api_Series)).length ≤ LIM)) <|
  some (.inr ((w64 (s3.1 + (1 : Int))), (s3.2.1 ++ ([p115.1] : List api_Series)), p115.2))
  else
  some (.inl (s3.2.2, s3.2.1)))
noncomputable def exchangepointlaw41_bills (a0 : exchangepointmill_Deck) : Option (api_Member × api_Tariff × (List api_Series) × exchangepointmill_Deck) :=
  (exchangepointmill_Deck_Member a0 (101 : Int)).bind fun r1 =>
  (exchangepointmill_Deck_Tariff r1.2).bind fun r2 =>
  (loop (exchangepointlaw41_bills_L0 r1) ((0 : Int), ([] : List api_Series), r2.2)).bind fun p88 =>
  some (r1.1, r2.1, p88.2, p88.1)
set_option maxHeartbeats 4000000 in
set_option maxRecDepth 100000 in
theorem exchangepointlaw41_bills_ac (a0 : exchangepointmill_Deck) (r : api_Member × api_Tariff × (List api_Series) × exchangepointmill_Deck) (h : exchangepointlaw41_bills a0 = some r) : AC Try.prog 8 [(.ptr 0 0 [])] [(0, (.box 72 (.d (e_exchangepointmill_Deck a0))))] (.tup [(.d (e_api_Member r.1)), (.d (e_api_Tariff r.2.1)), (.d (.list 4 (r.2.2.1.map e_api_Series)))]) [(0, some (.box 72 (.d (e_exchangepointmill_Deck r.2.2.2))))] := by
  refine AC.of_code2 Try.func8 rfl rfl (Nat.le_of_ble_eq_true (by rfl)) fun B hB hN => ?_
  have L {d : Nat} (h : Nat.blt d Try.f8.ntmps = true) : d < B.N := ltN hN h
  delta exchangepointlaw41_bills at h
  refine sr (cg (OpJ.alloc hB tyZ24 (nm := 1002) (by decide) (L rfl)) rfl (cg (OpJ.alloc hB tyZ27 (nm := 1003) (by decide) (L rfl)) rfl (c (OpJ.assign (L rfl) Opd.nils) rfl cn))) ?_
  refine gh [(0, _), (2, _), (3, _)] [(0, some _), (1002, some _), (1003, some _)] hB rfl rfl (by rfl) ?_
  refine AWp.seq ?_
  obtain ⟨r1, hr1, h⟩ := bindS h
  obtain ⟨r2, hr2, h⟩ := bindS h
  refine AWp.region (oc (mv hN (ot 0 (.ptr 0 0 [])))
  (oc (OpJ.callFn hB fnOk22 (exchangepointmill_Deck_Member_ac a0 (101 : Int) r1 hr1) [(0, 0)] (by kernel_rfl) (L rfl) (by kernel_rfl) (OpdL.cons (ot 11 (.ptr 0 0 [])) (OpdL.cons (Opd.int .i64 (101)) OpdL.nil)))
  (oc (mv hN (ot 0 (.ptr 0 0 [])))
  (oc (OpJ.callFn hB fnOk24 (exchangepointmill_Deck_Tariff_ac r1.2 r2 hr2) [(0, 0)] (by kernel_rfl) (L rfl) (by kernel_rfl) (OpdL.cons (ot 13 (.ptr 0 0 [])) OpdL.nil))
  (oc (OpJ.alloc hB tyZ24 (nm := 1005) (by decide) (L rfl))
  (oc (OpJ.alloc hB tyZ27 (nm := 1006) (by decide) (L rfl))
  (oc (OpJ.storeB (bt := 24) (c := (.st [(i6 0), (.d (.str ([] : List UInt8))), (.d (.str ([] : List UInt8))), (i6 0), (i6 0), .nils])) (v := (.d (e_api_Member r1.1))) (c' := (.d (e_api_Member r1.1))) tyS24 (SetAt.here _ _) (by rfl) (by rfl) (by simp) rfl (ot 5 (.ptr 1005 0 [])) (ot 12 (.d (e_api_Member r1.1))))
  (oc (OpJ.storeB (bt := 27) (c := (.d (.st [(.int .i64 0), (.int .i64 0), (.int .i64 0)]))) (v := (.d (e_api_Tariff r2.1))) (c' := (.d (e_api_Tariff r2.1))) tyS27 (SetAt.here _ _) (by rfl) (by rfl) (by simp) rfl (ot 6 (.ptr 1006 0 [])) (ot 14 (.d (e_api_Tariff r2.1))))
  (OpJs.nil))))))))) (by rfl) (by rfl) ?_
  refine seqQ_n ?_
  refine AWp.ghost (mp [] [(0, (.ptr 0 0 [])), (2, (.ptr 1002 0 [])), (3, (.ptr 1003 0 [])), (5, (.ptr 1005 0 [])), (6, (.ptr 1006 0 []))] [(0, some (.box 72 (.d (e_exchangepointmill_Deck r2.2)))), (1002, some (.box 24 (.st [(i6 0), (.d (.str ([] : List UInt8))), (.d (.str ([] : List UInt8))), (i6 0), (i6 0), .nils]))), (1003, some (.box 27 (.d (.st [(.int .i64 0), (.int .i64 0), (.int .i64 0)])))), (1005, some (.box 24 (.d (e_api_Member r1.1)))), (1006, some (.box 27 (.d (e_api_Tariff r2.1))))] hB) ?_
  refine sr (c (OpJ.assign (L rfl) Opd.nils) rfl cn) ?_
  refine gh [(0, _), (2, _), (3, _), (5, _), (6, _), (7, _)] [(0, some _), (1002, some _), (1003, some _), (1005, some _), (1006, some _)] hB rfl rfl (by rfl) ?_
  refine AWp.seq ?_
  refine sr (c (ov (.ptr 1005 5 [5]) (fp hN Try.underlying24 5 tyS22 _ (q 5))) rfl (c (lb hN 24 _ _ tyS22 (ad _) (q 15)) rfl (c (OpJ.val (v' := (i6 (r1.1.fPorts.length : Int))) (by simp) (OpJ.lenD Try.underlying22 (L rfl) (q 16))) rfl (c (mv hN (Opd.int .i64 (0))) rfl cn)))) ?_
  refine gh [(0, _), (2, _), (3, _), (5, _), (6, _), (7, _), (16, _), (17, _), (18, _)] [(0, some _), (1002, some _), (1003, some _), (1005, some _), (1006, some _)] hB rfl rfl (by rfl) ?_
  refine AWp.block ?_
  obtain ⟨p88, hx131, h⟩ := bindS h
  refine lg (exchangepointlaw41_bills_L0 r1) (fun s3 : Int × (List api_Series) × exchangepointmill_Deck => ([(0, (.ptr 0 0 [])), (2, (.ptr 1002 0 [])), (3, (.ptr 1003 0 [])), (5, (.ptr 1005 0 [])), (6, (.ptr 1006 0 [])), (7, (.sref 3007 4 0 s3.2.1.length)), (16, (qe_api_Port_10 r1.1.fPorts)), (17, (i6 (r1.1.fPorts.length : Int))), (18, (i6 s3.1))] : EL)) (fun s3 : Int × (List api_Series) × exchangepointmill_Deck => ([(0, some (.box 72 (.d (e_exchangepointmill_Deck s3.2.2)))), (1002, some (.box 24 (.st [(i6 0), (.d (.str ([] : List UInt8))), (.d (.str ([] : List UInt8))), (i6 0), (i6 0), .nils]))), (1003, some (.box 27 (.d (.st [(.int .i64 0), (.int .i64 0), (.int .i64 0)])))), (1005, some (.box 24 (.d (e_api_Member r1.1)))), (1006, some (.box 27 (.d (e_api_Tariff r2.1)))), (3007, some (we_api_Series_31_4 s3.2.1))] : OL)) (fun (p88 : (exchangepointmill_Deck × (List api_Series))) e E' O' => e = .exit 0 ∧ Mat B E' O' ([(2, (.ptr 1002 0 [])), (3, (.ptr 1003 0 [])), (5, (.ptr 1005 0 [])), (6, (.ptr 1006 0 [])), (7, (.sref 3007 4 0 p88.2.length))] : EL) ([(0, some (.box 72 (.d (e_exchangepointmill_Deck p88.1)))), (1002, some (.box 24 (.st [(i6 0), (.d (.str ([] : List UInt8))), (.d (.str ([] : List UInt8))), (i6 0), (i6 0), .nils]))), (1003, some (.box 27 (.d (.st [(.int .i64 0), (.int .i64 0), (.int .i64 0)])))), (1005, some (.box 24 (.d (e_api_Member r1.1)))), (1006, some (.box 27 (.d (e_api_Tariff r2.1)))), (3007, some (we_api_Series_31_4 p88.2))] : OL)) hx131 (Mat.trans (Mat.beginP (n := 3007) (e := 31) (sz := 4) (Ts := [(7, (.sref 3007 4 0 0))]) (Bs := []) hB (by decide) (by rfl) (by decide) (TwT.cons (x := .nils) (by rfl) (Tw.leaf ⟨rfl, rfl⟩) TwT.nil) TwB.nil) (mp [] _ _ hB)) (fun s3 y h => ?_) (fun e E' O' hR => ?_)
  · unfold exchangepointlaw41_bills_L0 at h
    refine sr (c (OpJ.lss (L rfl) (q 18) (q 17)) rfl cn) ?_
    refine gh [(0, _), (2, _), (3, _), (5, _), (6, _), (7, _), (16, _), (17, _), (18, _), (19, _)] [(0, some _), (1002, some _), (1003, some _), (1005, some _), (1006, some _), (3007, some _)] hB rfl rfl (by rfl) ?_
    refine AWp.seq ?_
    refine AWp.cond rfl (fun hg89 => ?_) (fun hg89 => ?_)
    · replace h := ite_t hg89 h
      refine AWp.skip ?_
      refine seqQ_n ?_
      refine AWp.seq ?_
      refine AWp.block ?_
      obtain ⟨x90, hx90, h⟩ := bindS h
      refine sr (c (OpJ.indexD Try.underlying22 tyS68 (idx_some hx90).1 (get_map e_api_Port (idx_some hx90).2) (L rfl) (q 16) (q 18)) rfl (c (OpJ.loadD tyS68 (by rfl) (by rfl) (L rfl) (q 20)) rfl (cg (OpJ.alloc hB tyZ68 (nm := 1009) (by decide) (L rfl)) rfl (cg (OpJ.storeB tyS68 (SetAt.here _ _) (by rfl) (by rfl) (by simp) rfl (q 9) (q 21)) rfl cn)))) ?_
      refine gh [(0, _), (2, _), (3, _), (5, _), (6, _), (7, _), (9, _), (16, _), (17, _), (18, _)] [(0, some _), (1002, some _), (1003, some _), (1005, some _), (1006, some _), (1009, some _), (3007, some _)] hB rfl rfl (by rfl) ?_
      refine AWp.seq ?_
      obtain ⟨r91, hr91, h⟩ := bindS h
      refine AWp.region (oc (mv hN (ot 0 (.ptr 0 0 [])))
        (oc (ov (.ptr 1009 0 [0]) (fp hN Try.underlying68 0 tyS3 (.box 68 (.d (e_api_Port x90))) (ot 9 (.ptr 1009 0 []))))
        (oc (lb hN 68 (.d (e_api_Port x90)) (i6 x90.fID) tyS3 (ad (.int .i64 x90.fID)) (ot 23 (.ptr 1009 0 [0])))
        (oc (OpJ.callFn hB fnOk25 (exchangepointmill_Deck_Series_ac s3.2.2 x90.fID r91 hr91) [(0, 0)] (by kernel_rfl) (L rfl) (by kernel_rfl) (OpdL.cons (ot 22 (.ptr 0 0 [])) (OpdL.cons (ot 24 (i6 x90.fID)) OpdL.nil)))
        (oc (OpJ.alloc hB tyZ31 (nm := 1010) (by decide) (L rfl))
        (oc (OpJ.storeB (bt := 31) (c := (.st [(i6 0), (i6 0), .nils, .nils])) (v := (.d (e_api_Series r91.1))) (c' := (.d (e_api_Series r91.1))) tyS31 (SetAt.here _ _) (by rfl) (by rfl) (by simp) rfl (ot 10 (.ptr 1010 0 [])) (ot 25 (.d (e_api_Series r91.1))))
        (OpJs.nil))))))) (by rfl) (by rfl) ?_
      refine seqQ_n ?_
      refine AWp.ghost (mp [] [(0, (.ptr 0 0 [])), (2, (.ptr 1002 0 [])), (3, (.ptr 1003 0 [])), (5, (.ptr 1005 0 [])), (6, (.ptr 1006 0 [])), (7, (.sref 3007 4 0 s3.2.1.length)), (10, (.ptr 1010 0 [])), (16, (qe_api_Port_10 r1.1.fPorts)), (17, (i6 (r1.1.fPorts.length : Int))), (18, (i6 s3.1))] [(0, some (.box 72 (.d (e_exchangepointmill_Deck r91.2)))), (1002, some (.box 24 (.st [(i6 0), (.d (.str ([] : List UInt8))), (.d (.str ([] : List UInt8))), (i6 0), (i6 0), .nils]))), (1003, some (.box 27 (.d (.st [(.int .i64 0), (.int .i64 0), (.int .i64 0)])))), (1005, some (.box 24 (.d (e_api_Member r1.1)))), (1006, some (.box 27 (.d (e_api_Tariff r2.1)))), (1010, some (.box 31 (.d (e_api_Series r91.1)))), (3007, some (we_api_Series_31_4 s3.2.1))] hB) ?_
      refine AWp.seq ?_
      refine AWp.block ?_
      obtain ⟨p115, hx128, h⟩ := bindS h
      refine lg (exchangepointlaw41_bills_L1) (fun s92 : api_Series × exchangepointmill_Deck => ([(0, (.ptr 0 0 [])), (2, (.ptr 1002 0 [])), (3, (.ptr 1003 0 [])), (5, (.ptr 1005 0 [])), (6, (.ptr 1006 0 [])), (7, (.sref 3007 4 0 s3.2.1.length)), (10, (.ptr 1010 0 [])), (16, (qe_api_Port_10 r1.1.fPorts)), (17, (i6 (r1.1.fPorts.length : Int))), (18, (i6 s3.1))] : EL)) (fun s92 : api_Series × exchangepointmill_Deck => ([(0, some (.box 72 (.d (e_exchangepointmill_Deck s92.2)))), (1002, some (.box 24 (.st [(i6 0), (.d (.str ([] : List UInt8))), (.d (.str ([] : List UInt8))), (i6 0), (i6 0), .nils]))), (1003, some (.box 27 (.d (.st [(.int .i64 0), (.int .i64 0), (.int .i64 0)])))), (1005, some (.box 24 (.d (e_api_Member r1.1)))), (1006, some (.box 27 (.d (e_api_Tariff r2.1)))), (1010, some (.box 31 (.d (e_api_Series s92.1)))), (3007, some (we_api_Series_31_4 s3.2.1))] : OL)) (fun (p115 : (api_Series × exchangepointmill_Deck)) e E' O' => e = .exit 2 ∧ Mat B E' O' ([(0, (.ptr 0 0 [])), (2, (.ptr 1002 0 [])), (3, (.ptr 1003 0 [])), (5, (.ptr 1005 0 [])), (6, (.ptr 1006 0 [])), (7, (.sref 3007 4 0 s3.2.1.length)), (10, (.ptr 1010 0 [])), (16, (qe_api_Port_10 r1.1.fPorts)), (17, (i6 (r1.1.fPorts.length : Int))), (18, (i6 s3.1))] : EL) ([(0, some (.box 72 (.d (e_exchangepointmill_Deck p115.2)))), (1002, some (.box 24 (.st [(i6 0), (.d (.str ([] : List UInt8))), (.d (.str ([] : List UInt8))), (i6 0), (i6 0), .nils]))), (1003, some (.box 27 (.d (.st [(.int .i64 0), (.int .i64 0), (.int .i64 0)])))), (1005, some (.box 24 (.d (e_api_Member r1.1)))), (1006, some (.box 27 (.d (e_api_Tariff r2.1)))), (1010, some (.box 31 (.d (e_api_Series p115.1)))), (3007, some (we_api_Series_31_4 s3.2.1))] : OL)) hx128 (mp [] _ _ hB) (fun s92 y h => ?_) (fun e E' O' hR => ?_)
      · unfold exchangepointlaw41_bills_L1 at h
        refine AWp.seq ?_
        refine AWp.seq ?_
        refine AWp.cut h (fun m118 : Bool => ([(0, (.ptr 0 0 [])), (2, (.ptr 1002 0 [])), (3, (.ptr 1003 0 [])), (5, (.ptr 1005 0 [])), (6, (.ptr 1006 0 [])), (7, (.sref 3007 4 0 s3.2.1.length)), (10, (.ptr 1010 0 [])), (16, (qe_api_Port_10 r1.1.fPorts)), (17, (i6 (r1.1.fPorts.length : Int))), (18, (i6 s3.1)), (36, (bo m118))] : EL)) (fun m118 : Bool => ([(0, some (.box 72 (.d (e_exchangepointmill_Deck s92.2)))), (1002, some (.box 24 (.st [(i6 0), (.d (.str ([] : List UInt8))), (.d (.str ([] : List UInt8))), (i6 0), (i6 0), .nils]))), (1003, some (.box 27 (.d (.st [(.int .i64 0), (.int .i64 0), (.int .i64 0)])))), (1005, some (.box 24 (.d (e_api_Member r1.1)))), (1006, some (.box 27 (.d (e_api_Tariff r2.1)))), (1010, some (.box 31 (.d (e_api_Series s92.1)))), (3007, some (we_api_Series_31_4 s3.2.1))] : OL)) (fun m118 h E' O' hmat => ?_) (fun j119 hjj119 h => ?_)
        · refine seqQ_n ?_
          refine AWp.ghost hmat ?_
          refine AWp.cond rfl (fun hg120 => ?_) (fun hg120 => ?_)
          · replace h := ite_t hg120 h
            refine AWp.skip ?_
            refine seqQ_n ?_
            refine AWp.block ?_
            obtain ⟨r121, hr121, h⟩ := bindS h
            obtain ⟨hc122, h⟩ := chk_some h
            obtain ⟨r123, hr123, h⟩ := bindS h
            obtain ⟨hc124, h⟩ := chk_some h
            refine AWp.draws (by kernel_rfl) (oc (mv hN (ot 0 (.ptr 0 0 [])))
              (oc (OpJ.callFn hB fnOk17 (exchangepointmill_Deck_Next_ac s92.2 (17179869184 : Int) r121 hr121) [(0, 0)] (by kernel_rfl) (L rfl) (by kernel_rfl) (OpdL.cons (ot 37 (.ptr 0 0 [])) (OpdL.cons (Opd.int .i64 (17179869184)) OpdL.nil)))
              (oc (OpJ.buildSliceR Try.underlying28 tyS3 tyZD3 (by rfl) (by decide) (by decide) hB (nm := 1039) (by decide) (len := ([r121.1] : List Int).length) (by rfl) (Opds.cons (ot 38 (i6 r121.1)) Opds.nil) (by kernel_rfl) (es := ([r121.1] : List Int).map (eI .i64)) (by rfl) (by rfl) (by kernel_rfl) (by simp) (L rfl))
              (oc (ov (.ptr 1010 2 [2]) (fp hN Try.underlying31 2 tyS28 (.box 31 (.d (e_api_Series s92.1))) (ot 10 (.ptr 1010 0 []))))
              (oc (lb hN 31 (.d (e_api_Series s92.1)) (qI_1 s92.1.fIn) tyS28 (ad (.list 1 (s92.1.fIn.map (eI .i64)))) (ot 40 (.ptr 1010 2 [2])))
              (oc (OpJ.append hB Try.underlying28 tyE3 (nm := 1042) (by decide) (es := ([r121.1] : List Int).map (eI .i64)) (ys := s92.1.fIn.map (eI .i64)) (es' := (([r121.1] : List Int) ++ s92.1.fIn).map (eI .i64)) (len := (([r121.1] : List Int) ++ s92.1.fIn).length) (by simp) (by simp) (map_sz (f := (eI .i64)) (fun _ => rfl)) (by rw [List.length_map]; exact lim_mulN hc122 (by decide)) (by rw [List.length_map]; exact lim_leN hc122) (L rfl) (by simp) (ot 39 (.sref 1039 1 0 (([r121.1] : List Int).length))) (ot 41 (qI_1 s92.1.fIn)))
              (oc (mv hN (ot 0 (.ptr 0 0 [])))
              (oc (OpJ.callFn hB fnOk17 (exchangepointmill_Deck_Next_ac r121.2 (17179869184 : Int) r123 hr123) [(0, 0)] (by kernel_rfl) (L rfl) (by kernel_rfl) (OpdL.cons (ot 43 (.ptr 0 0 [])) (OpdL.cons (Opd.int .i64 (17179869184)) OpdL.nil)))
              (oc (OpJ.buildSliceR Try.underlying28 tyS3 tyZD3 (by rfl) (by decide) (by decide) hB (nm := 1045) (by decide) (len := ([r123.1] : List Int).length) (by rfl) (Opds.cons (ot 44 (i6 r123.1)) Opds.nil) (by kernel_rfl) (es := ([r123.1] : List Int).map (eI .i64)) (by rfl) (by rfl) (by kernel_rfl) (by simp) (L rfl))
              (oc (ov (.ptr 1010 3 [3]) (fp hN Try.underlying31 3 tyS28 (.box 31 (.d (e_api_Series s92.1))) (ot 10 (.ptr 1010 0 []))))
              (oc (lb hN 31 (.d (e_api_Series s92.1)) (qI_1 s92.1.fOut) tyS28 (ad (.list 1 (s92.1.fOut.map (eI .i64)))) (ot 46 (.ptr 1010 3 [3])))
              (oc (OpJ.append hB Try.underlying28 tyE3 (nm := 1048) (by decide) (es := ([r123.1] : List Int).map (eI .i64)) (ys := s92.1.fOut.map (eI .i64)) (es' := (([r123.1] : List Int) ++ s92.1.fOut).map (eI .i64)) (len := (([r123.1] : List Int) ++ s92.1.fOut).length) (by simp) (by simp) (map_sz (f := (eI .i64)) (fun _ => rfl)) (by rw [List.length_map]; exact lim_mulN hc124 (by decide)) (by rw [List.length_map]; exact lim_leN hc124) (L rfl) (by simp) (ot 45 (.sref 1045 1 0 (([r123.1] : List Int).length))) (ot 47 (qI_1 s92.1.fOut)))
              (oc (ov (.ptr 1010 2 [2]) (fp hN Try.underlying31 2 tyS28 (.box 31 (.d (e_api_Series s92.1))) (ot 10 (.ptr 1010 0 []))))
              (oc (OpJ.storeB (bt := 31) (c := (.d (e_api_Series s92.1))) (v := (.sref 1042 1 0 ((([r121.1] : List Int) ++ s92.1.fIn).length))) (c' := (.st [(i6 s92.1.fPort), (i6 s92.1.fSeconds), (.sref 1042 1 0 ((([r121.1] : List Int) ++ s92.1.fIn).length)), (qI_1 s92.1.fOut)])) tyS28 (SetAt.lift (fs := [(.int .i64 s92.1.fPort), (.int .i64 s92.1.fSeconds), (.list 1 (s92.1.fIn.map (eI .i64))), (.list 1 (s92.1.fOut.map (eI .i64)))]) (SetAt.st1 (by rfl) (by rfl) (SetAt.here _ _) (by rfl) (by rfl) (by first | rfl | omega))) (by rfl) (by rfl) (by simp) rfl (ot 49 (.ptr 1010 2 [2])) (ot 42 (.sref 1042 1 0 ((([r121.1] : List Int) ++ s92.1.fIn).length))))
              (oc (ov (.ptr 1010 3 [3]) (fp hN Try.underlying31 3 tyS28 (.box 31 (.st [(i6 s92.1.fPort), (i6 s92.1.fSeconds), (.sref 1042 1 0 ((([r121.1] : List Int) ++ s92.1.fIn).length)), (qI_1 s92.1.fOut)])) (ot 10 (.ptr 1010 0 []))))
              (oc (OpJ.storeB (bt := 31) (c := (.st [(i6 s92.1.fPort), (i6 s92.1.fSeconds), (.sref 1042 1 0 ((([r121.1] : List Int) ++ s92.1.fIn).length)), (qI_1 s92.1.fOut)])) (v := (.sref 1048 1 0 ((([r123.1] : List Int) ++ s92.1.fOut).length))) (c' := (.st [(i6 s92.1.fPort), (i6 s92.1.fSeconds), (.sref 1042 1 0 ((([r121.1] : List Int) ++ s92.1.fIn).length)), (.sref 1048 1 0 ((([r123.1] : List Int) ++ s92.1.fOut).length))])) tyS28 (SetAt.st1 (f := (qI_1 s92.1.fOut)) (by rfl) (by rfl) (SetAt.here _ _) (by rfl) (by rfl) (by first | rfl | omega)) (by rfl) (by rfl) (by simp) rfl (ot 50 (.ptr 1010 3 [3])) (ot 48 (.sref 1048 1 0 ((([r123.1] : List Int) ++ s92.1.fOut).length))))
              (OpJs.nil))))))))))))))))) (by kernel_rfl) (by rfl) (by rfl) ?_
            refine blkQ_n ?_
            obtain rfl := Option.some.inj h
            exact ⟨rfl, (Mat.trans (mp [] [(0, (.ptr 0 0 [])), (2, (.ptr 1002 0 [])), (3, (.ptr 1003 0 [])), (5, (.ptr 1005 0 [])), (6, (.ptr 1006 0 [])), (7, (.sref 3007 4 0 s3.2.1.length)), (10, (.ptr 1010 0 [])), (16, (qe_api_Port_10 r1.1.fPorts)), (17, (i6 (r1.1.fPorts.length : Int))), (18, (i6 s3.1))] [(0, some (.box 72 (.d (e_exchangepointmill_Deck r123.2)))), (1002, some (.box 24 (.st [(i6 0), (.d (.str ([] : List UInt8))), (.d (.str ([] : List UInt8))), (i6 0), (i6 0), .nils]))), (1003, some (.box 27 (.d (.st [(.int .i64 0), (.int .i64 0), (.int .i64 0)])))), (1005, some (.box 24 (.d (e_api_Member r1.1)))), (1006, some (.box 27 (.d (e_api_Tariff r2.1)))), (1010, some (.box 31 (.st [(i6 s92.1.fPort), (i6 s92.1.fSeconds), (.sref 1042 1 0 ((([r121.1] : List Int) ++ s92.1.fIn).length)), (.sref 1048 1 0 ((([r123.1] : List Int) ++ s92.1.fOut).length))]))), (1042, some (wI_3_1 (([r121.1] : List Int) ++ s92.1.fIn))), (1048, some (wI_3_1 (([r123.1] : List Int) ++ s92.1.fOut))), (3007, some (we_api_Series_31_4 s3.2.1))] hB) (Mat.trans (Mat.freezeP (n := 1042) (e := 3) (sz := 1) (es := (([r121.1] : List Int) ++ s92.1.fIn).map (eI .i64)) (Ts := []) (Bs := [(1010, some (.box 31 (.st [(i6 s92.1.fPort), (i6 s92.1.fSeconds), (qI_1 (([r121.1] : List Int) ++ s92.1.fIn)), (.sref 1048 1 0 ((([r123.1] : List Int) ++ s92.1.fOut).length))])))]) (by rfl) TwT.nil (TwB.cons (x := (.st [(i6 s92.1.fPort), (i6 s92.1.fSeconds), (.sref 1042 1 0 ((([r121.1] : List Int) ++ s92.1.fIn).length)), (.sref 1048 1 0 ((([r123.1] : List Int) ++ s92.1.fOut).length))])) (by rfl) (Tw.st (TwL.cons (Tw.same _) (TwL.cons (Tw.same _) (TwL.cons (FrzL.all (by first | rfl | (simp; done) | (simp; omega))) (TwL.cons (Tw.same _) TwL.nil))))) TwB.nil)) (Mat.trans (Mat.freezeP (n := 1048) (e := 3) (sz := 1) (es := (([r123.1] : List Int) ++ s92.1.fOut).map (eI .i64)) (Ts := []) (Bs := [(1010, some (.box 31 (.st [(i6 s92.1.fPort), (i6 s92.1.fSeconds), (qI_1 (([r121.1] : List Int) ++ s92.1.fIn)), (qI_1 (([r123.1] : List Int) ++ s92.1.fOut))])))]) (by rfl) TwT.nil (TwB.cons (x := (.st [(i6 s92.1.fPort), (i6 s92.1.fSeconds), (qI_1 (([r121.1] : List Int) ++ s92.1.fIn)), (.sref 1048 1 0 ((([r123.1] : List Int) ++ s92.1.fOut).length))])) (by rfl) (Tw.st (TwL.cons (Tw.same _) (TwL.cons (Tw.same _) (TwL.cons (Tw.same _) (TwL.cons (FrzL.all (by first | rfl | (simp; done) | (simp; omega))) TwL.nil))))) TwB.nil)) (Mat.trans (Mat.coeP (Ts := []) (Bs := [(1010, some (.box 31 (.d (.st [(.int .i64 s92.1.fPort), (.int .i64 s92.1.fSeconds), (.list 1 ((([r121.1] : List Int) ++ s92.1.fIn).map (eI .i64))), (.list 1 ((([r123.1] : List Int) ++ s92.1.fOut).map (eI .i64)))]))))]) TwT.nil (TwB.cons (x := (.st [(i6 s92.1.fPort), (i6 s92.1.fSeconds), (qI_1 (([r121.1] : List Int) ++ s92.1.fIn)), (qI_1 (([r123.1] : List Int) ++ s92.1.fOut))])) (by rfl) (Tw.leaf ⟨_, (Co.st (CoL.cons (Co.d _) (CoL.cons (Co.d _) (CoL.cons (Co.d _) (CoL.cons (Co.d _) CoL.nil))))), rfl⟩) TwB.nil)) (mp [] _ _ hB)))))⟩
          · replace h := ite_f hg120 h
            refine AWp.exit ?_
            refine seqQ_e ?_
            obtain rfl := Option.some.inj h
            exact ⟨(fun hc => by cases hc), rfl, (mp [] _ _ hB)⟩
        · rcases Bool.eq_false_or_eq_true (decide ((s92.1.fIn.length : Int) < (2 : Int))) with hg125 | hg125
          · replace h := ite_t hg125 h
            refine rg (c (ov (.ptr 1010 2 [2]) (fp hN Try.underlying31 2 tyS28 _ (q 10))) rfl (c (lb hN 31 _ _ tyS28 (ad _) (q 26)) rfl (c (OpJ.val (v' := (i6 (s92.1.fIn.length : Int))) (by simp) (OpJ.lenD Try.underlying28 (L rfl) (q 27))) rfl (c (OpJ.lss (L rfl) (q 28) (Opd.int .i64 (2))) rfl (c (OpJ.val (v' := .d (.bool true)) (by rw [hg125]) (mv hN (q 29))) rfl (cg (OpJ.skipU (g := 30) (L rfl) (by rfl)) rfl (cg (OpJ.skipU (g := 30) (L rfl) (by rfl)) rfl (cg (OpJ.skipU (g := 30) (L rfl) (by rfl)) rfl (cg (OpJ.skipU (g := 30) (L rfl) (by rfl)) rfl (cg (OpJ.skipU (g := 30) (L rfl) (by rfl)) rfl (c (OpJ.pickT (L rfl) (q 30) (Opd.bool true)) rfl cn))))))))))) ?_
            exact hjj119 _ h _ _ (Mat.trans (mp [] [(0, (.ptr 0 0 [])), (2, (.ptr 1002 0 [])), (3, (.ptr 1003 0 [])), (5, (.ptr 1005 0 [])), (6, (.ptr 1006 0 [])), (7, (.sref 3007 4 0 s3.2.1.length)), (10, (.ptr 1010 0 [])), (16, (qe_api_Port_10 r1.1.fPorts)), (17, (i6 (r1.1.fPorts.length : Int))), (18, (i6 s3.1)), (36, (bo true))] [(0, some (.box 72 (.d (e_exchangepointmill_Deck s92.2)))), (1002, some (.box 24 (.st [(i6 0), (.d (.str ([] : List UInt8))), (.d (.str ([] : List UInt8))), (i6 0), (i6 0), .nils]))), (1003, some (.box 27 (.d (.st [(.int .i64 0), (.int .i64 0), (.int .i64 0)])))), (1005, some (.box 24 (.d (e_api_Member r1.1)))), (1006, some (.box 27 (.d (e_api_Tariff r2.1)))), (1010, some (.box 31 (.d (e_api_Series s92.1)))), (3007, some (we_api_Series_31_4 s3.2.1))] hB) (mp [] _ _ hB))
          · replace h := ite_f hg125 h
            obtain ⟨x126, hx126, h⟩ := bindS h
            refine rg (c (ov (.ptr 1010 2 [2]) (fp hN Try.underlying31 2 tyS28 _ (q 10))) rfl (c (lb hN 31 _ _ tyS28 (ad _) (q 26)) rfl (c (OpJ.val (v' := (i6 (s92.1.fIn.length : Int))) (by simp) (OpJ.lenD Try.underlying28 (L rfl) (q 27))) rfl (c (OpJ.lss (L rfl) (q 28) (Opd.int .i64 (2))) rfl (c (OpJ.val (v' := .d (.bool false)) (by rw [hg125]) (mv hN (q 29))) rfl (c (OpJ.guarded (g := 30) (by rfl) (ov (.ptr 1010 2 [2]) (fp hN Try.underlying31 2 tyS28 _ (q 10)))) rfl (c (OpJ.guarded (g := 30) (by rfl) (lb hN 31 _ _ tyS28 (ad _) (q 31))) rfl (c (OpJ.guarded (g := 30) (by rfl) (OpJ.indexD Try.underlying28 tyS3 (idx_some hx126).1 (get_map (eI .i64) (idx_some hx126).2) (L rfl) (q 32) (Opd.int .i64 (0)))) rfl (c (OpJ.guarded (g := 30) (by rfl) (OpJ.loadD tyS3 (by rfl) (by rfl) (L rfl) (q 33))) rfl (c (OpJ.guarded (g := 30) (by rfl) (OpJ.lss (L rfl) (q 34) (Opd.int .i64 (0)))) rfl (c (OpJ.pickF (L rfl) (q 30) (q 35)) rfl cn))))))))))) ?_
            exact hjj119 _ h _ _ (Mat.trans (mp [] [(0, (.ptr 0 0 [])), (2, (.ptr 1002 0 [])), (3, (.ptr 1003 0 [])), (5, (.ptr 1005 0 [])), (6, (.ptr 1006 0 [])), (7, (.sref 3007 4 0 s3.2.1.length)), (10, (.ptr 1010 0 [])), (16, (qe_api_Port_10 r1.1.fPorts)), (17, (i6 (r1.1.fPorts.length : Int))), (18, (i6 s3.1)), (36, (bo (decide (x126 < (0 : Int)))))] [(0, some (.box 72 (.d (e_exchangepointmill_Deck s92.2)))), (1002, some (.box 24 (.st [(i6 0), (.d (.str ([] : List UInt8))), (.d (.str ([] : List UInt8))), (i6 0), (i6 0), .nils]))), (1003, some (.box 27 (.d (.st [(.int .i64 0), (.int .i64 0), (.int .i64 0)])))), (1005, some (.box 24 (.d (e_api_Member r1.1)))), (1006, some (.box 27 (.d (e_api_Tariff r2.1)))), (1010, some (.box 31 (.d (e_api_Series s92.1)))), (3007, some (we_api_Series_31_4 s3.2.1))] hB) (mp [] _ _ hB))
      · obtain ⟨rfl, hmat⟩ := hR
        refine blkQ_hit ?_
        refine seqQ_n ?_
        refine AWp.ghost hmat ?_
        obtain ⟨hc129, h⟩ := chk_some h
        refine rg (c (mv hN (q 7)) rfl (c (lb hN 31 _ _ tyS31 (At.here _) (q 10)) rfl (c (OpJ.buildSlice Try.underlying25 tyS31 tyZD31 (by rfl) (by decide) (by decide) (Opds.cons (q 52) Opds.nil) (by kernel_rfl) (es := ([(e_api_Series p115.1)] : List D)) (by rfl) (by rfl) (by kernel_rfl) (by simp) (L rfl)) rfl (cg (OpJ.append hB Try.underlying25 tyE31 (nm := 1054) (by decide) (es := s3.2.1.map e_api_Series) (ys := ([p115.1] : List api_Series).map e_api_Series) (es' := (s3.2.1 ++ ([p115.1] : List api_Series)).map e_api_Series) (len := (s3.2.1 ++ ([p115.1] : List api_Series)).length) (by simp) (by simp) (map_sz (f := e_api_Series) (fun _ => rfl)) (by rw [List.length_map]; exact lim_mulN hc129 (by decide)) (by rw [List.length_map]; exact lim_leN hc129) (L rfl) (by simp) (q 51) (q 53)) rfl (c (OpJ.assign (L rfl) (q 54)) rfl cn))))) ?_
        refine blkQ_n ?_
        refine seqQ_n ?_
        refine gh [(0, _), (2, _), (3, _), (5, _), (6, _), (7, _), (16, _), (17, _), (18, _)] [(0, some _), (1002, some _), (1003, some _), (1005, some _), (1006, some _), (1054, some _)] hB rfl rfl (by rfl) ?_
        refine rg (c (add6 (L rfl) (q 18) (Opd.int .i64 (1))) rfl (c (mv hN (q 55)) rfl cn)) ?_
        obtain rfl := Option.some.inj h
        exact ⟨rfl, (Mat.trans (mp [] [(0, (.ptr 0 0 [])), (2, (.ptr 1002 0 [])), (3, (.ptr 1003 0 [])), (5, (.ptr 1005 0 [])), (6, (.ptr 1006 0 [])), (7, (.sref 1054 4 0 ((s3.2.1 ++ ([p115.1] : List api_Series)).length))), (16, (qe_api_Port_10 r1.1.fPorts)), (17, (i6 (r1.1.fPorts.length : Int))), (18, (i6 (w64 (s3.1 + (1 : Int)))))] [(0, some (.box 72 (.d (e_exchangepointmill_Deck p115.2)))), (1002, some (.box 24 (.st [(i6 0), (.d (.str ([] : List UInt8))), (.d (.str ([] : List UInt8))), (i6 0), (i6 0), .nils]))), (1003, some (.box 27 (.d (.st [(.int .i64 0), (.int .i64 0), (.int .i64 0)])))), (1005, some (.box 24 (.d (e_api_Member r1.1)))), (1006, some (.box 27 (.d (e_api_Tariff r2.1)))), (1054, some (we_api_Series_31_4 (s3.2.1 ++ ([p115.1] : List api_Series))))] hB) (mp [(3007, 1054)] _ _ hB))⟩
    · replace h := ite_f hg89 h
      refine AWp.exit ?_
      refine seqQ_e ?_
      obtain rfl := Option.some.inj h
      exact ⟨(fun hc => by cases hc), rfl, (mp [] _ _ hB)⟩
  · obtain ⟨rfl, hmat⟩ := hR
    refine blkQ_hit ?_
    refine seqQ_n ?_
    refine AWp.ghost hmat ?_
    refine sd (c (lb hN 24 _ _ tyS24 (At.here _) (q 5)) rfl (c (lb hN 27 _ _ tyS27 (At.here _) (q 6)) rfl (c (mv hN (q 7)) rfl (cg (OpJ.storeB tyS24 (SetAt.here _ _) (by rfl) (by rfl) (by simp) rfl (q 2) (q 56)) rfl (cg (OpJ.storeB tyS27 (SetAt.here _ _) (by rfl) (by rfl) (by simp) rfl (q 3) (q 57)) rfl (c (OpJ.assign (L rfl) (q 58)) rfl cn)))))) (by kernel_rfl) (by kernel_rfl) ?_
    refine gh [(2, _), (3, _), (4, _)] [(0, some _), (1002, some _), (1003, some _), (3007, some _)] hB rfl rfl (by rfl) ?_
    refine AWp.ret ?_
    obtain rfl := Option.some.inj h
    exact ⟨.inl rfl, _, _, (Mat.trans (Mat.freezeP (n := 3007) (e := 31) (sz := 4) (es := p88.2.map e_api_Series) (Ts := [(4, (qe_api_Series_4 p88.2))]) (Bs := []) (by rfl) (TwT.cons (x := (.sref 3007 4 0 p88.2.length)) (by rfl) (FrzL.all (by first | rfl | (simp; done) | (simp; omega))) TwT.nil) TwB.nil) (mp [] [(2, (.ptr 1002 0 [])), (3, (.ptr 1003 0 [])), (4, (qe_api_Series_4 p88.2))] [(0, some (.box 72 (.d (e_exchangepointmill_Deck p88.1)))), (1002, some (.box 24 (.d (e_api_Member r1.1)))), (1003, some (.box 27 (.d (e_api_Tariff r2.1))))] hB)), [(.d (e_api_Member r1.1)), (.d (e_api_Tariff r2.1)), (qe_api_Series_4 p88.2)], (Res.cell (c := (.d (e_api_Member r1.1))) (by rfl) (by rfl) tyS24 (by rfl) (by rfl) (by rfl) (Res.cell (c := (.d (e_api_Tariff r2.1))) (by rfl) (by rfl) tyS27 (by rfl) (by rfl) (by rfl) (Res.tmp (by rfl) (by rfl) Res.nil))), rfl, by rfl, by rfl, by rfl⟩

noncomputable def exchangepointref41_Valid (a0 : api_Tariff) : Option (Bool) :=
  some ((((((decide ((0 : Int) ≤ a0.fBase)) && (decide (a0.fBase ≤ (1099511627776 : Int)))) && (decide ((0 : Int) ≤ a0.fIncluded))) && (decide (a0.fIncluded ≤ (1048576 : Int)))) && (decide ((0 : Int) ≤ a0.fRate))) && (decide (a0.fRate ≤ (1048576 : Int))))
set_option maxHeartbeats 4000000 in
set_option maxRecDepth 100000 in
theorem exchangepointref41_Valid_ac (a0 : api_Tariff) (r : Bool) (h : exchangepointref41_Valid a0 = some r) : AC Try.prog 27 [(.d (e_api_Tariff a0))] [] (.d (.bool r)) [] := by
  refine AC.of_code2 Try.func27 rfl rfl (Nat.le_of_ble_eq_true (by rfl)) fun B hB hN => ?_
  have L {d : Nat} (h : Nat.blt d Try.f27.ntmps = true) : d < B.N := ltN hN h
  delta exchangepointref41_Valid at h
  refine sr (cg (OpJ.box hB (nm := 1001) (by decide) (by simp) rfl (L rfl) (q 0)) rfl (c (OpJ.assign (L rfl) (Opd.bool false)) rfl cn)) ?_
  refine gh [(1, _)] [(1001, some _)] hB rfl rfl (by rfl) ?_
  refine sr (c (ov (.ptr 1001 0 [0]) (fp hN Try.underlying27 0 tyS3 _ (q 1))) rfl (c (lb hN 27 _ _ tyS3 (ad _) (q 3)) rfl (c (OpJ.geq (L rfl) (q 4) (Opd.int .i64 (0))) rfl (c (mv hN (q 5)) rfl (c (oq hN 6 (ov (.ptr 1001 0 [0]) (fp hN Try.underlying27 0 tyS3 _ (q 1))) (OptL.keep (by rfl) OptL.nil) (GuardV.plain _)) rfl (c (oq hN 6 (lb hN 27 _ _ tyS3 (ad _) (q 7)) (OptL.opt OptL.nil) (GuardV.plain _)) rfl (c (oq hN 6 (OpJ.leq (L rfl) (q 8) (Opd.int .i64 (1099511627776))) (OptL.opt OptL.nil) (GuardV.plain _)) rfl (c (OpJ.pickAnd rfl (L rfl) (q 6) (q 9)) rfl (c (mv hN (q 10)) rfl (c (oq hN 11 (ov (.ptr 1001 1 [1]) (fp hN Try.underlying27 1 tyS3 _ (q 1))) (OptL.keep (by rfl) OptL.nil) (GuardV.plain _)) rfl (c (oq hN 11 (lb hN 27 _ _ tyS3 (ad _) (q 12)) (OptL.opt OptL.nil) (GuardV.plain _)) rfl (c (oq hN 11 (OpJ.geq (L rfl) (q 13) (Opd.int .i64 (0))) (OptL.opt OptL.nil) (GuardV.plain _)) rfl (c (OpJ.pickAnd rfl (L rfl) (q 11) (q 14)) rfl (c (mv hN (q 15)) rfl (c (oq hN 16 (ov (.ptr 1001 1 [1]) (fp hN Try.underlying27 1 tyS3 _ (q 1))) (OptL.keep (by rfl) OptL.nil) (GuardV.plain _)) rfl (c (oq hN 16 (lb hN 27 _ _ tyS3 (ad _) (q 17)) (OptL.opt OptL.nil) (GuardV.plain _)) rfl (c (oq hN 16 (OpJ.leq (L rfl) (q 18) (Opd.int .i64 (1048576))) (OptL.opt OptL.nil) (GuardV.plain _)) rfl (c (OpJ.pickAnd rfl (L rfl) (q 16) (q 19)) rfl (c (mv hN (q 20)) rfl (c (oq hN 21 (ov (.ptr 1001 2 [2]) (fp hN Try.underlying27 2 tyS3 _ (q 1))) (OptL.keep (by rfl) OptL.nil) (GuardV.plain _)) rfl (c (oq hN 21 (lb hN 27 _ _ tyS3 (ad _) (q 22)) (OptL.opt OptL.nil) (GuardV.plain _)) rfl (c (oq hN 21 (OpJ.geq (L rfl) (q 23) (Opd.int .i64 (0))) (OptL.opt OptL.nil) (GuardV.plain _)) rfl (c (OpJ.pickAnd rfl (L rfl) (q 21) (q 24)) rfl (c (mv hN (q 25)) rfl (c (oq hN 26 (ov (.ptr 1001 2 [2]) (fp hN Try.underlying27 2 tyS3 _ (q 1))) (OptL.keep (by rfl) OptL.nil) (GuardV.plain _)) rfl (c (oq hN 26 (lb hN 27 _ _ tyS3 (ad _) (q 27)) (OptL.opt OptL.nil) (GuardV.plain _)) rfl (c (oq hN 26 (OpJ.leq (L rfl) (q 28) (Opd.int .i64 (1048576))) (OptL.opt OptL.nil) (GuardV.plain _)) rfl (c (OpJ.pickAnd rfl (L rfl) (q 26) (q 29)) rfl (c (OpJ.assign (L rfl) (q 30)) rfl cn))))))))))))))))))))))))))))) ?_
  refine gh [(2, _)] [] hB rfl rfl (by rfl) ?_
  refine AWp.ret ?_
  obtain rfl := Option.some.inj h
  exact ⟨.inl rfl, _, _, (kp [(2, _)] [] hB rfl rfl (by rfl)), [(bo ((((((decide ((0 : Int) ≤ a0.fBase)) && (decide (a0.fBase ≤ (1099511627776 : Int)))) && (decide ((0 : Int) ≤ a0.fIncluded))) && (decide (a0.fIncluded ≤ (1048576 : Int)))) && (decide ((0 : Int) ≤ a0.fRate))) && (decide (a0.fRate ≤ (1048576 : Int)))))], (Res.tmp (by rfl) (by rfl) Res.nil), rfl, by rfl, by rfl, by rfl⟩

noncomputable def exchangepointref41_Price (a0 : api_Tariff) (a1 : Int) : Option (Int × Int) :=
  (exchangepointref41_Valid a0).bind fun r1 =>
  (if (!r1) = true then
  some ((0 : Int), (38 : Int))
  else
  (if ((decide (a1 < (0 : Int))) || (decide ((1099511627776 : Int) < a1))) = true then
  some ((0 : Int), (1 : Int))
  else
  (if (decide ((1125899906842624 : Int) < (w64 (a0.fBase + (w64 (a0.fRate * (maxI (0 : Int) (w64 (a1 - a0.fIncluded))))))))) = true then
  some ((0 : Int), (3 : Int))
  else
  some ((w64 (a0.fBase + (w64 (a0.fRate * (maxI (0 : Int) (w64 (a1 - a0.fIncluded))))))), (0 : Int)))))
set_option maxHeartbeats 4000000 in
set_option maxRecDepth 100000 in
theorem exchangepointref41_Price_ac (a0 : api_Tariff) (a1 : Int) (r : Int × Int) (h : exchangepointref41_Price a0 a1 = some r) : AC Try.prog 12 [(.d (e_api_Tariff a0)), (.d (.int .i64 a1))] [] (.tup [(.d (.int .i64 r.1)), (.d (.int .i64 r.2))]) [] := by
  refine AC.of_code2 Try.func12 rfl rfl (Nat.le_of_ble_eq_true (by rfl)) fun B hB hN => ?_
  have L {d : Nat} (h : Nat.blt d Try.f12.ntmps = true) : d < B.N := ltN hN h
  delta exchangepointref41_Price at h
  refine sr (cg (OpJ.box hB (nm := 1002) (by decide) (by simp) rfl (L rfl) (q 0)) rfl (c (OpJ.assign (L rfl) (Opd.int .i64 (0))) rfl (c (OpJ.assign (L rfl) (Opd.int .i64 (0))) rfl cn))) ?_
  refine gh [(1, _), (2, _)] [(1002, some _)] hB rfl rfl (by rfl) ?_
  refine AWp.seq ?_
  obtain ⟨r1, hr1, h⟩ := bindS h
  refine sr (c (lb hN 27 _ _ tyS27 (At.here _) (q 2)) rfl (cg (OpJ.callFn hB fnOk27 (exchangepointref41_Valid_ac a0 r1 hr1) [] (by kernel_rfl) (L rfl) (by kernel_rfl) (OpdL.cons (q 7) OpdL.nil)) rfl (c (OpJ.not (L rfl) (q 8)) rfl cn))) ?_
  refine gh [(1, _), (2, _), (9, _)] [(1002, some _)] hB rfl rfl (by rfl) ?_
  refine AWp.cond rfl (fun hg2 => ?_) (fun hg2 => ?_)
  · replace h := ite_t hg2 h
    refine sr (c (OpJ.assign (L rfl) (Opd.int .i64 (0))) rfl (c (OpJ.assign (L rfl) (Opd.int .i64 (38))) rfl cn)) ?_
    refine gh [(4, _), (5, _)] [] hB rfl rfl (by rfl) ?_
    refine AWp.ret ?_
    refine seqQ_r ?_
    obtain rfl := Option.some.inj h
    exact ⟨.inl rfl, _, _, (kp [(4, _), (5, _)] [] hB rfl rfl (by rfl)), [(i6 0), (i6 (38 : Int))], (Res.tmp (by rfl) (by rfl) (Res.tmp (by rfl) (by rfl) Res.nil)), rfl, by rfl, by rfl, by rfl⟩
  · replace h := ite_f hg2 h
    refine AWp.skip ?_
    refine seqQ_n ?_
    refine AWp.seq ?_
    refine sr (c (mv hN (q 1)) rfl (c (OpJ.lss (L rfl) (q 10) (Opd.int .i64 (0))) rfl (c (mv hN (q 11)) rfl (c (oq hN 12 (mv hN (q 1)) (OptL.keep (by rfl) OptL.nil) (GuardV.plain _)) rfl (c (oq hN 12 (OpJ.gtr (L rfl) (q 13) (Opd.int .i64 (1099511627776))) (OptL.opt OptL.nil) (GuardV.plain _)) rfl (c (OpJ.pickOr rfl (L rfl) (q 12) (q 14)) rfl cn)))))) ?_
    refine gh [(1, _), (2, _), (15, _)] [(1002, some _)] hB rfl rfl (by rfl) ?_
    refine AWp.cond rfl (fun hg3 => ?_) (fun hg3 => ?_)
    · replace h := ite_t hg3 h
      refine sr (c (OpJ.assign (L rfl) (Opd.int .i64 (0))) rfl (c (OpJ.assign (L rfl) (Opd.int .i64 (1))) rfl cn)) ?_
      refine gh [(4, _), (5, _)] [] hB rfl rfl (by rfl) ?_
      refine AWp.ret ?_
      refine seqQ_r ?_
      obtain rfl := Option.some.inj h
      exact ⟨.inl rfl, _, _, (kp [(4, _), (5, _)] [] hB rfl rfl (by rfl)), [(i6 0), (i6 1)], (Res.tmp (by rfl) (by rfl) (Res.tmp (by rfl) (by rfl) Res.nil)), rfl, by rfl, by rfl, by rfl⟩
    · replace h := ite_f hg3 h
      refine AWp.skip ?_
      refine seqQ_n ?_
      refine sr (c (ov (.ptr 1002 0 [0]) (fp hN Try.underlying27 0 tyS3 _ (q 2))) rfl (c (lb hN 27 _ _ tyS3 (ad _) (q 16)) rfl (c (ov (.ptr 1002 2 [2]) (fp hN Try.underlying27 2 tyS3 _ (q 2))) rfl (c (lb hN 27 _ _ tyS3 (ad _) (q 18)) rfl (c (mv hN (q 1)) rfl (c (ov (.ptr 1002 1 [1]) (fp hN Try.underlying27 1 tyS3 _ (q 2))) rfl (c (lb hN 27 _ _ tyS3 (ad _) (q 21)) rfl (c (sub6 (L rfl) (q 20) (q 22)) rfl (c (OpJ.max (L rfl) (Opd.int .i64 (0)) (q 23)) rfl (c (mul6 (L rfl) (q 19) (q 24)) rfl (c (add6 (L rfl) (q 17) (q 25)) rfl (c (OpJ.assign (L rfl) (q 26)) rfl cn)))))))))))) ?_
      refine gh [(6, _)] [] hB rfl rfl (by rfl) ?_
      refine AWp.seq ?_
      refine sr (c (mv hN (q 6)) rfl (c (OpJ.gtr (L rfl) (q 27) (Opd.int .i64 (1125899906842624))) rfl cn)) ?_
      refine gh [(6, _), (28, _)] [] hB rfl rfl (by rfl) ?_
      refine AWp.cond rfl (fun hg4 => ?_) (fun hg4 => ?_)
      · replace h := ite_t hg4 h
        refine sr (c (OpJ.assign (L rfl) (Opd.int .i64 (0))) rfl (c (OpJ.assign (L rfl) (Opd.int .i64 (3))) rfl cn)) ?_
        refine gh [(4, _), (5, _)] [] hB rfl rfl (by rfl) ?_
        refine AWp.ret ?_
        refine seqQ_r ?_
        obtain rfl := Option.some.inj h
        exact ⟨.inl rfl, _, _, (kp [(4, _), (5, _)] [] hB rfl rfl (by rfl)), [(i6 0), (i6 (3 : Int))], (Res.tmp (by rfl) (by rfl) (Res.tmp (by rfl) (by rfl) Res.nil)), rfl, by rfl, by rfl, by rfl⟩
      · replace h := ite_f hg4 h
        refine AWp.skip ?_
        refine seqQ_n ?_
        refine sr (c (mv hN (q 6)) rfl (c (OpJ.assign (L rfl) (q 29)) rfl (c (OpJ.assign (L rfl) (Opd.int .i64 (0))) rfl cn))) ?_
        refine gh [(4, _), (5, _)] [] hB rfl rfl (by rfl) ?_
        refine AWp.ret ?_
        obtain rfl := Option.some.inj h
        exact ⟨.inl rfl, _, _, (kp [(4, _), (5, _)] [] hB rfl rfl (by rfl)), [(i6 (w64 (a0.fBase + (w64 (a0.fRate * (maxI (0 : Int) (w64 (a1 - a0.fIncluded)))))))), (i6 0)], (Res.tmp (by rfl) (by rfl) (Res.tmp (by rfl) (by rfl) Res.nil)), rfl, by rfl, by rfl, by rfl⟩

noncomputable def exchangepointref41_ports_L1 (s1 : Int × (List Int)) (x102 : api_Port) (s103 : Int) : Option (((Int)) ⊕ (Int)) :=
  jn (fun m126 : Bool =>
  (if m126 = true then
  some (.inr (w64 (s103 - (1 : Int))))
  else
  some (.inl s103))) (fun j127 =>
  (if (decide ((0 : Int) < s103)) = true then
  (idx s1.2 (w64 (s103 - (1 : Int)))).bind fun x130 =>
  (idx s1.2 (w64 (s103 - (1 : Int)))).bind fun x131 =>
  j127 (decide (x102.fID < x131))
  else
  j127 false))
noncomputable def exchangepointref41_ports_L0 (a0 : api_Member) (s1 : Int × (List Int)) : Option (((Unit) ⊕ ((List Int))) ⊕ (Int × (List Int))) :=
  (if (decide (s1.1 < (a0.fPorts.length : Int))) = true then
  (idx a0.fPorts s1.1).bind fun x102 =>
  (loop (exchangepointref41_ports_L1 s1 x102) (s1.2.length : Int)).bind fun p122 =>
  jn (fun m138 : Bool =>
  (if m138 = true then
  some (.inl (.inl ()))
  else
  chk ((decide (0 ≤ p122) && decide (p122.toNat ≤ s1.2.length) && decide (s1.2.length ≤ s1.2.length))) <|
  chk (decide (p122.toNat + (s1.2.length - p122.toNat) ≤ s1.2.length)) <|
  chk (decide (((s1.2.drop p122.toNat).take (s1.2.length - p122.toNat)).length ≤ LIM)) <|
  chk ((decide (0 ≤ p122) && decide (0 ≤ p122.toNat) && decide (p122.toNat ≤ s1.2.length))) <|
  chk (decide (((s1.2.take p122.toNat) ++ ([x102.fID] : List Int)).length ≤ LIM)) <|
  chk (decide ((((s1.2.take p122.toNat) ++ ([x102.fID] : List Int)) ++ ((s1.2.drop p122.toNat).take (s1.2.length - p122.toNat))).length ≤ LIM)) <|
  some (.inr ((w64 (s1.1 + (1 : Int))), (((s1.2.take p122.toNat) ++ ([x102.fID] : List Int)) ++ ((s1.2.drop p122.toNat).take (s1.2.length - p122.toNat))))))) (fun j139 =>
  (if ((decide (x102.fID < (1 : Int))) || (decide ((999 : Int) < x102.fID))) = true then
  j139 true
  else
  (if (decide ((0 : Int) < p122)) = true then
  (idx s1.2 (w64 (p122 - (1 : Int)))).bind fun x151 =>
  (idx s1.2 (w64 (p122 - (1 : Int)))).bind fun x152 =>
  j139 (x152 == x102.fID)
  else
  j139 false)))
  else
  some (.inl (.inr s1.2)))
noncomputable def exchangepointref41_ports (a0 : api_Member) : Option ((List Int) × Bool) :=
  (loop (exchangepointref41_ports_L0 a0) ((0 : Int), ([] : List Int))).bind fun x153 => match x153 with
  | (.inl _) =>
    some (([] : List Int), false)
  | (.inr p100) =>
    some (p100, (decide ((p100.length : Int) ≤ (4 : Int))))
set_option maxHeartbeats 4000000 in
set_option maxRecDepth 100000 in
theorem exchangepointref41_ports_ac (a0 : api_Member) (r : (List Int) × Bool) (h : exchangepointref41_ports a0 = some r) : AC Try.prog 36 [(.d (e_api_Member a0))] [] (.tup [(.d (.list 1 (r.1.map (eI .i64)))), (.d (.bool r.2))]) [] := by
  refine AC.of_code2 Try.func36 rfl rfl (Nat.le_of_ble_eq_true (by rfl)) fun B hB hN => ?_
  have L {d : Nat} (h : Nat.blt d Try.f36.ntmps = true) : d < B.N := ltN hN h
  delta exchangepointref41_ports at h
  refine sr (cg (OpJ.box hB (nm := 1001) (by decide) (by simp) rfl (L rfl) (q 0)) rfl (c (OpJ.assign (L rfl) Opd.nils) rfl (c (OpJ.assign (L rfl) (Opd.bool false)) rfl cn))) ?_
  refine gh [(1, _)] [(1001, some _)] hB rfl rfl (by rfl) ?_
  refine sr (c (OpJ.assign (L rfl) Opd.nils) rfl cn) ?_
  refine gh [(1, _), (4, _)] [(1001, some _)] hB rfl rfl (by rfl) ?_
  refine AWp.seq ?_
  refine sr (c (ov (.ptr 1001 5 [5]) (fp hN Try.underlying24 5 tyS22 _ (q 1))) rfl (c (lb hN 24 _ _ tyS22 (ad _) (q 9)) rfl (c (OpJ.val (v' := (i6 (a0.fPorts.length : Int))) (by simp) (OpJ.lenD Try.underlying22 (L rfl) (q 10))) rfl (c (mv hN (Opd.int .i64 (0))) rfl cn)))) ?_
  refine gh [(4, _), (10, _), (11, _), (12, _)] [] hB rfl rfl (by rfl) ?_
  refine AWp.block ?_
  obtain ⟨x153, hx154, h⟩ := bindS h
  refine lg (exchangepointref41_ports_L0 a0) (fun s1 : Int × (List Int) => ([(4, (.sref 3004 1 0 s1.2.length)), (10, (qe_api_Port_10 a0.fPorts)), (11, (i6 (a0.fPorts.length : Int))), (12, (i6 s1.1))] : EL)) (fun s1 : Int × (List Int) => ([(3004, some (wI_3_1 s1.2))] : OL)) (fun (x : (Unit) ⊕ ((List Int))) e E' O' => match x with | (.inl _p) => e = .ret ∧ Mat B E' O' ([(2, .nils), (3, (bo false))] : EL) ([] : OL) | (.inr p100) => e = .exit 0 ∧ Mat B E' O' ([(4, (.sref 3004 1 0 p100.length))] : EL) ([(3004, some (wI_3_1 p100))] : OL)) hx154 (Mat.trans (Mat.beginP (n := 3004) (e := 3) (sz := 1) (Ts := [(4, (.sref 3004 1 0 0))]) (Bs := []) hB (by decide) (by rfl) (by decide) (TwT.cons (x := .nils) (by rfl) (Tw.leaf ⟨rfl, rfl⟩) TwT.nil) TwB.nil) (mp [] _ _ hB)) (fun s1 y h => ?_) (fun e E' O' hR => ?_)
  · unfold exchangepointref41_ports_L0 at h
    refine sr (c (OpJ.lss (L rfl) (q 12) (q 11)) rfl cn) ?_
    refine gh [(4, _), (10, _), (11, _), (12, _), (13, _)] [(3004, some _)] hB rfl rfl (by rfl) ?_
    refine AWp.seq ?_
    refine AWp.cond rfl (fun hg101 => ?_) (fun hg101 => ?_)
    · replace h := ite_t hg101 h
      refine AWp.skip ?_
      refine seqQ_n ?_
      refine AWp.seq ?_
      refine AWp.block ?_
      obtain ⟨x102, hx102, h⟩ := bindS h
      refine sr (c (OpJ.indexD Try.underlying22 tyS68 (idx_some hx102).1 (get_map e_api_Port (idx_some hx102).2) (L rfl) (q 10) (q 12)) rfl (c (OpJ.loadD tyS68 (by rfl) (by rfl) (L rfl) (q 14)) rfl (cg (OpJ.alloc hB tyZ68 (nm := 1006) (by decide) (L rfl)) rfl (cg (OpJ.storeB tyS68 (SetAt.here _ _) (by rfl) (by rfl) (by simp) rfl (q 6) (q 15)) rfl cn)))) ?_
      refine gh [(4, _), (6, _), (10, _), (11, _), (12, _)] [(1006, some _), (3004, some _)] hB rfl rfl (by rfl) ?_
      refine sr (c (mv hN (q 4)) rfl (c (OpJ.lenS Try.underlying28 (L rfl) (q 16)) rfl (c (OpJ.assign (L rfl) (q 17)) rfl cn))) ?_
      refine gh [(4, _), (6, _), (7, _), (10, _), (11, _), (12, _)] [(1006, some _), (3004, some _)] hB rfl rfl (by rfl) ?_
      refine AWp.seq ?_
      refine AWp.block ?_
      obtain ⟨p122, hx133, h⟩ := bindS h
      refine lg (exchangepointref41_ports_L1 s1 x102) (fun s103 : Int => ([(4, (.sref 3004 1 0 s1.2.length)), (6, (.ptr 1006 0 [])), (7, (i6 s103)), (10, (qe_api_Port_10 a0.fPorts)), (11, (i6 (a0.fPorts.length : Int))), (12, (i6 s1.1))] : EL)) (fun s103 : Int => ([(1006, some (.box 68 (.d (e_api_Port x102)))), (3004, some (wI_3_1 s1.2))] : OL)) (fun (p122 : (Int)) e E' O' => e = .exit 2 ∧ Mat B E' O' ([(4, (.sref 3004 1 0 s1.2.length)), (6, (.ptr 1006 0 [])), (7, (i6 p122)), (10, (qe_api_Port_10 a0.fPorts)), (11, (i6 (a0.fPorts.length : Int))), (12, (i6 s1.1))] : EL) ([(1006, some (.box 68 (.d (e_api_Port x102)))), (3004, some (wI_3_1 s1.2))] : OL)) hx133 (mp [] _ _ hB) (fun s103 y h => ?_) (fun e E' O' hR => ?_)
      · unfold exchangepointref41_ports_L1 at h
        refine AWp.seq ?_
        refine AWp.seq ?_
        refine AWp.cut h (fun m126 : Bool => ([(4, (.sref 3004 1 0 s1.2.length)), (6, (.ptr 1006 0 [])), (7, (i6 s103)), (10, (qe_api_Port_10 a0.fPorts)), (11, (i6 (a0.fPorts.length : Int))), (12, (i6 s1.1)), (29, (bo m126))] : EL)) (fun m126 : Bool => ([(1006, some (.box 68 (.d (e_api_Port x102)))), (3004, some (wI_3_1 s1.2))] : OL)) (fun m126 h E' O' hmat => ?_) (fun j127 hjj127 h => ?_)
        · refine seqQ_n ?_
          refine AWp.ghost hmat ?_
          refine AWp.cond rfl (fun hg128 => ?_) (fun hg128 => ?_)
          · replace h := ite_t hg128 h
            refine AWp.skip ?_
            refine seqQ_n ?_
            refine AWp.block ?_
            refine rg (c (mv hN (q 7)) rfl (c (sub6 (L rfl) (q 30) (Opd.int .i64 (1))) rfl (c (OpJ.assign (L rfl) (q 31)) rfl cn))) ?_
            refine blkQ_n ?_
            obtain rfl := Option.some.inj h
            exact ⟨rfl, (Mat.trans (mp [] [(4, (.sref 3004 1 0 s1.2.length)), (6, (.ptr 1006 0 [])), (7, (i6 (w64 (s103 - (1 : Int))))), (10, (qe_api_Port_10 a0.fPorts)), (11, (i6 (a0.fPorts.length : Int))), (12, (i6 s1.1))] [(1006, some (.box 68 (.d (e_api_Port x102)))), (3004, some (wI_3_1 s1.2))] hB) (mp [] _ _ hB))⟩
          · replace h := ite_f hg128 h
            refine AWp.exit ?_
            refine seqQ_e ?_
            obtain rfl := Option.some.inj h
            exact ⟨(fun hc => by cases hc), rfl, (mp [] _ _ hB)⟩
        · rcases Bool.eq_false_or_eq_true (decide ((0 : Int) < s103)) with hg129 | hg129
          · replace h := ite_t hg129 h
            obtain ⟨x130, hx130, h⟩ := bindS h
            obtain ⟨x131, hx131, h⟩ := bindS h
            refine dr (c (mv hN (q 7)) rfl (c (OpJ.gtr (L rfl) (q 18) (Opd.int .i64 (0))) rfl (c (OpJ.val (v' := .d (.bool true)) (by rw [hg129]) (mv hN (q 19))) rfl (c (OpJ.guarded (g := 20) (by rfl) (mv hN (q 4))) rfl (c (OpJ.guarded (g := 20) (by rfl) (mv hN (q 7))) rfl (c (OpJ.guarded (g := 20) (by rfl) (sub6 (L rfl) (q 22) (Opd.int .i64 (1)))) rfl (c (OpJ.guarded (g := 20) (by rfl) (OpJ.val (v' := (.ptr 3004 ((w64 (s103 - (1 : Int))).toNat * 1) [(w64 (s103 - (1 : Int))).toNat])) (by simp) (OpJ.indexS Try.underlying28 tyS3 (idx_some hx130).1 (by have := idx_lt hx130; first | (simpa using this) | ((try simp only [List.length_map] at this); (try simp only [List.length_map]); omega)) (L rfl) (q 21) (q 23)))) rfl (c (OpJ.guarded (g := 20) (by rfl) (OpJ.loadR (e := 3) (sz := 1) tyS3 (get_map (eI .i64) (idx_some hx131).2) (o := 0) (At.here _) (by rfl) (by rfl) (by rfl) (L rfl) (q 24))) rfl (c (OpJ.guarded (g := 20) (by rfl) (ov (.ptr 1006 0 [0]) (fp hN Try.underlying68 0 tyS3 _ (q 6)))) rfl (c (OpJ.guarded (g := 20) (by rfl) (lb hN 68 _ _ tyS3 (ad _) (q 26))) rfl (c (OpJ.guarded (g := 20) (by rfl) (OpJ.gtr (L rfl) (q 25) (q 27))) rfl (c (OpJ.pickT (L rfl) (q 20) (q 28)) rfl cn)))))))))))) (by kernel_rfl) (by kernel_rfl) ?_
            exact hjj127 _ h _ _ (Mat.trans (mp [] [(4, (.sref 3004 1 0 s1.2.length)), (6, (.ptr 1006 0 [])), (7, (i6 s103)), (10, (qe_api_Port_10 a0.fPorts)), (11, (i6 (a0.fPorts.length : Int))), (12, (i6 s1.1)), (29, (bo (decide (x102.fID < x131))))] [(1006, some (.box 68 (.d (e_api_Port x102)))), (3004, some (wI_3_1 s1.2))] hB) (mp [] _ _ hB))
          · replace h := ite_f hg129 h
            refine dr (c (mv hN (q 7)) rfl (c (OpJ.gtr (L rfl) (q 18) (Opd.int .i64 (0))) rfl (c (OpJ.val (v' := .d (.bool false)) (by rw [hg129]) (mv hN (q 19))) rfl (cg (OpJ.skipU (g := 20) (L rfl) (by rfl)) rfl (cg (OpJ.skipU (g := 20) (L rfl) (by rfl)) rfl (cg (OpJ.skipU (g := 20) (L rfl) (by rfl)) rfl (cg (OpJ.skipU (g := 20) (L rfl) (by rfl)) rfl (cg (OpJ.skipU (g := 20) (L rfl) (by rfl)) rfl (cg (OpJ.skipU (g := 20) (L rfl) (by rfl)) rfl (cg (OpJ.skipU (g := 20) (L rfl) (by rfl)) rfl (cg (OpJ.skipU (g := 20) (L rfl) (by rfl)) rfl (c (OpJ.pickF (L rfl) (q 20) (Opd.bool false)) rfl cn)))))))))))) (by kernel_rfl) (by kernel_rfl) ?_
            exact hjj127 _ h _ _ (Mat.trans (mp [] [(4, (.sref 3004 1 0 s1.2.length)), (6, (.ptr 1006 0 [])), (7, (i6 s103)), (10, (qe_api_Port_10 a0.fPorts)), (11, (i6 (a0.fPorts.length : Int))), (12, (i6 s1.1)), (29, (bo false))] [(1006, some (.box 68 (.d (e_api_Port x102)))), (3004, some (wI_3_1 s1.2))] hB) (mp [] _ _ hB))
      · obtain ⟨rfl, hmat⟩ := hR
        refine blkQ_hit ?_
        refine seqQ_n ?_
        refine AWp.ghost hmat ?_
        refine AWp.seq ?_
        refine AWp.seq ?_
        refine AWp.cut h (fun m138 : Bool => ([(4, (.sref 3004 1 0 s1.2.length)), (6, (.ptr 1006 0 [])), (7, (i6 p122)), (10, (qe_api_Port_10 a0.fPorts)), (11, (i6 (a0.fPorts.length : Int))), (12, (i6 s1.1)), (53, (bo m138))] : EL)) (fun m138 : Bool => ([(1006, some (.box 68 (.d (e_api_Port x102)))), (3004, some (wI_3_1 s1.2))] : OL)) (fun m138 h E' O' hmat => ?_) (fun j139 hjj139 h => ?_)
        · refine seqQ_n ?_
          refine AWp.ghost hmat ?_
          refine AWp.cond rfl (fun hg140 => ?_) (fun hg140 => ?_)
          · replace h := ite_t hg140 h
            refine sr (c (OpJ.assign (L rfl) Opd.nils) rfl (c (OpJ.assign (L rfl) (Opd.bool false)) rfl cn)) ?_
            refine gh [(2, _), (3, _)] [] hB rfl rfl (by rfl) ?_
            refine AWp.ret ?_
            refine seqQ_r ?_
            refine blkQ_r ?_
            refine seqQ_r ?_
            obtain rfl := Option.some.inj h
            exact ⟨(fun hc => by cases hc), rfl, (mp [] _ _ hB)⟩
          · replace h := ite_f hg140 h
            refine AWp.skip ?_
            refine seqQ_n ?_
            obtain ⟨hc141, h⟩ := chk_some h
            obtain ⟨hc142, h⟩ := chk_some h
            obtain ⟨hc143, h⟩ := chk_some h
            refine sr (c (mv hN (q 4)) rfl (c (mv hN (q 7)) rfl (c (OpJ.cutS Try.underlying28 tyS3 (l := p122.toNat) (h := s1.2.length) (off' := p122.toNat) (len' := (s1.2.length - p122.toNat)) (.inr ⟨_, _, _, rfl, (ot 55 (i6 p122)), (of_decide_eq_true (and_l2 (and_l2 hc141))), rfl⟩) (.inl ⟨rfl, rfl, rfl⟩) (of_decide_eq_true (and_r2 (and_l2 hc141))) (of_decide_eq_true (and_r2 hc141)) (by simp) (by simp) (L rfl) (q 54)) rfl (cg (OpJ.appendNS hB Try.underlying28 tyE3 (nm := 1057) (by decide) (es := s1.2.map (eI .i64)) (ys := ((s1.2.drop p122.toNat).take (s1.2.length - p122.toNat)).map (eI .i64)) (by rw [List.length_map]; exact of_decide_eq_true hc142) (by first | rw [List.map_drop, List.map_take] | simp [List.map_take, List.map_drop]) (len := ((s1.2.drop p122.toNat).take (s1.2.length - p122.toNat)).length) (by simp) (map_sz (f := (eI .i64)) (fun _ => rfl)) (by rw [List.length_map]; exact lim_mulN hc143 (by decide)) (by rw [List.length_map]; exact lim_leN hc143) (L rfl) Opd.nils (q 56)) rfl (c (OpJ.assign (L rfl) (q 57)) rfl cn))))) ?_
            refine gh [(4, _), (6, _), (7, _), (8, _), (10, _), (11, _), (12, _)] [(1006, some _), (1057, some _), (3004, some _)] hB rfl rfl (by rfl) ?_
            refine AWp.ghost (Mat.freezeP (n := 1057) (e := 3) (sz := 1) (es := ((s1.2.drop p122.toNat).take (s1.2.length - p122.toNat)).map (eI .i64)) (Ts := [(8, (qI_1 ((s1.2.drop p122.toNat).take (s1.2.length - p122.toNat))))]) (Bs := []) (by rfl) (TwT.cons (x := (.sref 1057 1 0 (((s1.2.drop p122.toNat).take (s1.2.length - p122.toNat)).length))) (by rfl) (FrzL.all (by first | rfl | (simp; done) | (simp; omega))) TwT.nil) TwB.nil) ?_
            obtain ⟨hc146, h⟩ := chk_some h
            obtain ⟨hc147, h⟩ := chk_some h
            obtain ⟨hc148, h⟩ := chk_some h
            refine dr (c (mv hN (q 4)) rfl (c (mv hN (q 7)) rfl (cg (OpJ.val (v' := (.sref 3004 1 0 ((s1.2.take p122.toNat).length))) (by rw [List.length_take, Nat.min_eq_left (of_decide_eq_true (and_r2 hc146))]) (OpJ.shrS (OpJ.cutS Try.underlying28 tyS3 (l := 0) (h := p122.toNat) (off' := 0) (len' := p122.toNat) (.inl ⟨rfl, rfl, rfl⟩) (.inr ⟨_, _, _, rfl, (ot 59 (i6 p122)), (of_decide_eq_true (and_l2 (and_l2 hc146))), rfl⟩) (of_decide_eq_true (and_r2 (and_l2 hc146))) (of_decide_eq_true (and_r2 hc146)) (by simp) (by simp) (L rfl) (q 58)) (es' := (s1.2.take p122.toNat).map (eI .i64)) (by rw [List.length_map]; exact (of_decide_eq_true (and_r2 hc146))) (by rw [List.map_take]))) rfl (c (ov (.ptr 1006 0 [0]) (fp hN Try.underlying68 0 tyS3 _ (q 6))) rfl (c (lb hN 68 _ _ tyS3 (ad _) (q 61)) rfl (c (OpJ.buildSlice Try.underlying28 tyS3 tyZD3 (by rfl) (by decide) (by decide) (Opds.cons (q 62) Opds.nil) (by kernel_rfl) (es := ([(.int .i64 x102.fID)] : List D)) (by rfl) (by rfl) (by kernel_rfl) (by simp) (L rfl)) rfl (cg (OpJ.append hB Try.underlying28 tyE3 (nm := 1064) (by decide) (es := (s1.2.take p122.toNat).map (eI .i64)) (ys := ([x102.fID] : List Int).map (eI .i64)) (es' := ((s1.2.take p122.toNat) ++ ([x102.fID] : List Int)).map (eI .i64)) (len := ((s1.2.take p122.toNat) ++ ([x102.fID] : List Int)).length) (by simp) (by simp) (map_sz (f := (eI .i64)) (fun _ => rfl)) (by rw [List.length_map]; exact lim_mulN hc147 (by decide)) (by rw [List.length_map]; exact lim_leN hc147) (L rfl) (by simp) (q 60) (q 63)) rfl (c (mv hN (q 8)) rfl (cg (OpJ.append hB Try.underlying28 tyE3 (nm := 1066) (by decide) (es := ((s1.2.take p122.toNat) ++ ([x102.fID] : List Int)).map (eI .i64)) (ys := ((s1.2.drop p122.toNat).take (s1.2.length - p122.toNat)).map (eI .i64)) (es' := (((s1.2.take p122.toNat) ++ ([x102.fID] : List Int)) ++ ((s1.2.drop p122.toNat).take (s1.2.length - p122.toNat))).map (eI .i64)) (len := (((s1.2.take p122.toNat) ++ ([x102.fID] : List Int)) ++ ((s1.2.drop p122.toNat).take (s1.2.length - p122.toNat))).length) (by simp) (by simp) (map_sz (f := (eI .i64)) (fun _ => rfl)) (by rw [List.length_map]; exact lim_mulN hc148 (by decide)) (by rw [List.length_map]; exact lim_leN hc148) (L rfl) (by simp) (q 64) (q 65)) rfl (c (OpJ.assign (L rfl) (q 66)) rfl cn)))))))))) (by kernel_rfl) (by kernel_rfl) ?_
            refine blkQ_n ?_
            refine seqQ_n ?_
            refine gh [(4, _), (10, _), (11, _), (12, _)] [(1066, some _)] hB rfl rfl (by rfl) ?_
            refine rg (c (add6 (L rfl) (q 12) (Opd.int .i64 (1))) rfl (c (mv hN (q 67)) rfl cn)) ?_
            obtain rfl := Option.some.inj h
            exact ⟨rfl, (Mat.trans (mp [] [(4, (.sref 1066 1 0 ((((s1.2.take p122.toNat) ++ ([x102.fID] : List Int)) ++ ((s1.2.drop p122.toNat).take (s1.2.length - p122.toNat))).length))), (10, (qe_api_Port_10 a0.fPorts)), (11, (i6 (a0.fPorts.length : Int))), (12, (i6 (w64 (s1.1 + (1 : Int)))))] [(1066, some (wI_3_1 (((s1.2.take p122.toNat) ++ ([x102.fID] : List Int)) ++ ((s1.2.drop p122.toNat).take (s1.2.length - p122.toNat)))))] hB) (mp [(3004, 1066)] _ _ hB))⟩
        · rcases Bool.eq_false_or_eq_true ((decide (x102.fID < (1 : Int))) || (decide ((999 : Int) < x102.fID))) with hg149 | hg149
          · replace h := ite_t hg149 h
            refine dr (c (ov (.ptr 1006 0 [0]) (fp hN Try.underlying68 0 tyS3 _ (q 6))) rfl (c (lb hN 68 _ _ tyS3 (ad _) (q 32)) rfl (c (OpJ.lss (L rfl) (q 33) (Opd.int .i64 (1))) rfl (c (mv hN (q 34)) rfl (c (oq hN 35 (ov (.ptr 1006 0 [0]) (fp hN Try.underlying68 0 tyS3 _ (q 6))) (OptL.keep (by rfl) OptL.nil) (GuardV.plain _)) rfl (c (oq hN 35 (lb hN 68 _ _ tyS3 (ad _) (q 36)) (OptL.opt OptL.nil) (GuardV.plain _)) rfl (c (oq hN 35 (OpJ.gtr (L rfl) (q 37) (Opd.int .i64 (999))) (OptL.opt OptL.nil) (GuardV.plain _)) rfl (c (OpJ.pickOr rfl (L rfl) (q 35) (q 38)) rfl (c (OpJ.val (v' := .d (.bool true)) (by rw [hg149]) (mv hN (q 39))) rfl (cg (OpJ.skipU (g := 40) (L rfl) (by rfl)) rfl (cg (OpJ.skipU (g := 40) (L rfl) (by rfl)) rfl (cg (OpJ.skipU (g := 40) (L rfl) (by rfl)) rfl (cg (OpJ.skipV (g := 43) (L rfl) (by rfl)) rfl (cg (OpJ.skipV (g := 43) (L rfl) (by rfl)) rfl (cg (OpJ.skipV (g := 43) (L rfl) (by rfl)) rfl (cg (OpJ.skipV (g := 43) (L rfl) (by rfl)) rfl (cg (OpJ.skipV (g := 43) (L rfl) (by rfl)) rfl (cg (OpJ.skipV (g := 43) (L rfl) (by rfl)) rfl (cg (OpJ.skipV (g := 43) (L rfl) (by rfl)) rfl (cg (OpJ.skipV (g := 43) (L rfl) (by rfl)) rfl (cg (OpJ.skipU (g := 40) (L rfl) (by rfl)) rfl (c (OpJ.pickT (L rfl) (q 40) (Opd.bool true)) rfl cn)))))))))))))))))))))) (by kernel_rfl) (by kernel_rfl) ?_
            exact hjj139 _ h _ _ (Mat.trans (mp [] [(4, (.sref 3004 1 0 s1.2.length)), (6, (.ptr 1006 0 [])), (7, (i6 p122)), (10, (qe_api_Port_10 a0.fPorts)), (11, (i6 (a0.fPorts.length : Int))), (12, (i6 s1.1)), (53, (bo true))] [(1006, some (.box 68 (.d (e_api_Port x102)))), (3004, some (wI_3_1 s1.2))] hB) (mp [] _ _ hB))
          · replace h := ite_f hg149 h
            rcases Bool.eq_false_or_eq_true (decide ((0 : Int) < p122)) with hg150 | hg150
            · replace h := ite_t hg150 h
              obtain ⟨x151, hx151, h⟩ := bindS h
              obtain ⟨x152, hx152, h⟩ := bindS h
              refine dr (c (ov (.ptr 1006 0 [0]) (fp hN Try.underlying68 0 tyS3 _ (q 6))) rfl (c (lb hN 68 _ _ tyS3 (ad _) (q 32)) rfl (c (OpJ.lss (L rfl) (q 33) (Opd.int .i64 (1))) rfl (c (mv hN (q 34)) rfl (c (oq hN 35 (ov (.ptr 1006 0 [0]) (fp hN Try.underlying68 0 tyS3 _ (q 6))) (OptL.keep (by rfl) OptL.nil) (GuardV.plain _)) rfl (c (oq hN 35 (lb hN 68 _ _ tyS3 (ad _) (q 36)) (OptL.opt OptL.nil) (GuardV.plain _)) rfl (c (oq hN 35 (OpJ.gtr (L rfl) (q 37) (Opd.int .i64 (999))) (OptL.opt OptL.nil) (GuardV.plain _)) rfl (c (OpJ.pickOr rfl (L rfl) (q 35) (q 38)) rfl (c (OpJ.val (v' := .d (.bool false)) (by rw [hg149]) (mv hN (q 39))) rfl (c (OpJ.guarded (g := 40) (by rfl) (mv hN (q 7))) rfl (c (OpJ.guarded (g := 40) (by rfl) (OpJ.gtr (L rfl) (q 41) (Opd.int .i64 (0)))) rfl (c (OpJ.guarded (g := 40) (by rfl) (OpJ.val (v' := .d (.bool true)) (by rw [hg150]) (mv hN (q 42)))) rfl (c (OpJ.guarded (g := 43) (by rfl) (mv hN (q 4))) rfl (c (OpJ.guarded (g := 43) (by rfl) (mv hN (q 7))) rfl (c (OpJ.guarded (g := 43) (by rfl) (sub6 (L rfl) (q 45) (Opd.int .i64 (1)))) rfl (c (OpJ.guarded (g := 43) (by rfl) (OpJ.val (v' := (.ptr 3004 ((w64 (p122 - (1 : Int))).toNat * 1) [(w64 (p122 - (1 : Int))).toNat])) (by simp) (OpJ.indexS Try.underlying28 tyS3 (idx_some hx151).1 (by have := idx_lt hx151; first | (simpa using this) | ((try simp only [List.length_map] at this); (try simp only [List.length_map]); omega)) (L rfl) (q 44) (q 46)))) rfl (c (OpJ.guarded (g := 43) (by rfl) (OpJ.loadR (e := 3) (sz := 1) tyS3 (get_map (eI .i64) (idx_some hx152).2) (o := 0) (At.here _) (by rfl) (by rfl) (by rfl) (L rfl) (q 47))) rfl (c (OpJ.guarded (g := 43) (by rfl) (ov (.ptr 1006 0 [0]) (fp hN Try.underlying68 0 tyS3 _ (q 6)))) rfl (c (OpJ.guarded (g := 43) (by rfl) (lb hN 68 _ _ tyS3 (ad _) (q 49))) rfl (c (OpJ.guarded (g := 43) (by rfl) (OpJ.eqlI (L rfl) (q 48) (q 50))) rfl (c (OpJ.guarded (g := 40) (by rfl) (OpJ.pickT (L rfl) (q 43) (q 51))) rfl (c (OpJ.pickF (L rfl) (q 40) (q 52)) rfl cn)))))))))))))))))))))) (by kernel_rfl) (by kernel_rfl) ?_
              exact hjj139 _ h _ _ (Mat.trans (mp [] [(4, (.sref 3004 1 0 s1.2.length)), (6, (.ptr 1006 0 [])), (7, (i6 p122)), (10, (qe_api_Port_10 a0.fPorts)), (11, (i6 (a0.fPorts.length : Int))), (12, (i6 s1.1)), (53, (bo (x152 == x102.fID)))] [(1006, some (.box 68 (.d (e_api_Port x102)))), (3004, some (wI_3_1 s1.2))] hB) (mp [] _ _ hB))
            · replace h := ite_f hg150 h
              refine dr (c (ov (.ptr 1006 0 [0]) (fp hN Try.underlying68 0 tyS3 _ (q 6))) rfl (c (lb hN 68 _ _ tyS3 (ad _) (q 32)) rfl (c (OpJ.lss (L rfl) (q 33) (Opd.int .i64 (1))) rfl (c (mv hN (q 34)) rfl (c (oq hN 35 (ov (.ptr 1006 0 [0]) (fp hN Try.underlying68 0 tyS3 _ (q 6))) (OptL.keep (by rfl) OptL.nil) (GuardV.plain _)) rfl (c (oq hN 35 (lb hN 68 _ _ tyS3 (ad _) (q 36)) (OptL.opt OptL.nil) (GuardV.plain _)) rfl (c (oq hN 35 (OpJ.gtr (L rfl) (q 37) (Opd.int .i64 (999))) (OptL.opt OptL.nil) (GuardV.plain _)) rfl (c (OpJ.pickOr rfl (L rfl) (q 35) (q 38)) rfl (c (OpJ.val (v' := .d (.bool false)) (by rw [hg149]) (mv hN (q 39))) rfl (c (OpJ.guarded (g := 40) (by rfl) (mv hN (q 7))) rfl (c (OpJ.guarded (g := 40) (by rfl) (OpJ.gtr (L rfl) (q 41) (Opd.int .i64 (0)))) rfl (c (OpJ.guarded (g := 40) (by rfl) (OpJ.val (v' := .d (.bool false)) (by rw [hg150]) (mv hN (q 42)))) rfl (cg (OpJ.skipU (g := 43) (L rfl) (by rfl)) rfl (cg (OpJ.skipU (g := 43) (L rfl) (by rfl)) rfl (cg (OpJ.skipU (g := 43) (L rfl) (by rfl)) rfl (cg (OpJ.skipU (g := 43) (L rfl) (by rfl)) rfl (cg (OpJ.skipU (g := 43) (L rfl) (by rfl)) rfl (cg (OpJ.skipU (g := 43) (L rfl) (by rfl)) rfl (cg (OpJ.skipU (g := 43) (L rfl) (by rfl)) rfl (cg (OpJ.skipU (g := 43) (L rfl) (by rfl)) rfl (c (OpJ.guarded (g := 40) (by rfl) (OpJ.pickF (L rfl) (q 43) (Opd.bool false))) rfl (c (OpJ.pickF (L rfl) (q 40) (q 52)) rfl cn)))))))))))))))))))))) (by kernel_rfl) (by kernel_rfl) ?_
              exact hjj139 _ h _ _ (Mat.trans (mp [] [(4, (.sref 3004 1 0 s1.2.length)), (6, (.ptr 1006 0 [])), (7, (i6 p122)), (10, (qe_api_Port_10 a0.fPorts)), (11, (i6 (a0.fPorts.length : Int))), (12, (i6 s1.1)), (53, (bo false))] [(1006, some (.box 68 (.d (e_api_Port x102)))), (3004, some (wI_3_1 s1.2))] hB) (mp [] _ _ hB))
    · replace h := ite_f hg101 h
      refine AWp.exit ?_
      refine seqQ_e ?_
      obtain rfl := Option.some.inj h
      exact ⟨(fun hc => by cases hc), rfl, (mp [] _ _ hB)⟩
  · rcases x153 with _ | p100
    · obtain ⟨rfl, hmat⟩ := hR
      refine blkQ_r ?_
      refine seqQ_r ?_
      obtain rfl := Option.some.inj h
      exact ⟨.inl rfl, _, _, (Mat.trans hmat (Mat.trans (Mat.coeP (Ts := [(2, (qI_1 ([] : List Int)))]) (Bs := []) (TwT.cons (x := .nils) (by rfl) (Tw.leaf ⟨_, (Co.nils 1), rfl⟩) TwT.nil) TwB.nil) (mp [] [(2, (qI_1 ([] : List Int))), (3, (bo false))] [] hB))), [(qI_1 ([] : List Int)), (bo false)], (Res.tmp (by rfl) (by rfl) (Res.tmp (by rfl) (by rfl) Res.nil)), rfl, by rfl, by rfl, by rfl⟩
    · obtain ⟨rfl, hmat⟩ := hR
      refine blkQ_hit ?_
      refine seqQ_n ?_
      refine AWp.ghost hmat ?_
      refine sr (c (mv hN (q 4)) rfl (c (mv hN (q 4)) rfl (c (OpJ.lenS Try.underlying28 (L rfl) (q 69)) rfl (c (OpJ.leq (L rfl) (q 70) (Opd.int .i64 (4))) rfl (c (OpJ.assign (L rfl) (q 68)) rfl (c (OpJ.assign (L rfl) (q 71)) rfl cn)))))) ?_
      refine gh [(2, _), (3, _)] [(3004, some _)] hB rfl rfl (by rfl) ?_
      refine AWp.ret ?_
      obtain rfl := Option.some.inj h
      exact ⟨.inl rfl, _, _, (Mat.trans (Mat.freezeP (n := 3004) (e := 3) (sz := 1) (es := p100.map (eI .i64)) (Ts := [(2, (qI_1 p100))]) (Bs := []) (by rfl) (TwT.cons (x := (.sref 3004 1 0 p100.length)) (by rfl) (FrzL.all (by first | rfl | (simp; done) | (simp; omega))) TwT.nil) TwB.nil) (mp [] [(2, (qI_1 p100)), (3, (bo (decide ((p100.length : Int) ≤ (4 : Int)))))] [] hB)), [(qI_1 p100), (bo (decide ((p100.length : Int) ≤ (4 : Int))))], (Res.tmp (by rfl) (by rfl) (Res.tmp (by rfl) (by rfl) Res.nil)), rfl, by rfl, by rfl, by rfl⟩

noncomputable def exchangepointref40_Valid_L0 (a0 : api_Series) (s2 : Int) : Option (((Unit) ⊕ (Unit)) ⊕ (Int)) :=
  (if (decide (s2 < (a0.fIn.length : Int))) = true then
  (idx a0.fIn s2).bind fun x14 =>
  (idx a0.fOut s2).bind fun x15 =>
  (if (((((decide (x14 < (-1 : Int))) || (decide ((1125899906842624 : Int) < x14))) || (decide (x15 < (-1 : Int)))) || (decide ((1125899906842624 : Int) < x15))) || ((x14 == (-1 : Int)) != (x15 == (-1 : Int)))) = true then
  some (.inl (.inl ()))
  else
  some (.inr (w64 (s2 + (1 : Int)))))
  else
  some (.inl (.inr ())))
noncomputable def exchangepointref40_Valid (a0 : api_Series) : Option (Bool) :=
  (if ((((((decide (a0.fPort < (1 : Int))) || (decide ((999 : Int) < a0.fPort))) || (decide (a0.fSeconds < (1 : Int)))) || (decide ((86400 : Int) < a0.fSeconds))) || ((a0.fIn.length : Int) != (a0.fOut.length : Int))) || (decide ((9000 : Int) < (a0.fIn.length : Int)))) = true then
  some false
  else
  (loop (exchangepointref40_Valid_L0 a0) (0 : Int)).bind fun x17 => match x17 with
  | (.inl _) =>
    some false
  | (.inr _) =>
    some true)
set_option maxHeartbeats 4000000 in
set_option maxRecDepth 100000 in
theorem exchangepointref40_Valid_ac (a0 : api_Series) (r : Bool) (h : exchangepointref40_Valid a0 = some r) : AC Try.prog 38 [(.d (e_api_Series a0))] [] (.d (.bool r)) [] := by
  refine AC.of_code2 Try.func38 rfl rfl (Nat.le_of_ble_eq_true (by rfl)) fun B hB hN => ?_
  have L {d : Nat} (h : Nat.blt d Try.f38.ntmps = true) : d < B.N := ltN hN h
  delta exchangepointref40_Valid at h
  refine sr (cg (OpJ.box hB (nm := 1001) (by decide) (by simp) rfl (L rfl) (q 0)) rfl (c (OpJ.assign (L rfl) (Opd.bool false)) rfl cn)) ?_
  refine gh [(1, _)] [(1001, some _)] hB rfl rfl (by rfl) ?_
  refine AWp.seq ?_
  refine sr (c (ov (.ptr 1001 0 [0]) (fp hN Try.underlying31 0 tyS3 _ (q 1))) rfl (c (lb hN 31 _ _ tyS3 (ad _) (q 6)) rfl (c (OpJ.lss (L rfl) (q 7) (Opd.int .i64 (1))) rfl (c (mv hN (q 8)) rfl (c (oq hN 9 (ov (.ptr 1001 0 [0]) (fp hN Try.underlying31 0 tyS3 _ (q 1))) (OptL.keep (by rfl) OptL.nil) (GuardV.plain _)) rfl (c (oq hN 9 (lb hN 31 _ _ tyS3 (ad _) (q 10)) (OptL.opt OptL.nil) (GuardV.plain _)) rfl (c (oq hN 9 (OpJ.gtr (L rfl) (q 11) (Opd.int .i64 (999))) (OptL.opt OptL.nil) (GuardV.plain _)) rfl (c (OpJ.pickOr rfl (L rfl) (q 9) (q 12)) rfl (c (mv hN (q 13)) rfl (c (oq hN 14 (ov (.ptr 1001 1 [1]) (fp hN Try.underlying31 1 tyS3 _ (q 1))) (OptL.keep (by rfl) OptL.nil) (GuardV.plain _)) rfl (c (oq hN 14 (lb hN 31 _ _ tyS3 (ad _) (q 15)) (OptL.opt OptL.nil) (GuardV.plain _)) rfl (c (oq hN 14 (OpJ.lss (L rfl) (q 16) (Opd.int .i64 (1))) (OptL.opt OptL.nil) (GuardV.plain _)) rfl (c (OpJ.pickOr rfl (L rfl) (q 14) (q 17)) rfl (c (mv hN (q 18)) rfl (c (oq hN 19 (ov (.ptr 1001 1 [1]) (fp hN Try.underlying31 1 tyS3 _ (q 1))) (OptL.keep (by rfl) OptL.nil) (GuardV.plain _)) rfl (c (oq hN 19 (lb hN 31 _ _ tyS3 (ad _) (q 20)) (OptL.opt OptL.nil) (GuardV.plain _)) rfl (c (oq hN 19 (OpJ.gtr (L rfl) (q 21) (Opd.int .i64 (86400))) (OptL.opt OptL.nil) (GuardV.plain _)) rfl (c (OpJ.pickOr rfl (L rfl) (q 19) (q 22)) rfl (c (mv hN (q 23)) rfl (c (oq hN 24 (ov (.ptr 1001 2 [2]) (fp hN Try.underlying31 2 tyS28 _ (q 1))) (OptL.keep (by rfl) OptL.nil) (GuardV.plain _)) rfl (c (oq hN 24 (lb hN 31 _ _ tyS28 (ad _) (q 25)) (OptL.opt OptL.nil) (GuardV.plain _)) rfl (c (oq hN 24 (OpJ.val (v' := (i6 (a0.fIn.length : Int))) (by simp) (OpJ.lenD Try.underlying28 (L rfl) (q 26))) (OptL.opt OptL.nil) (GuardV.plain _)) rfl (c (oq hN 24 (ov (.ptr 1001 3 [3]) (fp hN Try.underlying31 3 tyS28 _ (q 1))) (OptL.keep (by rfl) OptL.nil) (GuardV.plain _)) rfl (c (oq hN 24 (lb hN 31 _ _ tyS28 (ad _) (q 28)) (OptL.opt OptL.nil) (GuardV.plain _)) rfl (c (oq hN 24 (OpJ.val (v' := (i6 (a0.fOut.length : Int))) (by simp) (OpJ.lenD Try.underlying28 (L rfl) (q 29))) (OptL.opt OptL.nil) (GuardV.plain _)) rfl (c (oq hN 24 (OpJ.neqI (L rfl) (q 27) (q 30)) (OptL.opt (OptL.opt OptL.nil)) (GuardV.plain _)) rfl (c (OpJ.pickOr rfl (L rfl) (q 24) (q 31)) rfl (c (mv hN (q 32)) rfl (c (oq hN 33 (ov (.ptr 1001 2 [2]) (fp hN Try.underlying31 2 tyS28 _ (q 1))) (OptL.keep (by rfl) OptL.nil) (GuardV.plain _)) rfl (c (oq hN 33 (lb hN 31 _ _ tyS28 (ad _) (q 34)) (OptL.opt OptL.nil) (GuardV.plain _)) rfl (c (oq hN 33 (OpJ.val (v' := (i6 (a0.fIn.length : Int))) (by simp) (OpJ.lenD Try.underlying28 (L rfl) (q 35))) (OptL.opt OptL.nil) (GuardV.plain _)) rfl (c (oq hN 33 (OpJ.gtr (L rfl) (q 36) (Opd.int .i64 (9000))) (OptL.opt OptL.nil) (GuardV.plain _)) rfl (c (OpJ.pickOr rfl (L rfl) (q 33) (q 37)) rfl cn))))))))))))))))))))))))))))))))) ?_
  refine gh [(1, _), (38, _)] [(1001, some _)] hB rfl rfl (by rfl) ?_
  refine AWp.cond rfl (fun hg1 => ?_) (fun hg1 => ?_)
  · replace h := ite_t hg1 h
    refine sr (c (OpJ.assign (L rfl) (Opd.bool false)) rfl cn) ?_
    refine gh [(2, _)] [] hB rfl rfl (by rfl) ?_
    refine AWp.ret ?_
    refine seqQ_r ?_
    obtain rfl := Option.some.inj h
    exact ⟨.inl rfl, _, _, (kp [(2, _)] [] hB rfl rfl (by rfl)), [(bo false)], (Res.tmp (by rfl) (by rfl) Res.nil), rfl, by rfl, by rfl, by rfl⟩
  · replace h := ite_f hg1 h
    refine AWp.skip ?_
    refine seqQ_n ?_
    refine AWp.seq ?_
    refine sr (c (ov (.ptr 1001 2 [2]) (fp hN Try.underlying31 2 tyS28 _ (q 1))) rfl (c (lb hN 31 _ _ tyS28 (ad _) (q 39)) rfl (c (OpJ.val (v' := (i6 (a0.fIn.length : Int))) (by simp) (OpJ.lenD Try.underlying28 (L rfl) (q 40))) rfl (c (mv hN (Opd.int .i64 (0))) rfl cn)))) ?_
    refine gh [(1, _), (41, _), (42, _)] [(1001, some _)] hB rfl rfl (by rfl) ?_
    refine AWp.block ?_
    obtain ⟨x17, hx18, h⟩ := bindS h
    refine lg (exchangepointref40_Valid_L0 a0) (fun s2 : Int => ([(1, (.ptr 1001 0 [])), (41, (i6 (a0.fIn.length : Int))), (42, (i6 s2))] : EL)) (fun s2 : Int => ([(1001, some (.box 31 (.d (e_api_Series a0))))] : OL)) (fun (x : (Unit) ⊕ (Unit)) e E' O' => match x with | (.inl _p) => e = .ret ∧ Mat B E' O' ([(2, (bo false))] : EL) ([] : OL) | (.inr _p) => e = .exit 0 ∧ Mat B E' O' ([] : EL) ([] : OL)) hx18 (mp [] _ _ hB) (fun s2 y h => ?_) (fun e E' O' hR => ?_)
    · unfold exchangepointref40_Valid_L0 at h
      refine sr (c (OpJ.lss (L rfl) (q 42) (q 41)) rfl cn) ?_
      refine gh [(1, _), (41, _), (42, _), (43, _)] [(1001, some _)] hB rfl rfl (by rfl) ?_
      refine AWp.seq ?_
      refine AWp.cond rfl (fun hg13 => ?_) (fun hg13 => ?_)
      · replace h := ite_t hg13 h
        refine AWp.skip ?_
        refine seqQ_n ?_
        refine AWp.seq ?_
        refine AWp.block ?_
        refine sr (c (mv hN (q 42)) rfl (c (OpJ.assign (L rfl) (q 44)) rfl cn)) ?_
        refine gh [(1, _), (3, _), (41, _), (42, _)] [(1001, some _)] hB rfl rfl (by rfl) ?_
        obtain ⟨x14, hx14, h⟩ := bindS h
        obtain ⟨x15, hx15, h⟩ := bindS h
        refine sd (c (ov (.ptr 1001 2 [2]) (fp hN Try.underlying31 2 tyS28 _ (q 1))) rfl (c (lb hN 31 _ _ tyS28 (ad _) (q 45)) rfl (c (mv hN (q 3)) rfl (c (OpJ.indexD Try.underlying28 tyS3 (idx_some hx14).1 (get_map (eI .i64) (idx_some hx14).2) (L rfl) (q 46) (q 47)) rfl (c (OpJ.loadD tyS3 (by rfl) (by rfl) (L rfl) (q 48)) rfl (c (ov (.ptr 1001 3 [3]) (fp hN Try.underlying31 3 tyS28 _ (q 1))) rfl (c (lb hN 31 _ _ tyS28 (ad _) (q 50)) rfl (c (mv hN (q 3)) rfl (c (OpJ.indexD Try.underlying28 tyS3 (idx_some hx15).1 (get_map (eI .i64) (idx_some hx15).2) (L rfl) (q 51) (q 52)) rfl (c (OpJ.loadD tyS3 (by rfl) (by rfl) (L rfl) (q 53)) rfl (c (OpJ.assign (L rfl) (q 49)) rfl (c (OpJ.assign (L rfl) (q 54)) rfl cn)))))))))))) (by kernel_rfl) (by kernel_rfl) ?_
        refine gh [(1, _), (4, _), (5, _), (41, _), (42, _)] [(1001, some _)] hB rfl rfl (by rfl) ?_
        refine sr (c (mv hN (q 4)) rfl (c (OpJ.lss (L rfl) (q 55) (Opd.int .i64 (-1))) rfl (c (mv hN (q 56)) rfl (c (oq hN 57 (mv hN (q 4)) (OptL.keep (by rfl) OptL.nil) (GuardV.plain _)) rfl (c (oq hN 57 (OpJ.gtr (L rfl) (q 58) (Opd.int .i64 (1125899906842624))) (OptL.opt OptL.nil) (GuardV.plain _)) rfl (c (OpJ.pickOr rfl (L rfl) (q 57) (q 59)) rfl (c (mv hN (q 60)) rfl (c (oq hN 61 (mv hN (q 5)) (OptL.keep (by rfl) OptL.nil) (GuardV.plain _)) rfl (c (oq hN 61 (OpJ.lss (L rfl) (q 62) (Opd.int .i64 (-1))) (OptL.opt OptL.nil) (GuardV.plain _)) rfl (c (OpJ.pickOr rfl (L rfl) (q 61) (q 63)) rfl (c (mv hN (q 64)) rfl (c (oq hN 65 (mv hN (q 5)) (OptL.keep (by rfl) OptL.nil) (GuardV.plain _)) rfl (c (oq hN 65 (OpJ.gtr (L rfl) (q 66) (Opd.int .i64 (1125899906842624))) (OptL.opt OptL.nil) (GuardV.plain _)) rfl (c (OpJ.pickOr rfl (L rfl) (q 65) (q 67)) rfl (c (mv hN (q 68)) rfl (c (oq hN 69 (mv hN (q 4)) (OptL.keep (by rfl) OptL.nil) (GuardV.plain _)) rfl (c (oq hN 69 (OpJ.eqlI (L rfl) (q 70) (Opd.int .i64 (-1))) (OptL.opt OptL.nil) (GuardV.plain _)) rfl (c (oq hN 69 (mv hN (q 5)) (OptL.keep (by rfl) OptL.nil) (GuardV.plain _)) rfl (c (oq hN 69 (OpJ.eqlI (L rfl) (q 72) (Opd.int .i64 (-1))) (OptL.opt OptL.nil) (GuardV.plain _)) rfl (c (oq hN 69 (OpJ.neqB Try.underlying4 (L rfl) (q 71) (q 73)) (OptL.opt (OptL.opt OptL.nil)) (GuardV.plain _)) rfl (c (OpJ.pickOr rfl (L rfl) (q 69) (q 74)) rfl cn))))))))))))))))))))) ?_
        refine gh [(1, _), (41, _), (42, _), (75, _)] [(1001, some _)] hB rfl rfl (by rfl) ?_
        refine AWp.cond rfl (fun hg16 => ?_) (fun hg16 => ?_)
        · replace h := ite_t hg16 h
          refine sr (c (OpJ.assign (L rfl) (Opd.bool false)) rfl cn) ?_
          refine gh [(2, _)] [] hB rfl rfl (by rfl) ?_
          refine AWp.ret ?_
          refine blkQ_r ?_
          refine seqQ_r ?_
          obtain rfl := Option.some.inj h
          exact ⟨(fun hc => by cases hc), rfl, (mp [] _ _ hB)⟩
        · replace h := ite_f hg16 h
          refine AWp.skip ?_
          refine blkQ_n ?_
          refine seqQ_n ?_
          refine rg (c (add6 (L rfl) (q 42) (Opd.int .i64 (1))) rfl (c (mv hN (q 76)) rfl cn)) ?_
          obtain rfl := Option.some.inj h
          exact ⟨rfl, (Mat.trans (mp [] [(1, (.ptr 1001 0 [])), (41, (i6 (a0.fIn.length : Int))), (42, (i6 (w64 (s2 + (1 : Int)))))] [(1001, some (.box 31 (.d (e_api_Series a0))))] hB) (mp [] _ _ hB))⟩
      · replace h := ite_f hg13 h
        refine AWp.exit ?_
        refine seqQ_e ?_
        obtain rfl := Option.some.inj h
        exact ⟨(fun hc => by cases hc), rfl, (mp [] _ _ hB)⟩
    · rcases x17 with _ | _
      · obtain ⟨rfl, hmat⟩ := hR
        refine blkQ_r ?_
        refine seqQ_r ?_
        obtain rfl := Option.some.inj h
        exact ⟨.inl rfl, _, _, (Mat.trans hmat (mp [] [(2, (bo false))] [] hB)), [(bo false)], (Res.tmp (by rfl) (by rfl) Res.nil), rfl, by rfl, by rfl, by rfl⟩
      · obtain ⟨rfl, hmat⟩ := hR
        refine blkQ_hit ?_
        refine seqQ_n ?_
        refine AWp.ghost hmat ?_
        refine sr (c (OpJ.assign (L rfl) (Opd.bool true)) rfl cn) ?_
        refine gh [(2, _)] [] hB rfl rfl (by rfl) ?_
        refine AWp.ret ?_
        obtain rfl := Option.some.inj h
        exact ⟨.inl rfl, _, _, (kp [(2, _)] [] hB rfl rfl (by rfl)), [(bo true)], (Res.tmp (by rfl) (by rfl) Res.nil), rfl, by rfl, by rfl, by rfl⟩

noncomputable def exchangepointref40_Rate (a0 : Int) (a1 : Int) : Option (Int × Int) :=
  (if ((((decide (a0 < (0 : Int))) || (decide ((1125899906842624 : Int) < a0))) || (decide (a1 < (1 : Int)))) || (decide ((86400 : Int) < a1))) = true then
  some ((0 : Int), (1 : Int))
  else
  chk (decide ((w64 (a1 * (1000000 : Int))) ≠ 0)) <|
  some ((w64 (Int.tdiv (w64 ((w64 ((w64 ((8 : Int) * a0)) + (w64 (a1 * (1000000 : Int))))) - (1 : Int))) (w64 (a1 * (1000000 : Int))))), (0 : Int)))
set_option maxHeartbeats 4000000 in
set_option maxRecDepth 100000 in
theorem exchangepointref40_Rate_ac (a0 : Int) (a1 : Int) (r : Int × Int) (h : exchangepointref40_Rate a0 a1 = some r) : AC Try.prog 66 [(.d (.int .i64 a0)), (.d (.int .i64 a1))] [] (.tup [(.d (.int .i64 r.1)), (.d (.int .i64 r.2))]) [] := by
  refine AC.of_code2 Try.func66 rfl rfl (Nat.le_of_ble_eq_true (by rfl)) fun B hB hN => ?_
  have L {d : Nat} (h : Nat.blt d Try.f66.ntmps = true) : d < B.N := ltN hN h
  delta exchangepointref40_Rate at h
  refine sr (c (OpJ.assign (L rfl) (Opd.int .i64 (0))) rfl (c (OpJ.assign (L rfl) (Opd.int .i64 (0))) rfl cn)) ?_
  refine gh [(0, _), (1, _)] [] hB rfl rfl (by rfl) ?_
  refine AWp.seq ?_
  refine sr (c (mv hN (q 0)) rfl (c (OpJ.lss (L rfl) (q 7) (Opd.int .i64 (0))) rfl (c (mv hN (q 8)) rfl (c (oq hN 9 (mv hN (q 0)) (OptL.keep (by rfl) OptL.nil) (GuardV.plain _)) rfl (c (oq hN 9 (OpJ.gtr (L rfl) (q 10) (Opd.int .i64 (1125899906842624))) (OptL.opt OptL.nil) (GuardV.plain _)) rfl (c (OpJ.pickOr rfl (L rfl) (q 9) (q 11)) rfl (c (mv hN (q 12)) rfl (c (oq hN 13 (mv hN (q 1)) (OptL.keep (by rfl) OptL.nil) (GuardV.plain _)) rfl (c (oq hN 13 (OpJ.lss (L rfl) (q 14) (Opd.int .i64 (1))) (OptL.opt OptL.nil) (GuardV.plain _)) rfl (c (OpJ.pickOr rfl (L rfl) (q 13) (q 15)) rfl (c (mv hN (q 16)) rfl (c (oq hN 17 (mv hN (q 1)) (OptL.keep (by rfl) OptL.nil) (GuardV.plain _)) rfl (c (oq hN 17 (OpJ.gtr (L rfl) (q 18) (Opd.int .i64 (86400))) (OptL.opt OptL.nil) (GuardV.plain _)) rfl (c (OpJ.pickOr rfl (L rfl) (q 17) (q 19)) rfl cn)))))))))))))) ?_
  refine gh [(0, _), (1, _), (20, _)] [] hB rfl rfl (by rfl) ?_
  refine AWp.cond rfl (fun hg1 => ?_) (fun hg1 => ?_)
  · replace h := ite_t hg1 h
    refine sr (c (OpJ.assign (L rfl) (Opd.int .i64 (0))) rfl (c (OpJ.assign (L rfl) (Opd.int .i64 (1))) rfl cn)) ?_
    refine gh [(4, _), (5, _)] [] hB rfl rfl (by rfl) ?_
    refine AWp.ret ?_
    refine seqQ_r ?_
    obtain rfl := Option.some.inj h
    exact ⟨.inl rfl, _, _, (kp [(4, _), (5, _)] [] hB rfl rfl (by rfl)), [(i6 0), (i6 1)], (Res.tmp (by rfl) (by rfl) (Res.tmp (by rfl) (by rfl) Res.nil)), rfl, by rfl, by rfl, by rfl⟩
  · replace h := ite_f hg1 h
    refine AWp.skip ?_
    refine seqQ_n ?_
    refine sr (c (mv hN (q 1)) rfl (c (mul6 (L rfl) (q 21) (Opd.int .i64 (1000000))) rfl (c (OpJ.assign (L rfl) (q 22)) rfl cn))) ?_
    refine gh [(0, _), (6, _)] [] hB rfl rfl (by rfl) ?_
    obtain ⟨hc2, h⟩ := chk_some h
    refine sr (c (mv hN (q 0)) rfl (c (mul6 (L rfl) (Opd.int .i64 (8)) (q 23)) rfl (c (mv hN (q 6)) rfl (c (add6 (L rfl) (q 24) (q 25)) rfl (c (sub6 (L rfl) (q 26) (Opd.int .i64 (1))) rfl (c (mv hN (q 6)) rfl (c (quo6 (L rfl) (q 27) (q 28) (of_decide_eq_true hc2)) rfl (c (OpJ.assign (L rfl) (q 29)) rfl (c (OpJ.assign (L rfl) (Opd.int .i64 (0))) rfl cn))))))))) ?_
    refine gh [(4, _), (5, _)] [] hB rfl rfl (by rfl) ?_
    refine AWp.ret ?_
    obtain rfl := Option.some.inj h
    exact ⟨.inl rfl, _, _, (kp [(4, _), (5, _)] [] hB rfl rfl (by rfl)), [(i6 (w64 (Int.tdiv (w64 ((w64 ((w64 ((8 : Int) * a0)) + (w64 (a1 * (1000000 : Int))))) - (1 : Int))) (w64 (a1 * (1000000 : Int)))))), (i6 0)], (Res.tmp (by rfl) (by rfl) (Res.tmp (by rfl) (by rfl) Res.nil)), rfl, by rfl, by rfl, by rfl⟩

noncomputable def exchangepointref40_Rates_L0 (a0 : (List Int)) (a1 : Int) (s2 : Int × (List Int)) : Option (((Int) ⊕ ((List Int))) ⊕ (Int × (List Int))) :=
  (if (decide (s2.1 < (a0.length : Int))) = true then
  jn (fun m37 : (List Int) =>
  some (.inr ((w64 (s2.1 + (1 : Int))), m37))) (fun j38 =>
  (idx a0 s2.1).bind fun x39 =>
  (if (x39 == (-1 : Int)) = true then
  j38 s2.2
  else
  (exchangepointref40_Rate x39 a1).bind fun r41 =>
  (if (r41.2 != (0 : Int)) = true then
  some (.inl (.inl r41.2))
  else
  chk (decide ((s2.2 ++ ([r41.1] : List Int)).length ≤ LIM)) <|
  j38 (s2.2 ++ ([r41.1] : List Int)))))
  else
  some (.inl (.inr s2.2)))
noncomputable def exchangepointref40_Rates (a0 : (List Int)) (a1 : Int) : Option ((List Int) × Int) :=
  (if ((decide (a1 < (1 : Int))) || (decide ((86400 : Int) < a1))) = true then
  some (([] : List Int), (1 : Int))
  else
  (loop (exchangepointref40_Rates_L0 a0 a1) ((0 : Int), ([] : List Int))).bind fun x44 => match x44 with
  | (.inl p29) =>
    some (([] : List Int), p29)
  | (.inr p30) =>
    some (p30, (0 : Int)))
set_option maxHeartbeats 4000000 in
set_option maxRecDepth 100000 in
theorem exchangepointref40_Rates_ac (a0 : (List Int)) (a1 : Int) (r : (List Int) × Int) (h : exchangepointref40_Rates a0 a1 = some r) : AC Try.prog 54 [(.d (.list 1 (a0.map (eI .i64)))), (.d (.int .i64 a1))] [] (.tup [(.d (.list 1 (r.1.map (eI .i64)))), (.d (.int .i64 r.2))]) [] := by
  refine AC.of_code2 Try.func54 rfl rfl (Nat.le_of_ble_eq_true (by rfl)) fun B hB hN => ?_
  have L {d : Nat} (h : Nat.blt d Try.f54.ntmps = true) : d < B.N := ltN hN h
  delta exchangepointref40_Rates at h
  refine sr (c (OpJ.assign (L rfl) Opd.nils) rfl (c (OpJ.assign (L rfl) (Opd.int .i64 (0))) rfl cn)) ?_
  refine gh [(0, _), (1, _)] [] hB rfl rfl (by rfl) ?_
  refine AWp.seq ?_
  refine sr (c (mv hN (q 1)) rfl (c (OpJ.lss (L rfl) (q 11) (Opd.int .i64 (1))) rfl (c (mv hN (q 12)) rfl (c (oq hN 13 (mv hN (q 1)) (OptL.keep (by rfl) OptL.nil) (GuardV.plain _)) rfl (c (oq hN 13 (OpJ.gtr (L rfl) (q 14) (Opd.int .i64 (86400))) (OptL.opt OptL.nil) (GuardV.plain _)) rfl (c (OpJ.pickOr rfl (L rfl) (q 13) (q 15)) rfl cn)))))) ?_
  refine gh [(0, _), (1, _), (16, _)] [] hB rfl rfl (by rfl) ?_
  refine AWp.cond rfl (fun hg1 => ?_) (fun hg1 => ?_)
  · replace h := ite_t hg1 h
    refine sr (c (OpJ.assign (L rfl) Opd.nils) rfl (c (OpJ.assign (L rfl) (Opd.int .i64 (1))) rfl cn)) ?_
    refine gh [(4, _), (5, _)] [] hB rfl rfl (by rfl) ?_
    refine AWp.ret ?_
    refine seqQ_r ?_
    obtain rfl := Option.some.inj h
    exact ⟨.inl rfl, _, _, (Mat.trans (Mat.coeP (Ts := [(4, (qI_1 ([] : List Int)))]) (Bs := []) (TwT.cons (x := .nils) (by rfl) (Tw.leaf ⟨_, (Co.nils 1), rfl⟩) TwT.nil) TwB.nil) (mp [] [(4, (qI_1 ([] : List Int))), (5, (i6 1))] [] hB)), [(qI_1 ([] : List Int)), (i6 1)], (Res.tmp (by rfl) (by rfl) (Res.tmp (by rfl) (by rfl) Res.nil)), rfl, by rfl, by rfl, by rfl⟩
  · replace h := ite_f hg1 h
    refine AWp.skip ?_
    refine seqQ_n ?_
    refine sr (c (OpJ.assign (L rfl) Opd.nils) rfl cn) ?_
    refine gh [(0, _), (1, _), (6, _)] [] hB rfl rfl (by rfl) ?_
    refine AWp.seq ?_
    refine sr (c (mv hN (q 0)) rfl (c (OpJ.val (v' := (i6 (a0.length : Int))) (by simp) (OpJ.lenD Try.underlying28 (L rfl) (q 17))) rfl (c (mv hN (Opd.int .i64 (0))) rfl cn))) ?_
    refine gh [(1, _), (6, _), (17, _), (18, _), (19, _)] [] hB rfl rfl (by rfl) ?_
    refine AWp.block ?_
    obtain ⟨x44, hx45, h⟩ := bindS h
    refine lg (exchangepointref40_Rates_L0 a0 a1) (fun s2 : Int × (List Int) => ([(1, (i6 a1)), (6, (.sref 3006 1 0 s2.2.length)), (17, (qI_1 a0)), (18, (i6 (a0.length : Int))), (19, (i6 s2.1))] : EL)) (fun s2 : Int × (List Int) => ([(3006, some (wI_3_1 s2.2))] : OL)) (fun (x : (Int) ⊕ ((List Int))) e E' O' => match x with | (.inl p29) => e = .ret ∧ Mat B E' O' ([(4, .nils), (5, (i6 p29))] : EL) ([] : OL) | (.inr p30) => e = .exit 0 ∧ Mat B E' O' ([(6, (.sref 3006 1 0 p30.length))] : EL) ([(3006, some (wI_3_1 p30))] : OL)) hx45 (Mat.trans (Mat.beginP (n := 3006) (e := 3) (sz := 1) (Ts := [(6, (.sref 3006 1 0 0))]) (Bs := []) hB (by decide) (by rfl) (by decide) (TwT.cons (x := .nils) (by rfl) (Tw.leaf ⟨rfl, rfl⟩) TwT.nil) TwB.nil) (mp [] _ _ hB)) (fun s2 y h => ?_) (fun e E' O' hR => ?_)
    · unfold exchangepointref40_Rates_L0 at h
      refine sr (c (OpJ.lss (L rfl) (q 19) (q 18)) rfl cn) ?_
      refine gh [(1, _), (6, _), (17, _), (18, _), (19, _), (20, _)] [(3006, some _)] hB rfl rfl (by rfl) ?_
      refine AWp.seq ?_
      refine AWp.cond rfl (fun hg31 => ?_) (fun hg31 => ?_)
      · replace h := ite_t hg31 h
        refine AWp.skip ?_
        refine seqQ_n ?_
        refine AWp.seq ?_
        refine AWp.cut h (fun m37 : (List Int) => ([(1, (i6 a1)), (6, (.sref 3006 1 0 m37.length)), (17, (qI_1 a0)), (18, (i6 (a0.length : Int))), (19, (i6 s2.1))] : EL)) (fun m37 : (List Int) => ([(3006, some (wI_3_1 m37))] : OL)) (fun m37 h E' O' hmat => ?_) (fun j38 hjj38 h => ?_)
        · refine seqQ_n ?_
          refine AWp.ghost hmat ?_
          refine rg (c (add6 (L rfl) (q 19) (Opd.int .i64 (1))) rfl (c (mv hN (q 38)) rfl cn)) ?_
          obtain rfl := Option.some.inj h
          exact ⟨rfl, (Mat.trans (mp [] [(1, (i6 a1)), (6, (.sref 3006 1 0 m37.length)), (17, (qI_1 a0)), (18, (i6 (a0.length : Int))), (19, (i6 (w64 (s2.1 + (1 : Int)))))] [(3006, some (wI_3_1 m37))] hB) (mp [] _ _ hB))⟩
        · refine AWp.block ?_
          obtain ⟨x39, hx39, h⟩ := bindS h
          refine sr (c (OpJ.indexD Try.underlying28 tyS3 (idx_some hx39).1 (get_map (eI .i64) (idx_some hx39).2) (L rfl) (q 17) (q 19)) rfl (c (OpJ.loadD tyS3 (by rfl) (by rfl) (L rfl) (q 21)) rfl (c (OpJ.assign (L rfl) (q 22)) rfl cn))) ?_
          refine gh [(1, _), (6, _), (8, _), (17, _), (18, _), (19, _)] [(3006, some _)] hB rfl rfl (by rfl) ?_
          refine AWp.seq ?_
          refine sr (c (mv hN (q 8)) rfl (c (OpJ.eqlI (L rfl) (q 23) (Opd.int .i64 (-1))) rfl cn)) ?_
          refine gh [(1, _), (6, _), (8, _), (17, _), (18, _), (19, _), (24, _)] [(3006, some _)] hB rfl rfl (by rfl) ?_
          refine AWp.cond rfl (fun hg40 => ?_) (fun hg40 => ?_)
          · replace h := ite_t hg40 h
            refine AWp.exit ?_
            refine seqQ_e ?_
            refine blkQ_hit ?_
            exact hjj38 _ h _ _ (mp [] _ _ hB)
          · replace h := ite_f hg40 h
            refine AWp.skip ?_
            refine seqQ_n ?_
            obtain ⟨r41, hr41, h⟩ := bindS h
            refine sr (c (mv hN (q 8)) rfl (c (mv hN (q 1)) rfl (cg (OpJ.callFn hB fnOk66 (exchangepointref40_Rate_ac x39 a1 r41 hr41) [] (by kernel_rfl) (L rfl) (by kernel_rfl) (OpdL.cons (q 26) (OpdL.cons (q 27) OpdL.nil))) rfl (c (mv hN (q 28)) rfl (c (OpJ.extract (by rfl) rfl (L rfl) (q 25)) rfl (c (OpJ.extract (by rfl) rfl (L rfl) (q 25)) rfl (c (OpJ.assign (L rfl) (q 29)) rfl (c (OpJ.assign (L rfl) (q 30)) rfl cn)))))))) ?_
            refine gh [(1, _), (6, _), (9, _), (10, _), (17, _), (18, _), (19, _)] [(3006, some _)] hB rfl rfl (by rfl) ?_
            refine AWp.seq ?_
            refine sr (c (mv hN (q 10)) rfl (c (OpJ.neqI (L rfl) (q 31) (Opd.int .i64 (0))) rfl cn)) ?_
            refine gh [(1, _), (6, _), (9, _), (10, _), (17, _), (18, _), (19, _), (32, _)] [(3006, some _)] hB rfl rfl (by rfl) ?_
            refine AWp.cond rfl (fun hg42 => ?_) (fun hg42 => ?_)
            · replace h := ite_t hg42 h
              refine sr (c (mv hN (q 10)) rfl (c (OpJ.assign (L rfl) Opd.nils) rfl (c (OpJ.assign (L rfl) (q 33)) rfl cn))) ?_
              refine gh [(4, _), (5, _)] [] hB rfl rfl (by rfl) ?_
              refine AWp.ret ?_
              refine seqQ_r ?_
              refine blkQ_r ?_
              refine seqQ_r ?_
              obtain rfl := Option.some.inj h
              exact ⟨(fun hc => by cases hc), rfl, (mp [] _ _ hB)⟩
            · replace h := ite_f hg42 h
              refine AWp.skip ?_
              refine seqQ_n ?_
              obtain ⟨hc43, h⟩ := chk_some h
              refine rg (c (mv hN (q 6)) rfl (c (mv hN (q 9)) rfl (c (OpJ.buildSlice Try.underlying28 tyS3 tyZD3 (by rfl) (by decide) (by decide) (Opds.cons (q 35) Opds.nil) (by kernel_rfl) (es := ([(.int .i64 r41.1)] : List D)) (by rfl) (by rfl) (by kernel_rfl) (by simp) (L rfl)) rfl (cg (OpJ.append hB Try.underlying28 tyE3 (nm := 1037) (by decide) (es := s2.2.map (eI .i64)) (ys := ([r41.1] : List Int).map (eI .i64)) (es' := (s2.2 ++ ([r41.1] : List Int)).map (eI .i64)) (len := (s2.2 ++ ([r41.1] : List Int)).length) (by simp) (by simp) (map_sz (f := (eI .i64)) (fun _ => rfl)) (by rw [List.length_map]; exact lim_mulN hc43 (by decide)) (by rw [List.length_map]; exact lim_leN hc43) (L rfl) (by simp) (q 34) (q 36)) rfl (c (OpJ.assign (L rfl) (q 37)) rfl cn))))) ?_
              refine blkQ_n ?_
              exact hjj38 _ h _ _ (Mat.trans (mp [] [(1, (i6 a1)), (6, (.sref 1037 1 0 ((s2.2 ++ ([r41.1] : List Int)).length))), (17, (qI_1 a0)), (18, (i6 (a0.length : Int))), (19, (i6 s2.1))] [(1037, some (wI_3_1 (s2.2 ++ ([r41.1] : List Int))))] hB) (mp [(3006, 1037)] _ _ hB))
      · replace h := ite_f hg31 h
        refine AWp.exit ?_
        refine seqQ_e ?_
        obtain rfl := Option.some.inj h
        exact ⟨(fun hc => by cases hc), rfl, (mp [] _ _ hB)⟩
    · rcases x44 with p29 | p30
      · obtain ⟨rfl, hmat⟩ := hR
        refine blkQ_r ?_
        refine seqQ_r ?_
        obtain rfl := Option.some.inj h
        exact ⟨.inl rfl, _, _, (Mat.trans hmat (Mat.trans (Mat.coeP (Ts := [(4, (qI_1 ([] : List Int)))]) (Bs := []) (TwT.cons (x := .nils) (by rfl) (Tw.leaf ⟨_, (Co.nils 1), rfl⟩) TwT.nil) TwB.nil) (mp [] [(4, (qI_1 ([] : List Int))), (5, (i6 p29))] [] hB))), [(qI_1 ([] : List Int)), (i6 p29)], (Res.tmp (by rfl) (by rfl) (Res.tmp (by rfl) (by rfl) Res.nil)), rfl, by rfl, by rfl, by rfl⟩
      · obtain ⟨rfl, hmat⟩ := hR
        refine blkQ_hit ?_
        refine seqQ_n ?_
        refine AWp.ghost hmat ?_
        refine sr (c (mv hN (q 6)) rfl (c (OpJ.assign (L rfl) (q 39)) rfl (c (OpJ.assign (L rfl) (Opd.int .i64 (0))) rfl cn))) ?_
        refine gh [(4, _), (5, _)] [(3006, some _)] hB rfl rfl (by rfl) ?_
        refine AWp.ret ?_
        obtain rfl := Option.some.inj h
        exact ⟨.inl rfl, _, _, (Mat.trans (Mat.freezeP (n := 3006) (e := 3) (sz := 1) (es := p30.map (eI .i64)) (Ts := [(4, (qI_1 p30))]) (Bs := []) (by rfl) (TwT.cons (x := (.sref 3006 1 0 p30.length)) (by rfl) (FrzL.all (by first | rfl | (simp; done) | (simp; omega))) TwT.nil) TwB.nil) (mp [] [(4, (qI_1 p30)), (5, (i6 0))] [] hB)), [(qI_1 p30), (i6 0)], (Res.tmp (by rfl) (by rfl) (Res.tmp (by rfl) (by rfl) Res.nil)), rfl, by rfl, by rfl, by rfl⟩

noncomputable def exchangepointref40_Percentile (a0 : (List Int)) (a1 : Int) : Option (Int × Int) :=
  (if (((decide (a1 < (1 : Int))) || (decide ((100 : Int) < a1))) || (decide ((9000 : Int) < (a0.length : Int)))) = true then
  some ((0 : Int), (1 : Int))
  else
  (if ((a0.length : Int) == (0 : Int)) = true then
  some ((0 : Int), (39 : Int))
  else
  chk (decide (a0.length ≤ LIM)) <|
  (ext45_slices_Sort a0).bind fun r4 =>
  chk (decide (r4.length = a0.length)) <|
  (idx r4 (w64 ((w64 (Int.tdiv (w64 ((w64 (a1 * (a0.length : Int))) + (99 : Int))) (100 : Int))) - (1 : Int)))).bind fun x6 =>
  (idx r4 (w64 ((w64 (Int.tdiv (w64 ((w64 (a1 * (a0.length : Int))) + (99 : Int))) (100 : Int))) - (1 : Int)))).bind fun x7 =>
  some (x7, (0 : Int))))
set_option maxHeartbeats 4000000 in
set_option maxRecDepth 100000 in
theorem exchangepointref40_Percentile_ac (a0 : (List Int)) (a1 : Int) (r : Int × Int) (h : exchangepointref40_Percentile a0 a1 = some r) : AC Try.prog 55 [(.d (.list 1 (a0.map (eI .i64)))), (.d (.int .i64 a1))] [] (.tup [(.d (.int .i64 r.1)), (.d (.int .i64 r.2))]) [] := by
  refine AC.of_code2 Try.func55 rfl rfl (Nat.le_of_ble_eq_true (by rfl)) fun B hB hN => ?_
  have L {d : Nat} (h : Nat.blt d Try.f55.ntmps = true) : d < B.N := ltN hN h
  delta exchangepointref40_Percentile at h
  refine sr (c (OpJ.assign (L rfl) (Opd.int .i64 (0))) rfl (c (OpJ.assign (L rfl) (Opd.int .i64 (0))) rfl cn)) ?_
  refine gh [(0, _), (1, _)] [] hB rfl rfl (by rfl) ?_
  refine AWp.seq ?_
  refine sr (c (mv hN (q 1)) rfl (c (OpJ.lss (L rfl) (q 7) (Opd.int .i64 (1))) rfl (c (mv hN (q 8)) rfl (c (oq hN 9 (mv hN (q 1)) (OptL.keep (by rfl) OptL.nil) (GuardV.plain _)) rfl (c (oq hN 9 (OpJ.gtr (L rfl) (q 10) (Opd.int .i64 (100))) (OptL.opt OptL.nil) (GuardV.plain _)) rfl (c (OpJ.pickOr rfl (L rfl) (q 9) (q 11)) rfl (c (mv hN (q 12)) rfl (c (oq hN 13 (mv hN (q 0)) (OptL.keep (by rfl) OptL.nil) (GuardV.plain _)) rfl (c (oq hN 13 (OpJ.val (v' := (i6 (a0.length : Int))) (by simp) (OpJ.lenD Try.underlying28 (L rfl) (q 14))) (OptL.opt OptL.nil) (GuardV.plain _)) rfl (c (oq hN 13 (OpJ.gtr (L rfl) (q 15) (Opd.int .i64 (9000))) (OptL.opt OptL.nil) (GuardV.plain _)) rfl (c (OpJ.pickOr rfl (L rfl) (q 13) (q 16)) rfl cn))))))))))) ?_
  refine gh [(0, _), (1, _), (17, _)] [] hB rfl rfl (by rfl) ?_
  refine AWp.cond rfl (fun hg1 => ?_) (fun hg1 => ?_)
  · replace h := ite_t hg1 h
    refine sr (c (OpJ.assign (L rfl) (Opd.int .i64 (0))) rfl (c (OpJ.assign (L rfl) (Opd.int .i64 (1))) rfl cn)) ?_
    refine gh [(4, _), (5, _)] [] hB rfl rfl (by rfl) ?_
    refine AWp.ret ?_
    refine seqQ_r ?_
    obtain rfl := Option.some.inj h
    exact ⟨.inl rfl, _, _, (kp [(4, _), (5, _)] [] hB rfl rfl (by rfl)), [(i6 0), (i6 1)], (Res.tmp (by rfl) (by rfl) (Res.tmp (by rfl) (by rfl) Res.nil)), rfl, by rfl, by rfl, by rfl⟩
  · replace h := ite_f hg1 h
    refine AWp.skip ?_
    refine seqQ_n ?_
    refine AWp.seq ?_
    refine sr (c (mv hN (q 0)) rfl (c (OpJ.val (v' := (i6 (a0.length : Int))) (by simp) (OpJ.lenD Try.underlying28 (L rfl) (q 18))) rfl (c (OpJ.eqlI (L rfl) (q 19) (Opd.int .i64 (0))) rfl cn))) ?_
    refine gh [(0, _), (1, _), (20, _)] [] hB rfl rfl (by rfl) ?_
    refine AWp.cond rfl (fun hg2 => ?_) (fun hg2 => ?_)
    · replace h := ite_t hg2 h
      refine sr (c (OpJ.assign (L rfl) (Opd.int .i64 (0))) rfl (c (OpJ.assign (L rfl) (Opd.int .i64 (39))) rfl cn)) ?_
      refine gh [(4, _), (5, _)] [] hB rfl rfl (by rfl) ?_
      refine AWp.ret ?_
      refine seqQ_r ?_
      obtain rfl := Option.some.inj h
      exact ⟨.inl rfl, _, _, (kp [(4, _), (5, _)] [] hB rfl rfl (by rfl)), [(i6 0), (i6 (39 : Int))], (Res.tmp (by rfl) (by rfl) (Res.tmp (by rfl) (by rfl) Res.nil)), rfl, by rfl, by rfl, by rfl⟩
    · replace h := ite_f hg2 h
      refine AWp.skip ?_
      refine seqQ_n ?_
      obtain ⟨hc3, h⟩ := chk_some h
      refine sr (c (mv hN (q 0)) rfl (cg (OpJ.appendN hB Try.underlying28 tyE3 (nm := 1022) (by decide) (ys := a0.map (eI .i64)) (len := a0.length) (by simp) (map_sz (f := (eI .i64)) (fun _ => rfl)) (by rw [List.length_map]; exact lim_mulN hc3 (by decide)) (by rw [List.length_map]; exact lim_leN hc3) (L rfl) Opd.nils (q 21)) rfl (c (OpJ.assign (L rfl) (q 22)) rfl cn))) ?_
      refine gh [(1, _), (6, _)] [(1022, some _)] hB rfl rfl (by rfl) ?_
      refine AWp.seq ?_
      obtain ⟨r4, hr4, h⟩ := bindS h
      obtain ⟨hc5, h⟩ := chk_some h
      have hc5_o := of_decide_eq_true hc5
      refine AWp.region (oc (mv hN (ot 6 (.sref 1022 1 0 a0.length)))
        (oc (OpJ.callFn hB fnOk45 (ext45_slices_Sort_ac a0 r4 hr4) [(0, 1022)] (by kernel_rfl) (L rfl) (by kernel_rfl) (OpdL.cons (ot 23 (.sref 1022 1 0 a0.length)) OpdL.nil))
        (OpJs.nil))) (by rfl) (by rfl) ?_
      refine seqQ_n ?_
      refine AWp.ghost (mp [] [(1, (i6 a1)), (6, (.sref 1022 1 0 a0.length))] [(1022, some (wI_3_1 r4))] hB) ?_
      obtain ⟨x6, hx6, h⟩ := bindS h
      obtain ⟨x7, hx7, h⟩ := bindS h
      refine sr (c (mv hN (q 6)) rfl (c (mv hN (q 1)) rfl (c (mv hN (q 6)) rfl (c (OpJ.lenS Try.underlying28 (L rfl) (q 27)) rfl (c (mul6 (L rfl) (q 26) (q 28)) rfl (c (add6 (L rfl) (q 29) (Opd.int .i64 (99))) rfl (c (quo6 (L rfl) (q 30) (Opd.int .i64 (100)) (by decide)) rfl (c (sub6 (L rfl) (q 31) (Opd.int .i64 (1))) rfl (c (OpJ.val (v' := (.ptr 1022 ((w64 ((w64 (Int.tdiv (w64 ((w64 (a1 * (a0.length : Int))) + (99 : Int))) (100 : Int))) - (1 : Int))).toNat * 1) [(w64 ((w64 (Int.tdiv (w64 ((w64 (a1 * (a0.length : Int))) + (99 : Int))) (100 : Int))) - (1 : Int))).toNat])) (by simp) (OpJ.indexS Try.underlying28 tyS3 (idx_some hx6).1 (by have := idx_lt hx6; first | (simpa using this) | ((try simp only [List.length_map] at this); (try simp only [List.length_map]); omega)) (L rfl) (q 25) (q 32))) rfl (c (OpJ.loadR (e := 3) (sz := 1) tyS3 (get_map (eI .i64) (idx_some hx7).2) (o := 0) (At.here _) (by rfl) (by rfl) (by rfl) (L rfl) (q 33)) rfl (c (OpJ.assign (L rfl) (q 34)) rfl (c (OpJ.assign (L rfl) (Opd.int .i64 (0))) rfl cn)))))))))))) ?_
      refine gh [(4, _), (5, _)] [] hB rfl rfl (by rfl) ?_
      refine AWp.ret ?_
      obtain rfl := Option.some.inj h
      exact ⟨.inl rfl, _, _, (kp [(4, _), (5, _)] [] hB rfl rfl (by rfl)), [(i6 x7), (i6 0)], (Res.tmp (by rfl) (by rfl) (Res.tmp (by rfl) (by rfl) Res.nil)), rfl, by rfl, by rfl, by rfl⟩

noncomputable def exchangepointref40_Used (a0 : api_Series) (a1 : Int) : Option (Int × Int) :=
  (exchangepointref40_Valid a0).bind fun r1 =>
  (if (!r1) = true then
  some ((0 : Int), (1 : Int))
  else
  (exchangepointref40_Rates a0.fIn a0.fSeconds).bind fun r3 =>
  (exchangepointref40_Rates a0.fOut a0.fSeconds).bind fun r4 =>
  (exchangepointref40_Percentile r3.1 a1).bind fun r5 =>
  (if (r5.2 != (0 : Int)) = true then
  some ((0 : Int), r5.2)
  else
  (exchangepointref40_Percentile r4.1 a1).bind fun r7 =>
  some ((maxI r5.1 r7.1), (0 : Int))))
set_option maxHeartbeats 4000000 in
set_option maxRecDepth 100000 in
theorem exchangepointref40_Used_ac (a0 : api_Series) (a1 : Int) (r : Int × Int) (h : exchangepointref40_Used a0 a1 = some r) : AC Try.prog 37 [(.d (e_api_Series a0)), (.d (.int .i64 a1))] [] (.tup [(.d (.int .i64 r.1)), (.d (.int .i64 r.2))]) [] := by
  refine AC.of_code2 Try.func37 rfl rfl (Nat.le_of_ble_eq_true (by rfl)) fun B hB hN => ?_
  have L {d : Nat} (h : Nat.blt d Try.f37.ntmps = true) : d < B.N := ltN hN h
  delta exchangepointref40_Used at h
  refine sr (cg (OpJ.box hB (nm := 1002) (by decide) (by simp) rfl (L rfl) (q 0)) rfl (c (OpJ.assign (L rfl) (Opd.int .i64 (0))) rfl (c (OpJ.assign (L rfl) (Opd.int .i64 (0))) rfl cn))) ?_
  refine gh [(1, _), (2, _)] [(1002, some _)] hB rfl rfl (by rfl) ?_
  refine AWp.seq ?_
  obtain ⟨r1, hr1, h⟩ := bindS h
  refine sr (c (lb hN 31 _ _ tyS31 (At.here _) (q 2)) rfl (cg (OpJ.callFn hB fnOk38 (exchangepointref40_Valid_ac a0 r1 hr1) [] (by kernel_rfl) (L rfl) (by kernel_rfl) (OpdL.cons (q 14) OpdL.nil)) rfl (c (OpJ.not (L rfl) (q 15)) rfl cn))) ?_
  refine gh [(1, _), (2, _), (16, _)] [(1002, some _)] hB rfl rfl (by rfl) ?_
  refine AWp.cond rfl (fun hg2 => ?_) (fun hg2 => ?_)
  · replace h := ite_t hg2 h
    refine sr (c (OpJ.assign (L rfl) (Opd.int .i64 (0))) rfl (c (OpJ.assign (L rfl) (Opd.int .i64 (1))) rfl cn)) ?_
    refine gh [(4, _), (5, _)] [] hB rfl rfl (by rfl) ?_
    refine AWp.ret ?_
    refine seqQ_r ?_
    obtain rfl := Option.some.inj h
    exact ⟨.inl rfl, _, _, (kp [(4, _), (5, _)] [] hB rfl rfl (by rfl)), [(i6 0), (i6 1)], (Res.tmp (by rfl) (by rfl) (Res.tmp (by rfl) (by rfl) Res.nil)), rfl, by rfl, by rfl, by rfl⟩
  · replace h := ite_f hg2 h
    refine AWp.skip ?_
    refine seqQ_n ?_
    obtain ⟨r3, hr3, h⟩ := bindS h
    refine sr (c (ov (.ptr 1002 2 [2]) (fp hN Try.underlying31 2 tyS28 _ (q 2))) rfl (c (lb hN 31 _ _ tyS28 (ad _) (q 18)) rfl (c (ov (.ptr 1002 1 [1]) (fp hN Try.underlying31 1 tyS3 _ (q 2))) rfl (c (lb hN 31 _ _ tyS3 (ad _) (q 20)) rfl (cg (OpJ.callFn hB fnOk54 (exchangepointref40_Rates_ac a0.fIn a0.fSeconds r3 hr3) [] (by kernel_rfl) (L rfl) (by kernel_rfl) (OpdL.cons (q 19) (OpdL.cons (q 21) OpdL.nil))) rfl (c (mv hN (q 22)) rfl (c (OpJ.extract (by rfl) rfl (L rfl) (q 17)) rfl (c (OpJ.extract (by rfl) rfl (L rfl) (q 17)) rfl (c (OpJ.assign (L rfl) (q 23)) rfl (c (OpJ.assign (L rfl) (q 24)) rfl cn)))))))))) ?_
    refine gh [(1, _), (2, _), (6, _)] [(1002, some _)] hB rfl rfl (by rfl) ?_
    obtain ⟨r4, hr4, h⟩ := bindS h
    refine sr (c (ov (.ptr 1002 3 [3]) (fp hN Try.underlying31 3 tyS28 _ (q 2))) rfl (c (lb hN 31 _ _ tyS28 (ad _) (q 26)) rfl (c (ov (.ptr 1002 1 [1]) (fp hN Try.underlying31 1 tyS3 _ (q 2))) rfl (c (lb hN 31 _ _ tyS3 (ad _) (q 28)) rfl (cg (OpJ.callFn hB fnOk54 (exchangepointref40_Rates_ac a0.fOut a0.fSeconds r4 hr4) [] (by kernel_rfl) (L rfl) (by kernel_rfl) (OpdL.cons (q 27) (OpdL.cons (q 29) OpdL.nil))) rfl (c (mv hN (q 30)) rfl (c (OpJ.extract (by rfl) rfl (L rfl) (q 25)) rfl (c (OpJ.extract (by rfl) rfl (L rfl) (q 25)) rfl (c (OpJ.assign (L rfl) (q 31)) rfl (c (OpJ.assign (L rfl) (q 32)) rfl cn)))))))))) ?_
    refine gh [(1, _), (6, _), (8, _)] [] hB rfl rfl (by rfl) ?_
    obtain ⟨r5, hr5, h⟩ := bindS h
    refine sr (c (mv hN (q 6)) rfl (c (mv hN (q 1)) rfl (cg (OpJ.callFn hB fnOk55 (exchangepointref40_Percentile_ac r3.1 a1 r5 hr5) [] (by kernel_rfl) (L rfl) (by kernel_rfl) (OpdL.cons (q 34) (OpdL.cons (q 35) OpdL.nil))) rfl (c (mv hN (q 36)) rfl (c (OpJ.extract (by rfl) rfl (L rfl) (q 33)) rfl (c (OpJ.extract (by rfl) rfl (L rfl) (q 33)) rfl (c (OpJ.assign (L rfl) (q 37)) rfl (c (OpJ.assign (L rfl) (q 38)) rfl cn)))))))) ?_
    refine gh [(1, _), (8, _), (10, _), (11, _)] [] hB rfl rfl (by rfl) ?_
    refine AWp.seq ?_
    refine sr (c (mv hN (q 11)) rfl (c (OpJ.neqI (L rfl) (q 39) (Opd.int .i64 (0))) rfl cn)) ?_
    refine gh [(1, _), (8, _), (10, _), (11, _), (40, _)] [] hB rfl rfl (by rfl) ?_
    refine AWp.cond rfl (fun hg6 => ?_) (fun hg6 => ?_)
    · replace h := ite_t hg6 h
      refine sr (c (mv hN (q 11)) rfl (c (OpJ.assign (L rfl) (Opd.int .i64 (0))) rfl (c (OpJ.assign (L rfl) (q 41)) rfl cn))) ?_
      refine gh [(4, _), (5, _)] [] hB rfl rfl (by rfl) ?_
      refine AWp.ret ?_
      refine seqQ_r ?_
      obtain rfl := Option.some.inj h
      exact ⟨.inl rfl, _, _, (kp [(4, _), (5, _)] [] hB rfl rfl (by rfl)), [(i6 0), (i6 r5.2)], (Res.tmp (by rfl) (by rfl) (Res.tmp (by rfl) (by rfl) Res.nil)), rfl, by rfl, by rfl, by rfl⟩
    · replace h := ite_f hg6 h
      refine AWp.skip ?_
      refine seqQ_n ?_
      obtain ⟨r7, hr7, h⟩ := bindS h
      refine sr (c (mv hN (q 8)) rfl (c (mv hN (q 1)) rfl (cg (OpJ.callFn hB fnOk55 (exchangepointref40_Percentile_ac r4.1 a1 r7 hr7) [] (by kernel_rfl) (L rfl) (by kernel_rfl) (OpdL.cons (q 43) (OpdL.cons (q 44) OpdL.nil))) rfl (c (mv hN (q 45)) rfl (c (OpJ.extract (by rfl) rfl (L rfl) (q 42)) rfl (c (OpJ.extract (by rfl) rfl (L rfl) (q 42)) rfl (c (OpJ.assign (L rfl) (q 46)) rfl (c (OpJ.assign (L rfl) (q 47)) rfl cn)))))))) ?_
      refine gh [(10, _), (12, _)] [] hB rfl rfl (by rfl) ?_
      refine sr (c (mv hN (q 10)) rfl (c (mv hN (q 12)) rfl (c (OpJ.max (L rfl) (q 48) (q 49)) rfl (c (OpJ.assign (L rfl) (q 50)) rfl (c (OpJ.assign (L rfl) (Opd.int .i64 (0))) rfl cn))))) ?_
      refine gh [(4, _), (5, _)] [] hB rfl rfl (by rfl) ?_
      refine AWp.ret ?_
      obtain rfl := Option.some.inj h
      exact ⟨.inl rfl, _, _, (kp [(4, _), (5, _)] [] hB rfl rfl (by rfl)), [(i6 (maxI r5.1 r7.1)), (i6 0)], (Res.tmp (by rfl) (by rfl) (Res.tmp (by rfl) (by rfl) Res.nil)), rfl, by rfl, by rfl, by rfl⟩

noncomputable def exchangepointref41_Make_L1 (a3 : (List api_Series)) (x79 : Int) (s80 : Int) : Option (((Int)) ⊕ (Int)) :=
  jn (fun m98 : Bool =>
  (if m98 = true then
  some (.inr (w64 (s80 + (1 : Int))))
  else
  some (.inl s80))) (fun j99 =>
  (if (decide (s80 < (a3.length : Int))) = true then
  (idx a3 s80).bind fun x102 =>
  j99 (x102.fPort != x79)
  else
  j99 false))
noncomputable def exchangepointref41_Make_L0 (a2 : api_Tariff) (a3 : (List api_Series)) (r1 : (List Int) × Bool) (s5 : Int × Int × (List api_Line)) : Option (((Int) ⊕ (Int × (List api_Line))) ⊕ (Int × Int × (List api_Line))) :=
  (if (decide (s5.1 < (r1.1.length : Int))) = true then
  (idx r1.1 s5.1).bind fun x79 =>
  (loop (exchangepointref41_Make_L1 a3 x79) (0 : Int)).bind fun p95 =>
  (if (p95 == (a3.length : Int)) = true then
  some (.inl (.inl (7 : Int)))
  else
  (idx a3 p95).bind fun x106 =>
  (exchangepointref40_Used x106 (95 : Int)).bind fun r107 =>
  (if (r107.2 != (0 : Int)) = true then
  some (.inl (.inl r107.2))
  else
  (exchangepointref41_Price a2 r107.1).bind fun r109 =>
  (if (r109.2 != (0 : Int)) = true then
  some (.inl (.inl r109.2))
  else
  chk (decide ((s5.2.2 ++ ([(api_Line.mk x79 r107.1 r109.1)] : List api_Line)).length ≤ LIM)) <|
  some (.inr ((w64 (s5.1 + (1 : Int))), (w64 (s5.2.1 + r109.1)), (s5.2.2 ++ ([(api_Line.mk x79 r107.1 r109.1)] : List api_Line)))))))
  else
  some (.inl (.inr (s5.2.1, s5.2.2))))
noncomputable def exchangepointref41_Make (a0 : api_Member) (a1 : Int) (a2 : api_Tariff) (a3 : (List api_Series)) : Option (api_Invoice × Int) :=
  (exchangepointref41_ports a0).bind fun r1 =>
  (if (((((decide (a0.fASN < (1 : Int))) || (decide ((4294967295 : Int) < a0.fASN))) || (decide (a1 < (1 : Int)))) || (decide ((100000 : Int) < a1))) || (!r1.2)) = true then
  some ((api_Invoice.mk (0 : Int) (0 : Int) (0 : Int) ([] : List api_Line) (0 : Int)), (1 : Int))
  else
  (exchangepointref41_Valid a2).bind fun r3 =>
  (if (!r3) = true then
  some ((api_Invoice.mk (0 : Int) (0 : Int) (0 : Int) ([] : List api_Line) (0 : Int)), (38 : Int))
  else
  (loop (exchangepointref41_Make_L0 a2 a3 r1) ((0 : Int), (0 : Int), ([] : List api_Line))).bind fun x112 => match x112 with
  | (.inl p76) =>
    some ((api_Invoice.mk (0 : Int) (0 : Int) (0 : Int) ([] : List api_Line) (0 : Int)), p76)
  | (.inr p77) =>
    some ((api_Invoice.mk a0.fASN a1 (1 : Int) p77.2 p77.1), (0 : Int))))
set_option maxHeartbeats 4000000 in
set_option maxRecDepth 100000 in
theorem exchangepointref41_Make_ac (a0 : api_Member) (a1 : Int) (a2 : api_Tariff) (a3 : (List api_Series)) (r : api_Invoice × Int) (h : exchangepointref41_Make a0 a1 a2 a3 = some r) : AC Try.prog 14 [(.d (e_api_Member a0)), (.d (.int .i64 a1)), (.d (e_api_Tariff a2)), (.d (.list 4 (a3.map e_api_Series)))] [] (.tup [(.d (e_api_Invoice r.1)), (.d (.int .i64 r.2))]) [] := by
  refine AC.of_code2 Try.func14 rfl rfl (Nat.le_of_ble_eq_true (by rfl)) fun B hB hN => ?_
  have L {d : Nat} (h : Nat.blt d Try.f14.ntmps = true) : d < B.N := ltN hN h
  delta exchangepointref41_Make at h
  refine sr (cg (OpJ.box hB (nm := 1004) (by decide) (by simp) rfl (L rfl) (q 0)) rfl (cg (OpJ.box hB (nm := 1006) (by decide) (by simp) rfl (L rfl) (q 2)) rfl (cg (OpJ.alloc hB tyZ45 (nm := 1008) (by decide) (L rfl)) rfl (c (OpJ.assign (L rfl) (Opd.int .i64 (0))) rfl cn)))) ?_
  refine gh [(1, _), (3, _), (4, _), (6, _), (8, _)] [(1004, some _), (1006, some _), (1008, some _)] hB rfl rfl (by rfl) ?_
  obtain ⟨r1, hr1, h⟩ := bindS h
  refine sr (c (lb hN 24 _ _ tyS24 (At.here _) (q 4)) rfl (cg (OpJ.callFn hB fnOk36 (exchangepointref41_ports_ac a0 r1 hr1) [] (by kernel_rfl) (L rfl) (by kernel_rfl) (OpdL.cons (q 20) OpdL.nil)) rfl (c (mv hN (q 21)) rfl (c (OpJ.extract (by rfl) rfl (L rfl) (q 19)) rfl (c (OpJ.extract (by rfl) rfl (L rfl) (q 19)) rfl (c (OpJ.assign (L rfl) (q 22)) rfl (c (OpJ.assign (L rfl) (q 23)) rfl cn))))))) ?_
  refine gh [(1, _), (3, _), (4, _), (6, _), (8, _), (10, _), (11, _)] [(1004, some _), (1006, some _), (1008, some _)] hB rfl rfl (by rfl) ?_
  refine AWp.seq ?_
  refine sr (c (ov (.ptr 1004 0 [0]) (fp hN Try.underlying24 0 tyS3 _ (q 4))) rfl (c (lb hN 24 _ _ tyS3 (ad _) (q 24)) rfl (c (OpJ.lss (L rfl) (q 25) (Opd.int .i64 (1))) rfl (c (mv hN (q 26)) rfl (c (oq hN 27 (ov (.ptr 1004 0 [0]) (fp hN Try.underlying24 0 tyS3 _ (q 4))) (OptL.keep (by rfl) OptL.nil) (GuardV.plain _)) rfl (c (oq hN 27 (lb hN 24 _ _ tyS3 (ad _) (q 28)) (OptL.opt OptL.nil) (GuardV.plain _)) rfl (c (oq hN 27 (OpJ.gtr (L rfl) (q 29) (Opd.int .i64 (4294967295))) (OptL.opt OptL.nil) (GuardV.plain _)) rfl (c (OpJ.pickOr rfl (L rfl) (q 27) (q 30)) rfl (c (mv hN (q 31)) rfl (c (oq hN 32 (mv hN (q 1)) (OptL.keep (by rfl) OptL.nil) (GuardV.plain _)) rfl (c (oq hN 32 (OpJ.lss (L rfl) (q 33) (Opd.int .i64 (1))) (OptL.opt OptL.nil) (GuardV.plain _)) rfl (c (OpJ.pickOr rfl (L rfl) (q 32) (q 34)) rfl (c (mv hN (q 35)) rfl (c (oq hN 36 (mv hN (q 1)) (OptL.keep (by rfl) OptL.nil) (GuardV.plain _)) rfl (c (oq hN 36 (OpJ.gtr (L rfl) (q 37) (Opd.int .i64 (100000))) (OptL.opt OptL.nil) (GuardV.plain _)) rfl (c (OpJ.pickOr rfl (L rfl) (q 36) (q 38)) rfl (c (mv hN (q 39)) rfl (c (oq hN 40 (mv hN (q 11)) (OptL.keep (by rfl) OptL.nil) (GuardV.plain _)) rfl (c (oq hN 40 (OpJ.not (L rfl) (q 41)) (OptL.opt OptL.nil) (GuardV.plain _)) rfl (c (OpJ.pickOr rfl (L rfl) (q 40) (q 42)) rfl cn)))))))))))))))))))) ?_
  refine gh [(1, _), (3, _), (4, _), (6, _), (8, _), (10, _), (43, _)] [(1004, some _), (1006, some _), (1008, some _)] hB rfl rfl (by rfl) ?_
  refine AWp.cond rfl (fun hg2 => ?_) (fun hg2 => ?_)
  · replace h := ite_t hg2 h
    refine sr (c (OpJ.build (places := [(0, 1), (1, 1), (2, 1), (3, 1), (4, 1)]) ⟨Try.underlying45, fun w => by kernel_rfl⟩ tyZS45 Opds.nil (by kernel_rfl) (r := (.st [(i6 0), (i6 0), (i6 0), .nils, (i6 0)])) (by rfl) (L rfl)) rfl (cg (OpJ.storeB tyS45 (SetAt.here _ _) (by rfl) (by rfl) (by simp) rfl (q 8) (q 44)) rfl (c (OpJ.assign (L rfl) (Opd.int .i64 (1))) rfl cn))) ?_
    refine gh [(8, _), (9, _)] [(1008, some _)] hB rfl rfl (by rfl) ?_
    refine AWp.ret ?_
    refine seqQ_r ?_
    obtain rfl := Option.some.inj h
    exact ⟨.inl rfl, _, _, (Mat.trans (Mat.coeP (Ts := []) (Bs := [(1008, some (.box 45 (.d (.st [(.int .i64 0), (.int .i64 0), (.int .i64 0), (.list 3 (([] : List api_Line).map e_api_Line)), (.int .i64 0)]))))]) TwT.nil (TwB.cons (x := (.st [(i6 0), (i6 0), (i6 0), .nils, (i6 0)])) (by rfl) (Tw.leaf ⟨_, (Co.st (CoL.cons (Co.d _) (CoL.cons (Co.d _) (CoL.cons (Co.d _) (CoL.cons (Co.nils 3) (CoL.cons (Co.d _) CoL.nil)))))), rfl⟩) TwB.nil)) (mp [] [(8, (.ptr 1008 0 [])), (9, (i6 1))] [(1008, some (.box 45 (.d (.st [(.int .i64 0), (.int .i64 0), (.int .i64 0), (.list 3 (([] : List api_Line).map e_api_Line)), (.int .i64 0)]))))] hB)), [(.d (.st [(.int .i64 0), (.int .i64 0), (.int .i64 0), (.list 3 (([] : List api_Line).map e_api_Line)), (.int .i64 0)])), (i6 1)], (Res.cell (c := (.d (.st [(.int .i64 0), (.int .i64 0), (.int .i64 0), (.list 3 (([] : List api_Line).map e_api_Line)), (.int .i64 0)]))) (by rfl) (by rfl) tyS45 (by rfl) (by rfl) (by rfl) (Res.tmp (by rfl) (by rfl) Res.nil)), rfl, by rfl, by rfl, by rfl⟩
  · replace h := ite_f hg2 h
    refine AWp.skip ?_
    refine seqQ_n ?_
    refine AWp.seq ?_
    obtain ⟨r3, hr3, h⟩ := bindS h
    refine sr (c (lb hN 27 _ _ tyS27 (At.here _) (q 6)) rfl (cg (OpJ.callFn hB fnOk27 (exchangepointref41_Valid_ac a2 r3 hr3) [] (by kernel_rfl) (L rfl) (by kernel_rfl) (OpdL.cons (q 45) OpdL.nil)) rfl (c (OpJ.not (L rfl) (q 46)) rfl cn))) ?_
    refine gh [(1, _), (3, _), (4, _), (6, _), (8, _), (10, _), (47, _)] [(1004, some _), (1006, some _), (1008, some _)] hB rfl rfl (by rfl) ?_
    refine AWp.cond rfl (fun hg4 => ?_) (fun hg4 => ?_)
    · replace h := ite_t hg4 h
      refine sr (c (OpJ.build (places := [(0, 1), (1, 1), (2, 1), (3, 1), (4, 1)]) ⟨Try.underlying45, fun w => by kernel_rfl⟩ tyZS45 Opds.nil (by kernel_rfl) (r := (.st [(i6 0), (i6 0), (i6 0), .nils, (i6 0)])) (by rfl) (L rfl)) rfl (cg (OpJ.storeB tyS45 (SetAt.here _ _) (by rfl) (by rfl) (by simp) rfl (q 8) (q 48)) rfl (c (OpJ.assign (L rfl) (Opd.int .i64 (38))) rfl cn))) ?_
      refine gh [(8, _), (9, _)] [(1008, some _)] hB rfl rfl (by rfl) ?_
      refine AWp.ret ?_
      refine seqQ_r ?_
      obtain rfl := Option.some.inj h
      exact ⟨.inl rfl, _, _, (Mat.trans (Mat.coeP (Ts := []) (Bs := [(1008, some (.box 45 (.d (.st [(.int .i64 0), (.int .i64 0), (.int .i64 0), (.list 3 (([] : List api_Line).map e_api_Line)), (.int .i64 0)]))))]) TwT.nil (TwB.cons (x := (.st [(i6 0), (i6 0), (i6 0), .nils, (i6 0)])) (by rfl) (Tw.leaf ⟨_, (Co.st (CoL.cons (Co.d _) (CoL.cons (Co.d _) (CoL.cons (Co.d _) (CoL.cons (Co.nils 3) (CoL.cons (Co.d _) CoL.nil)))))), rfl⟩) TwB.nil)) (mp [] [(8, (.ptr 1008 0 [])), (9, (i6 (38 : Int)))] [(1008, some (.box 45 (.d (.st [(.int .i64 0), (.int .i64 0), (.int .i64 0), (.list 3 (([] : List api_Line).map e_api_Line)), (.int .i64 0)]))))] hB)), [(.d (.st [(.int .i64 0), (.int .i64 0), (.int .i64 0), (.list 3 (([] : List api_Line).map e_api_Line)), (.int .i64 0)])), (i6 (38 : Int))], (Res.cell (c := (.d (.st [(.int .i64 0), (.int .i64 0), (.int .i64 0), (.list 3 (([] : List api_Line).map e_api_Line)), (.int .i64 0)]))) (by rfl) (by rfl) tyS45 (by rfl) (by rfl) (by rfl) (Res.tmp (by rfl) (by rfl) Res.nil)), rfl, by rfl, by rfl, by rfl⟩
    · replace h := ite_f hg4 h
      refine AWp.skip ?_
      refine seqQ_n ?_
      refine sr (c (ov (.ptr 1004 0 [0]) (fp hN Try.underlying24 0 tyS3 _ (q 4))) rfl (c (lb hN 24 _ _ tyS3 (ad _) (q 49)) rfl (c (mv hN (q 1)) rfl (c (OpJ.build (places := [(0, 1), (1, 1), (2, 1), (3, 1), (4, 1)]) ⟨Try.underlying45, fun w => by kernel_rfl⟩ tyZS45 (Opds.cons (q 50) (Opds.cons (q 51) (Opds.cons (Opd.int .i64 (1)) Opds.nil))) (by kernel_rfl) (r := (.st [(i6 a0.fASN), (i6 a1), (i6 1), .nils, (i6 0)])) (by rfl) (L rfl)) rfl (cg (OpJ.alloc hB tyZ45 (nm := 1012) (by decide) (L rfl)) rfl (cg (OpJ.storeB tyS45 (SetAt.here _ _) (by rfl) (by rfl) (by simp) rfl (q 12) (q 52)) rfl cn)))))) ?_
      refine gh [(3, _), (6, _), (8, _), (10, _), (12, _)] [(1006, some _), (1008, some _), (1012, some _)] hB rfl rfl (by rfl) ?_
      refine AWp.seq ?_
      refine sr (c (mv hN (q 10)) rfl (c (OpJ.val (v' := (i6 (r1.1.length : Int))) (by simp) (OpJ.lenD Try.underlying28 (L rfl) (q 53))) rfl (c (mv hN (Opd.int .i64 (0))) rfl cn))) ?_
      refine gh [(3, _), (6, _), (8, _), (12, _), (53, _), (54, _), (55, _)] [(1006, some _), (1008, some _), (1012, some _)] hB rfl rfl (by rfl) ?_
      refine AWp.block ?_
      obtain ⟨x112, hx113, h⟩ := bindS h
      refine lg (exchangepointref41_Make_L0 a2 a3 r1) (fun s5 : Int × Int × (List api_Line) => ([(3, (qe_api_Series_4 a3)), (6, (.ptr 1006 0 [])), (8, (.ptr 1008 0 [])), (12, (.ptr 1012 0 [])), (53, (qI_1 r1.1)), (54, (i6 (r1.1.length : Int))), (55, (i6 s5.1))] : EL)) (fun s5 : Int × Int × (List api_Line) => ([(1006, some (.box 27 (.d (e_api_Tariff a2)))), (1008, some (.box 45 (.st [(i6 0), (i6 0), (i6 0), .nils, (i6 0)]))), (1012, some (.box 45 (.st [(i6 a0.fASN), (i6 a1), (i6 1), (.sref 13123 3 0 s5.2.2.length), (i6 s5.2.1)]))), (13123, some (we_api_Line_51_3 s5.2.2))] : OL)) (fun (x : (Int) ⊕ (Int × (List api_Line))) e E' O' => match x with | (.inl p76) => e = .ret ∧ Mat B E' O' ([(8, (.ptr 1008 0 [])), (9, (i6 p76))] : EL) ([(1008, some (.box 45 (.st [(i6 0), (i6 0), (i6 0), .nils, (i6 0)])))] : OL) | (.inr p77) => e = .exit 0 ∧ Mat B E' O' ([(8, (.ptr 1008 0 [])), (12, (.ptr 1012 0 []))] : EL) ([(1008, some (.box 45 (.st [(i6 0), (i6 0), (i6 0), .nils, (i6 0)]))), (1012, some (.box 45 (.st [(i6 a0.fASN), (i6 a1), (i6 1), (.sref 13123 3 0 p77.2.length), (i6 p77.1)]))), (13123, some (we_api_Line_51_3 p77.2))] : OL)) hx113 (Mat.trans (Mat.beginP (n := 13123) (e := 51) (sz := 3) (Ts := []) (Bs := [(1012, some (.box 45 (.st [(i6 a0.fASN), (i6 a1), (i6 1), (.sref 13123 3 0 0), (i6 0)])))]) hB (by decide) (by rfl) (by decide) TwT.nil (TwB.cons (x := (.st [(i6 a0.fASN), (i6 a1), (i6 1), .nils, (i6 0)])) (by rfl) (Tw.st (TwL.cons (Tw.same _) (TwL.cons (Tw.same _) (TwL.cons (Tw.same _) (TwL.cons (Tw.leaf ⟨rfl, rfl⟩) (TwL.cons (Tw.same _) TwL.nil)))))) TwB.nil)) (mp [] _ _ hB)) (fun s5 y h => ?_) (fun e E' O' hR => ?_)
      · unfold exchangepointref41_Make_L0 at h
        refine sr (c (OpJ.lss (L rfl) (q 55) (q 54)) rfl cn) ?_
        refine gh [(3, _), (6, _), (8, _), (12, _), (53, _), (54, _), (55, _), (56, _)] [(1006, some _), (1008, some _), (1012, some _), (13123, some _)] hB rfl rfl (by rfl) ?_
        refine AWp.seq ?_
        refine AWp.cond rfl (fun hg78 => ?_) (fun hg78 => ?_)
        · replace h := ite_t hg78 h
          refine AWp.skip ?_
          refine seqQ_n ?_
          refine AWp.seq ?_
          refine AWp.block ?_
          obtain ⟨x79, hx79, h⟩ := bindS h
          refine sr (c (OpJ.indexD Try.underlying28 tyS3 (idx_some hx79).1 (get_map (eI .i64) (idx_some hx79).2) (L rfl) (q 53) (q 55)) rfl (c (OpJ.loadD tyS3 (by rfl) (by rfl) (L rfl) (q 57)) rfl (c (OpJ.assign (L rfl) (q 58)) rfl cn))) ?_
          refine gh [(3, _), (6, _), (8, _), (12, _), (14, _), (53, _), (54, _), (55, _)] [(1006, some _), (1008, some _), (1012, some _), (13123, some _)] hB rfl rfl (by rfl) ?_
          refine sr (c (OpJ.assign (L rfl) (Opd.int .i64 (0))) rfl cn) ?_
          refine gh [(3, _), (6, _), (8, _), (12, _), (14, _), (15, _), (53, _), (54, _), (55, _)] [(1006, some _), (1008, some _), (1012, some _), (13123, some _)] hB rfl rfl (by rfl) ?_
          refine AWp.seq ?_
          refine AWp.block ?_
          obtain ⟨p95, hx104, h⟩ := bindS h
          refine lg (exchangepointref41_Make_L1 a3 x79) (fun s80 : Int => ([(3, (qe_api_Series_4 a3)), (6, (.ptr 1006 0 [])), (8, (.ptr 1008 0 [])), (12, (.ptr 1012 0 [])), (14, (i6 x79)), (15, (i6 s80)), (53, (qI_1 r1.1)), (54, (i6 (r1.1.length : Int))), (55, (i6 s5.1))] : EL)) (fun s80 : Int => ([(1006, some (.box 27 (.d (e_api_Tariff a2)))), (1008, some (.box 45 (.st [(i6 0), (i6 0), (i6 0), .nils, (i6 0)]))), (1012, some (.box 45 (.st [(i6 a0.fASN), (i6 a1), (i6 1), (.sref 13123 3 0 s5.2.2.length), (i6 s5.2.1)]))), (13123, some (we_api_Line_51_3 s5.2.2))] : OL)) (fun (p95 : (Int)) e E' O' => e = .exit 2 ∧ Mat B E' O' ([(3, (qe_api_Series_4 a3)), (6, (.ptr 1006 0 [])), (8, (.ptr 1008 0 [])), (12, (.ptr 1012 0 [])), (14, (i6 x79)), (15, (i6 p95)), (53, (qI_1 r1.1)), (54, (i6 (r1.1.length : Int))), (55, (i6 s5.1))] : EL) ([(1006, some (.box 27 (.d (e_api_Tariff a2)))), (1008, some (.box 45 (.st [(i6 0), (i6 0), (i6 0), .nils, (i6 0)]))), (1012, some (.box 45 (.st [(i6 a0.fASN), (i6 a1), (i6 1), (.sref 13123 3 0 s5.2.2.length), (i6 s5.2.1)]))), (13123, some (we_api_Line_51_3 s5.2.2))] : OL)) hx104 (mp [] _ _ hB) (fun s80 y h => ?_) (fun e E' O' hR => ?_)
          · unfold exchangepointref41_Make_L1 at h
            refine AWp.seq ?_
            refine AWp.seq ?_
            refine AWp.cut h (fun m98 : Bool => ([(3, (qe_api_Series_4 a3)), (6, (.ptr 1006 0 [])), (8, (.ptr 1008 0 [])), (12, (.ptr 1012 0 [])), (14, (i6 x79)), (15, (i6 s80)), (53, (qI_1 r1.1)), (54, (i6 (r1.1.length : Int))), (55, (i6 s5.1)), (71, (bo m98))] : EL)) (fun m98 : Bool => ([(1006, some (.box 27 (.d (e_api_Tariff a2)))), (1008, some (.box 45 (.st [(i6 0), (i6 0), (i6 0), .nils, (i6 0)]))), (1012, some (.box 45 (.st [(i6 a0.fASN), (i6 a1), (i6 1), (.sref 13123 3 0 s5.2.2.length), (i6 s5.2.1)]))), (13123, some (we_api_Line_51_3 s5.2.2))] : OL)) (fun m98 h E' O' hmat => ?_) (fun j99 hjj99 h => ?_)
            · refine seqQ_n ?_
              refine AWp.ghost hmat ?_
              refine AWp.cond rfl (fun hg100 => ?_) (fun hg100 => ?_)
              · replace h := ite_t hg100 h
                refine AWp.skip ?_
                refine seqQ_n ?_
                refine AWp.block ?_
                refine rg (c (mv hN (q 15)) rfl (c (add6 (L rfl) (q 72) (Opd.int .i64 (1))) rfl (c (OpJ.assign (L rfl) (q 73)) rfl cn))) ?_
                refine blkQ_n ?_
                obtain rfl := Option.some.inj h
                exact ⟨rfl, (Mat.trans (mp [] [(3, (qe_api_Series_4 a3)), (6, (.ptr 1006 0 [])), (8, (.ptr 1008 0 [])), (12, (.ptr 1012 0 [])), (14, (i6 x79)), (15, (i6 (w64 (s80 + (1 : Int))))), (53, (qI_1 r1.1)), (54, (i6 (r1.1.length : Int))), (55, (i6 s5.1))] [(1006, some (.box 27 (.d (e_api_Tariff a2)))), (1008, some (.box 45 (.st [(i6 0), (i6 0), (i6 0), .nils, (i6 0)]))), (1012, some (.box 45 (.st [(i6 a0.fASN), (i6 a1), (i6 1), (.sref 13123 3 0 s5.2.2.length), (i6 s5.2.1)]))), (13123, some (we_api_Line_51_3 s5.2.2))] hB) (mp [] _ _ hB))⟩
              · replace h := ite_f hg100 h
                refine AWp.exit ?_
                refine seqQ_e ?_
                obtain rfl := Option.some.inj h
                exact ⟨(fun hc => by cases hc), rfl, (mp [] _ _ hB)⟩
            · rcases Bool.eq_false_or_eq_true (decide (s80 < (a3.length : Int))) with hg101 | hg101
              · replace h := ite_t hg101 h
                obtain ⟨x102, hx102, h⟩ := bindS h
                refine rg (c (mv hN (q 15)) rfl (c (mv hN (q 3)) rfl (c (OpJ.val (v' := (i6 (a3.length : Int))) (by simp) (OpJ.lenD Try.underlying25 (L rfl) (q 60))) rfl (c (OpJ.lss (L rfl) (q 59) (q 61)) rfl (c (OpJ.val (v' := .d (.bool true)) (by rw [hg101]) (mv hN (q 62))) rfl (c (OpJ.guarded (g := 63) (by rfl) (mv hN (q 3))) rfl (c (OpJ.guarded (g := 63) (by rfl) (mv hN (q 15))) rfl (c (OpJ.guarded (g := 63) (by rfl) (OpJ.indexD Try.underlying25 tyS31 (idx_some hx102).1 (get_map e_api_Series (idx_some hx102).2) (L rfl) (q 64) (q 65))) rfl (c (OpJ.guarded (g := 63) (by rfl) (OpJ.fieldD Try.underlying31 (by rfl) (o := 0) (by rfl) tyS3 (by decide) (by rfl) (by rfl) (L rfl) (q 66))) rfl (c (OpJ.guarded (g := 63) (by rfl) (OpJ.loadD tyS3 (by rfl) (by rfl) (L rfl) (q 67))) rfl (c (OpJ.guarded (g := 63) (by rfl) (mv hN (q 14))) rfl (c (OpJ.guarded (g := 63) (by rfl) (OpJ.neqI (L rfl) (q 68) (q 69))) rfl (c (OpJ.pickT (L rfl) (q 63) (q 70)) rfl cn))))))))))))) ?_
                exact hjj99 _ h _ _ (Mat.trans (mp [] [(3, (qe_api_Series_4 a3)), (6, (.ptr 1006 0 [])), (8, (.ptr 1008 0 [])), (12, (.ptr 1012 0 [])), (14, (i6 x79)), (15, (i6 s80)), (53, (qI_1 r1.1)), (54, (i6 (r1.1.length : Int))), (55, (i6 s5.1)), (71, (bo (x102.fPort != x79)))] [(1006, some (.box 27 (.d (e_api_Tariff a2)))), (1008, some (.box 45 (.st [(i6 0), (i6 0), (i6 0), .nils, (i6 0)]))), (1012, some (.box 45 (.st [(i6 a0.fASN), (i6 a1), (i6 1), (.sref 13123 3 0 s5.2.2.length), (i6 s5.2.1)]))), (13123, some (we_api_Line_51_3 s5.2.2))] hB) (mp [] _ _ hB))
              · replace h := ite_f hg101 h
                refine rg (c (mv hN (q 15)) rfl (c (mv hN (q 3)) rfl (c (OpJ.val (v' := (i6 (a3.length : Int))) (by simp) (OpJ.lenD Try.underlying25 (L rfl) (q 60))) rfl (c (OpJ.lss (L rfl) (q 59) (q 61)) rfl (c (OpJ.val (v' := .d (.bool false)) (by rw [hg101]) (mv hN (q 62))) rfl (cg (OpJ.skipU (g := 63) (L rfl) (by rfl)) rfl (cg (OpJ.skipU (g := 63) (L rfl) (by rfl)) rfl (cg (OpJ.skipU (g := 63) (L rfl) (by rfl)) rfl (cg (OpJ.skipU (g := 63) (L rfl) (by rfl)) rfl (cg (OpJ.skipU (g := 63) (L rfl) (by rfl)) rfl (cg (OpJ.skipU (g := 63) (L rfl) (by rfl)) rfl (cg (OpJ.skipU (g := 63) (L rfl) (by rfl)) rfl (c (OpJ.pickF (L rfl) (q 63) (Opd.bool false)) rfl cn))))))))))))) ?_
                exact hjj99 _ h _ _ (Mat.trans (mp [] [(3, (qe_api_Series_4 a3)), (6, (.ptr 1006 0 [])), (8, (.ptr 1008 0 [])), (12, (.ptr 1012 0 [])), (14, (i6 x79)), (15, (i6 s80)), (53, (qI_1 r1.1)), (54, (i6 (r1.1.length : Int))), (55, (i6 s5.1)), (71, (bo false))] [(1006, some (.box 27 (.d (e_api_Tariff a2)))), (1008, some (.box 45 (.st [(i6 0), (i6 0), (i6 0), .nils, (i6 0)]))), (1012, some (.box 45 (.st [(i6 a0.fASN), (i6 a1), (i6 1), (.sref 13123 3 0 s5.2.2.length), (i6 s5.2.1)]))), (13123, some (we_api_Line_51_3 s5.2.2))] hB) (mp [] _ _ hB))
          · obtain ⟨rfl, hmat⟩ := hR
            refine blkQ_hit ?_
            refine seqQ_n ?_
            refine AWp.ghost hmat ?_
            refine AWp.seq ?_
            refine sr (c (mv hN (q 15)) rfl (c (mv hN (q 3)) rfl (c (OpJ.val (v' := (i6 (a3.length : Int))) (by simp) (OpJ.lenD Try.underlying25 (L rfl) (q 75))) rfl (c (OpJ.eqlI (L rfl) (q 74) (q 76)) rfl cn)))) ?_
            refine gh [(3, _), (6, _), (8, _), (12, _), (14, _), (15, _), (53, _), (54, _), (55, _), (77, _)] [(1006, some _), (1008, some _), (1012, some _), (13123, some _)] hB rfl rfl (by rfl) ?_
            refine AWp.cond rfl (fun hg105 => ?_) (fun hg105 => ?_)
            · replace h := ite_t hg105 h
              refine sr (c (OpJ.build (places := [(0, 1), (1, 1), (2, 1), (3, 1), (4, 1)]) ⟨Try.underlying45, fun w => by kernel_rfl⟩ tyZS45 Opds.nil (by kernel_rfl) (r := (.st [(i6 0), (i6 0), (i6 0), .nils, (i6 0)])) (by rfl) (L rfl)) rfl (cg (OpJ.storeB tyS45 (SetAt.here _ _) (by rfl) (by rfl) (by simp) rfl (q 8) (q 78)) rfl (c (OpJ.assign (L rfl) (Opd.int .i64 (7))) rfl cn))) ?_
              refine gh [(8, _), (9, _)] [(1008, some _)] hB rfl rfl (by rfl) ?_
              refine AWp.ret ?_
              refine seqQ_r ?_
              refine blkQ_r ?_
              refine seqQ_r ?_
              obtain rfl := Option.some.inj h
              exact ⟨(fun hc => by cases hc), rfl, (mp [] _ _ hB)⟩
            · replace h := ite_f hg105 h
              refine AWp.skip ?_
              refine seqQ_n ?_
              obtain ⟨x106, hx106, h⟩ := bindS h
              obtain ⟨r107, hr107, h⟩ := bindS h
              refine sr (c (mv hN (q 3)) rfl (c (mv hN (q 15)) rfl (c (OpJ.indexD Try.underlying25 tyS31 (idx_some hx106).1 (get_map e_api_Series (idx_some hx106).2) (L rfl) (q 80) (q 81)) rfl (c (OpJ.loadD tyS31 (by rfl) (by rfl) (L rfl) (q 82)) rfl (cg (OpJ.callFn hB fnOk37 (exchangepointref40_Used_ac x106 (95 : Int) r107 hr107) [] (by kernel_rfl) (L rfl) (by kernel_rfl) (OpdL.cons (q 83) (OpdL.cons (Opd.int .i64 (95)) OpdL.nil))) rfl (c (mv hN (q 84)) rfl (c (OpJ.extract (by rfl) rfl (L rfl) (q 79)) rfl (c (OpJ.extract (by rfl) rfl (L rfl) (q 79)) rfl (c (OpJ.assign (L rfl) (q 85)) rfl (c (OpJ.assign (L rfl) (q 86)) rfl cn)))))))))) ?_
              refine gh [(3, _), (6, _), (8, _), (12, _), (14, _), (16, _), (17, _), (53, _), (54, _), (55, _)] [(1006, some _), (1008, some _), (1012, some _), (13123, some _)] hB rfl rfl (by rfl) ?_
              refine AWp.seq ?_
              refine sr (c (mv hN (q 17)) rfl (c (OpJ.neqI (L rfl) (q 87) (Opd.int .i64 (0))) rfl cn)) ?_
              refine gh [(3, _), (6, _), (8, _), (12, _), (14, _), (16, _), (17, _), (53, _), (54, _), (55, _), (88, _)] [(1006, some _), (1008, some _), (1012, some _), (13123, some _)] hB rfl rfl (by rfl) ?_
              refine AWp.cond rfl (fun hg108 => ?_) (fun hg108 => ?_)
              · replace h := ite_t hg108 h
                refine sr (c (OpJ.build (places := [(0, 1), (1, 1), (2, 1), (3, 1), (4, 1)]) ⟨Try.underlying45, fun w => by kernel_rfl⟩ tyZS45 Opds.nil (by kernel_rfl) (r := (.st [(i6 0), (i6 0), (i6 0), .nils, (i6 0)])) (by rfl) (L rfl)) rfl (c (mv hN (q 17)) rfl (cg (OpJ.storeB tyS45 (SetAt.here _ _) (by rfl) (by rfl) (by simp) rfl (q 8) (q 89)) rfl (c (OpJ.assign (L rfl) (q 90)) rfl cn)))) ?_
                refine gh [(8, _), (9, _)] [(1008, some _)] hB rfl rfl (by rfl) ?_
                refine AWp.ret ?_
                refine seqQ_r ?_
                refine blkQ_r ?_
                refine seqQ_r ?_
                obtain rfl := Option.some.inj h
                exact ⟨(fun hc => by cases hc), rfl, (mp [] _ _ hB)⟩
              · replace h := ite_f hg108 h
                refine AWp.skip ?_
                refine seqQ_n ?_
                obtain ⟨r109, hr109, h⟩ := bindS h
                refine sr (c (lb hN 27 _ _ tyS27 (At.here _) (q 6)) rfl (c (mv hN (q 16)) rfl (cg (OpJ.callFn hB fnOk12 (exchangepointref41_Price_ac a2 r107.1 r109 hr109) [] (by kernel_rfl) (L rfl) (by kernel_rfl) (OpdL.cons (q 92) (OpdL.cons (q 93) OpdL.nil))) rfl (c (mv hN (q 94)) rfl (c (OpJ.extract (by rfl) rfl (L rfl) (q 91)) rfl (c (OpJ.extract (by rfl) rfl (L rfl) (q 91)) rfl (c (OpJ.assign (L rfl) (q 95)) rfl (c (OpJ.assign (L rfl) (q 96)) rfl cn)))))))) ?_
                refine gh [(3, _), (6, _), (8, _), (12, _), (14, _), (16, _), (17, _), (18, _), (53, _), (54, _), (55, _)] [(1006, some _), (1008, some _), (1012, some _), (13123, some _)] hB rfl rfl (by rfl) ?_
                refine AWp.seq ?_
                refine sr (c (mv hN (q 17)) rfl (c (OpJ.neqI (L rfl) (q 97) (Opd.int .i64 (0))) rfl cn)) ?_
                refine gh [(3, _), (6, _), (8, _), (12, _), (14, _), (16, _), (17, _), (18, _), (53, _), (54, _), (55, _), (98, _)] [(1006, some _), (1008, some _), (1012, some _), (13123, some _)] hB rfl rfl (by rfl) ?_
                refine AWp.cond rfl (fun hg110 => ?_) (fun hg110 => ?_)
                · replace h := ite_t hg110 h
                  refine sr (c (OpJ.build (places := [(0, 1), (1, 1), (2, 1), (3, 1), (4, 1)]) ⟨Try.underlying45, fun w => by kernel_rfl⟩ tyZS45 Opds.nil (by kernel_rfl) (r := (.st [(i6 0), (i6 0), (i6 0), .nils, (i6 0)])) (by rfl) (L rfl)) rfl (c (mv hN (q 17)) rfl (cg (OpJ.storeB tyS45 (SetAt.here _ _) (by rfl) (by rfl) (by simp) rfl (q 8) (q 99)) rfl (c (OpJ.assign (L rfl) (q 100)) rfl cn)))) ?_
                  refine gh [(8, _), (9, _)] [(1008, some _)] hB rfl rfl (by rfl) ?_
                  refine AWp.ret ?_
                  refine seqQ_r ?_
                  refine blkQ_r ?_
                  refine seqQ_r ?_
                  obtain rfl := Option.some.inj h
                  exact ⟨(fun hc => by cases hc), rfl, (mp [] _ _ hB)⟩
                · replace h := ite_f hg110 h
                  refine AWp.skip ?_
                  refine seqQ_n ?_
                  obtain ⟨hc111, h⟩ := chk_some h
                  refine sr (c (ov (.ptr 1012 3 [3]) (fp hN Try.underlying45 3 tyS43 _ (q 12))) rfl (c (lb hN 45 _ (.sref 13123 3 0 s5.2.2.length) tyS43 (At.st1 (f := (.sref 13123 3 0 s5.2.2.length)) (by rfl) (by rfl) (At.here _) (by first | rfl | omega)) (q 101)) rfl (c (mv hN (q 14)) rfl (c (mv hN (q 16)) rfl (c (mv hN (q 18)) rfl (c (OpJ.coe (v := (.st [(i6 x79), (i6 r107.1), (i6 r109.1)])) (y := (.st [(.int .i64 x79), (.int .i64 r107.1), (.int .i64 r109.1)])) (Co.st (CoL.cons (Co.d _) (CoL.cons (Co.d _) (CoL.cons (Co.d _) CoL.nil)))) rfl (OpJ.build (places := [(0, 1), (1, 1), (2, 1)]) ⟨Try.underlying51, fun w => by kernel_rfl⟩ tyZS51 (Opds.cons (q 103) (Opds.cons (q 104) (Opds.cons (q 105) Opds.nil))) (by kernel_rfl) (r := (.st [(i6 x79), (i6 r107.1), (i6 r109.1)])) (by rfl) (L rfl))) rfl (c (OpJ.buildSlice Try.underlying43 tyS51 tyZD51 (by rfl) (by decide) (by decide) (Opds.cons (q 106) Opds.nil) (by kernel_rfl) (es := ([(.st [(.int .i64 x79), (.int .i64 r107.1), (.int .i64 r109.1)])] : List D)) (by rfl) (by rfl) (by kernel_rfl) (by simp) (L rfl)) rfl (cg (OpJ.append hB Try.underlying43 tyE51 (nm := 1108) (by decide) (es := s5.2.2.map e_api_Line) (ys := ([(api_Line.mk x79 r107.1 r109.1)] : List api_Line).map e_api_Line) (es' := (s5.2.2 ++ ([(api_Line.mk x79 r107.1 r109.1)] : List api_Line)).map e_api_Line) (len := (s5.2.2 ++ ([(api_Line.mk x79 r107.1 r109.1)] : List api_Line)).length) (by simp) (by simp) (map_sz (f := e_api_Line) (fun _ => rfl)) (by rw [List.length_map]; exact lim_mulN hc111 (by decide)) (by rw [List.length_map]; exact lim_leN hc111) (L rfl) (by simp) (q 102) (q 107)) rfl (c (ov (.ptr 1012 3 [3]) (fp hN Try.underlying45 3 tyS43 _ (q 12))) rfl (cg (OpJ.storeB (c' := (.st [(i6 a0.fASN), (i6 a1), (i6 1), (.sref 1108 3 0 ((s5.2.2 ++ ([(api_Line.mk x79 r107.1 r109.1)] : List api_Line)).length)), (i6 s5.2.1)])) tyS43 (SetAt.st1 (f := (.sref 13123 3 0 s5.2.2.length)) (by rfl) (by rfl) (SetAt.here _ _) (by rfl) (by rfl) (by first | rfl | omega)) (by rfl) (by rfl) (by simp) rfl (q 109) (q 108)) rfl cn)))))))))) ?_
                  refine gh [(3, _), (6, _), (8, _), (12, _), (18, _), (53, _), (54, _), (55, _)] [(1006, some _), (1008, some _), (1012, some _), (1108, some _)] hB rfl rfl (by rfl) ?_
                  refine rg (c (ov (.ptr 1012 4 [4]) (fp hN Try.underlying45 4 tyS3 _ (q 12))) rfl (c (lb hN 45 _ (i6 s5.2.1) tyS3 (At.st1 (f := (i6 s5.2.1)) (by rfl) (by rfl) (At.here _) (by first | rfl | omega)) (q 110)) rfl (c (mv hN (q 18)) rfl (c (add6 (L rfl) (q 111) (q 112)) rfl (c (ov (.ptr 1012 4 [4]) (fp hN Try.underlying45 4 tyS3 _ (q 12))) rfl (cg (OpJ.storeB (c' := (.st [(i6 a0.fASN), (i6 a1), (i6 1), (.sref 1108 3 0 ((s5.2.2 ++ ([(api_Line.mk x79 r107.1 r109.1)] : List api_Line)).length)), (i6 (w64 (s5.2.1 + r109.1)))])) tyS3 (SetAt.st1 (f := (i6 s5.2.1)) (by rfl) (by rfl) (SetAt.here _ _) (by rfl) (by rfl) (by first | rfl | omega)) (by rfl) (by rfl) (by simp) rfl (q 114) (q 113)) rfl cn)))))) ?_
                  refine blkQ_n ?_
                  refine seqQ_n ?_
                  refine gh [(3, _), (6, _), (8, _), (12, _), (53, _), (54, _), (55, _)] [(1006, some _), (1008, some _), (1012, some _), (1108, some _)] hB rfl rfl (by rfl) ?_
                  refine rg (c (add6 (L rfl) (q 55) (Opd.int .i64 (1))) rfl (c (mv hN (q 115)) rfl cn)) ?_
                  obtain rfl := Option.some.inj h
                  exact ⟨rfl, (Mat.trans (mp [] [(3, (qe_api_Series_4 a3)), (6, (.ptr 1006 0 [])), (8, (.ptr 1008 0 [])), (12, (.ptr 1012 0 [])), (53, (qI_1 r1.1)), (54, (i6 (r1.1.length : Int))), (55, (i6 (w64 (s5.1 + (1 : Int)))))] [(1006, some (.box 27 (.d (e_api_Tariff a2)))), (1008, some (.box 45 (.st [(i6 0), (i6 0), (i6 0), .nils, (i6 0)]))), (1012, some (.box 45 (.st [(i6 a0.fASN), (i6 a1), (i6 1), (.sref 1108 3 0 ((s5.2.2 ++ ([(api_Line.mk x79 r107.1 r109.1)] : List api_Line)).length)), (i6 (w64 (s5.2.1 + r109.1)))]))), (1108, some (we_api_Line_51_3 (s5.2.2 ++ ([(api_Line.mk x79 r107.1 r109.1)] : List api_Line))))] hB) (mp [(13123, 1108)] _ _ hB))⟩
        · replace h := ite_f hg78 h
          refine AWp.exit ?_
          refine seqQ_e ?_
          obtain rfl := Option.some.inj h
          exact ⟨(fun hc => by cases hc), rfl, (mp [] _ _ hB)⟩
      · rcases x112 with p76 | p77
        · obtain ⟨rfl, hmat⟩ := hR
          refine blkQ_r ?_
          refine seqQ_r ?_
          obtain rfl := Option.some.inj h
          exact ⟨.inl rfl, _, _, (Mat.trans hmat (Mat.trans (Mat.coeP (Ts := []) (Bs := [(1008, some (.box 45 (.d (.st [(.int .i64 0), (.int .i64 0), (.int .i64 0), (.list 3 (([] : List api_Line).map e_api_Line)), (.int .i64 0)]))))]) TwT.nil (TwB.cons (x := (.st [(i6 0), (i6 0), (i6 0), .nils, (i6 0)])) (by rfl) (Tw.leaf ⟨_, (Co.st (CoL.cons (Co.d _) (CoL.cons (Co.d _) (CoL.cons (Co.d _) (CoL.cons (Co.nils 3) (CoL.cons (Co.d _) CoL.nil)))))), rfl⟩) TwB.nil)) (mp [] [(8, (.ptr 1008 0 [])), (9, (i6 p76))] [(1008, some (.box 45 (.d (.st [(.int .i64 0), (.int .i64 0), (.int .i64 0), (.list 3 (([] : List api_Line).map e_api_Line)), (.int .i64 0)]))))] hB))), [(.d (.st [(.int .i64 0), (.int .i64 0), (.int .i64 0), (.list 3 (([] : List api_Line).map e_api_Line)), (.int .i64 0)])), (i6 p76)], (Res.cell (c := (.d (.st [(.int .i64 0), (.int .i64 0), (.int .i64 0), (.list 3 (([] : List api_Line).map e_api_Line)), (.int .i64 0)]))) (by rfl) (by rfl) tyS45 (by rfl) (by rfl) (by rfl) (Res.tmp (by rfl) (by rfl) Res.nil)), rfl, by rfl, by rfl, by rfl⟩
        · obtain ⟨rfl, hmat⟩ := hR
          refine blkQ_hit ?_
          refine seqQ_n ?_
          refine AWp.ghost hmat ?_
          refine sr (c (lb hN 45 _ _ tyS45 (At.here _) (q 12)) rfl (cg (OpJ.storeB tyS45 (SetAt.here _ _) (by rfl) (by rfl) (by simp) rfl (q 8) (q 116)) rfl (c (OpJ.assign (L rfl) (Opd.int .i64 (0))) rfl cn))) ?_
          refine gh [(8, _), (9, _)] [(1008, some _), (13123, some _)] hB rfl rfl (by rfl) ?_
          refine AWp.ret ?_
          obtain rfl := Option.some.inj h
          exact ⟨.inl rfl, _, _, (Mat.trans (Mat.freezeP (n := 13123) (e := 51) (sz := 3) (es := p77.2.map e_api_Line) (Ts := []) (Bs := [(1008, some (.box 45 (.st [(i6 a0.fASN), (i6 a1), (i6 1), (qe_api_Line_3 p77.2), (i6 p77.1)])))]) (by rfl) TwT.nil (TwB.cons (x := (.st [(i6 a0.fASN), (i6 a1), (i6 1), (.sref 13123 3 0 p77.2.length), (i6 p77.1)])) (by rfl) (Tw.st (TwL.cons (Tw.same _) (TwL.cons (Tw.same _) (TwL.cons (Tw.same _) (TwL.cons (FrzL.all (by first | rfl | (simp; done) | (simp; omega))) (TwL.cons (Tw.same _) TwL.nil)))))) TwB.nil)) (Mat.trans (Mat.coeP (Ts := []) (Bs := [(1008, some (.box 45 (.d (.st [(.int .i64 a0.fASN), (.int .i64 a1), (.int .i64 1), (.list 3 (p77.2.map e_api_Line)), (.int .i64 p77.1)]))))]) TwT.nil (TwB.cons (x := (.st [(i6 a0.fASN), (i6 a1), (i6 1), (qe_api_Line_3 p77.2), (i6 p77.1)])) (by rfl) (Tw.leaf ⟨_, (Co.st (CoL.cons (Co.d _) (CoL.cons (Co.d _) (CoL.cons (Co.d _) (CoL.cons (Co.d _) (CoL.cons (Co.d _) CoL.nil)))))), rfl⟩) TwB.nil)) (mp [] [(8, (.ptr 1008 0 [])), (9, (i6 0))] [(1008, some (.box 45 (.d (.st [(.int .i64 a0.fASN), (.int .i64 a1), (.int .i64 1), (.list 3 (p77.2.map e_api_Line)), (.int .i64 p77.1)]))))] hB))), [(.d (.st [(.int .i64 a0.fASN), (.int .i64 a1), (.int .i64 1), (.list 3 (p77.2.map e_api_Line)), (.int .i64 p77.1)])), (i6 0)], (Res.cell (c := (.d (.st [(.int .i64 a0.fASN), (.int .i64 a1), (.int .i64 1), (.list 3 (p77.2.map e_api_Line)), (.int .i64 p77.1)]))) (by rfl) (by rfl) tyS45 (by rfl) (by rfl) (by rfl) (Res.tmp (by rfl) (by rfl) Res.nil)), rfl, by rfl, by rfl, by rfl⟩

noncomputable def exchangepointref41_Same_L0 (a0 : api_Invoice) (a1 : api_Invoice) (s2 : Int) : Option (((Unit) ⊕ (Unit)) ⊕ (Int)) :=
  (if (decide (s2 < (a0.fLines.length : Int))) = true then
  (idx a0.fLines s2).bind fun x14 =>
  (idx a1.fLines s2).bind fun x15 =>
  (if (!((x14.fPort == x15.fPort) && ((x14.fUsed == x15.fUsed) && ((x14.fAmount == x15.fAmount) && true)))) = true then
  some (.inl (.inl ()))
  else
  some (.inr (w64 (s2 + (1 : Int)))))
  else
  some (.inl (.inr ())))
noncomputable def exchangepointref41_Same (a0 : api_Invoice) (a1 : api_Invoice) : Option (Bool) :=
  (if (((((a0.fMember != a1.fMember) || (a0.fMonth != a1.fMonth)) || (a0.fVersion != a1.fVersion)) || (a0.fTotal != a1.fTotal)) || ((a0.fLines.length : Int) != (a1.fLines.length : Int))) = true then
  some false
  else
  (loop (exchangepointref41_Same_L0 a0 a1) (0 : Int)).bind fun x17 => match x17 with
  | (.inl _) =>
    some false
  | (.inr _) =>
    some true)
set_option maxHeartbeats 4000000 in
set_option maxRecDepth 100000 in
theorem exchangepointref41_Same_ac (a0 : api_Invoice) (a1 : api_Invoice) (r : Bool) (h : exchangepointref41_Same a0 a1 = some r) : AC Try.prog 15 [(.d (e_api_Invoice a0)), (.d (e_api_Invoice a1))] [] (.d (.bool r)) [] := by
  refine AC.of_code2 Try.func15 rfl rfl (Nat.le_of_ble_eq_true (by rfl)) fun B hB hN => ?_
  have L {d : Nat} (h : Nat.blt d Try.f15.ntmps = true) : d < B.N := ltN hN h
  delta exchangepointref41_Same at h
  refine sr (cg (OpJ.box hB (nm := 1002) (by decide) (by simp) rfl (L rfl) (q 0)) rfl (cg (OpJ.box hB (nm := 1003) (by decide) (by simp) rfl (L rfl) (q 1)) rfl (c (OpJ.assign (L rfl) (Opd.bool false)) rfl cn))) ?_
  refine gh [(2, _), (3, _)] [(1002, some _), (1003, some _)] hB rfl rfl (by rfl) ?_
  refine AWp.seq ?_
  refine sr (c (ov (.ptr 1002 0 [0]) (fp hN Try.underlying45 0 tyS3 _ (q 2))) rfl (c (lb hN 45 _ _ tyS3 (ad _) (q 6)) rfl (c (ov (.ptr 1003 0 [0]) (fp hN Try.underlying45 0 tyS3 _ (q 3))) rfl (c (lb hN 45 _ _ tyS3 (ad _) (q 8)) rfl (c (OpJ.neqI (L rfl) (q 7) (q 9)) rfl (c (mv hN (q 10)) rfl (c (oq hN 11 (ov (.ptr 1002 1 [1]) (fp hN Try.underlying45 1 tyS3 _ (q 2))) (OptL.keep (by rfl) OptL.nil) (GuardV.plain _)) rfl (c (oq hN 11 (lb hN 45 _ _ tyS3 (ad _) (q 12)) (OptL.opt OptL.nil) (GuardV.plain _)) rfl (c (oq hN 11 (ov (.ptr 1003 1 [1]) (fp hN Try.underlying45 1 tyS3 _ (q 3))) (OptL.keep (by rfl) OptL.nil) (GuardV.plain _)) rfl (c (oq hN 11 (lb hN 45 _ _ tyS3 (ad _) (q 14)) (OptL.opt OptL.nil) (GuardV.plain _)) rfl (c (oq hN 11 (OpJ.neqI (L rfl) (q 13) (q 15)) (OptL.opt (OptL.opt OptL.nil)) (GuardV.plain _)) rfl (c (OpJ.pickOr rfl (L rfl) (q 11) (q 16)) rfl (c (mv hN (q 17)) rfl (c (oq hN 18 (ov (.ptr 1002 2 [2]) (fp hN Try.underlying45 2 tyS3 _ (q 2))) (OptL.keep (by rfl) OptL.nil) (GuardV.plain _)) rfl (c (oq hN 18 (lb hN 45 _ _ tyS3 (ad _) (q 19)) (OptL.opt OptL.nil) (GuardV.plain _)) rfl (c (oq hN 18 (ov (.ptr 1003 2 [2]) (fp hN Try.underlying45 2 tyS3 _ (q 3))) (OptL.keep (by rfl) OptL.nil) (GuardV.plain _)) rfl (c (oq hN 18 (lb hN 45 _ _ tyS3 (ad _) (q 21)) (OptL.opt OptL.nil) (GuardV.plain _)) rfl (c (oq hN 18 (OpJ.neqI (L rfl) (q 20) (q 22)) (OptL.opt (OptL.opt OptL.nil)) (GuardV.plain _)) rfl (c (OpJ.pickOr rfl (L rfl) (q 18) (q 23)) rfl (c (mv hN (q 24)) rfl (c (oq hN 25 (ov (.ptr 1002 4 [4]) (fp hN Try.underlying45 4 tyS3 _ (q 2))) (OptL.keep (by rfl) OptL.nil) (GuardV.plain _)) rfl (c (oq hN 25 (lb hN 45 _ _ tyS3 (ad _) (q 26)) (OptL.opt OptL.nil) (GuardV.plain _)) rfl (c (oq hN 25 (ov (.ptr 1003 4 [4]) (fp hN Try.underlying45 4 tyS3 _ (q 3))) (OptL.keep (by rfl) OptL.nil) (GuardV.plain _)) rfl (c (oq hN 25 (lb hN 45 _ _ tyS3 (ad _) (q 28)) (OptL.opt OptL.nil) (GuardV.plain _)) rfl (c (oq hN 25 (OpJ.neqI (L rfl) (q 27) (q 29)) (OptL.opt (OptL.opt OptL.nil)) (GuardV.plain _)) rfl (c (OpJ.pickOr rfl (L rfl) (q 25) (q 30)) rfl (c (mv hN (q 31)) rfl (c (oq hN 32 (ov (.ptr 1002 3 [3]) (fp hN Try.underlying45 3 tyS43 _ (q 2))) (OptL.keep (by rfl) OptL.nil) (GuardV.plain _)) rfl (c (oq hN 32 (lb hN 45 _ _ tyS43 (ad _) (q 33)) (OptL.opt OptL.nil) (GuardV.plain _)) rfl (c (oq hN 32 (OpJ.val (v' := (i6 (a0.fLines.length : Int))) (by simp) (OpJ.lenD Try.underlying43 (L rfl) (q 34))) (OptL.opt OptL.nil) (GuardV.plain _)) rfl (c (oq hN 32 (ov (.ptr 1003 3 [3]) (fp hN Try.underlying45 3 tyS43 _ (q 3))) (OptL.keep (by rfl) OptL.nil) (GuardV.plain _)) rfl (c (oq hN 32 (lb hN 45 _ _ tyS43 (ad _) (q 36)) (OptL.opt OptL.nil) (GuardV.plain _)) rfl (c (oq hN 32 (OpJ.val (v' := (i6 (a1.fLines.length : Int))) (by simp) (OpJ.lenD Try.underlying43 (L rfl) (q 37))) (OptL.opt OptL.nil) (GuardV.plain _)) rfl (c (oq hN 32 (OpJ.neqI (L rfl) (q 35) (q 38)) (OptL.opt (OptL.opt OptL.nil)) (GuardV.plain _)) rfl (c (OpJ.pickOr rfl (L rfl) (q 32) (q 39)) rfl cn))))))))))))))))))))))))))))))))))) ?_
  refine gh [(2, _), (3, _), (40, _)] [(1002, some _), (1003, some _)] hB rfl rfl (by rfl) ?_
  refine AWp.cond rfl (fun hg1 => ?_) (fun hg1 => ?_)
  · replace h := ite_t hg1 h
    refine sr (c (OpJ.assign (L rfl) (Opd.bool false)) rfl cn) ?_
    refine gh [(4, _)] [] hB rfl rfl (by rfl) ?_
    refine AWp.ret ?_
    refine seqQ_r ?_
    obtain rfl := Option.some.inj h
    exact ⟨.inl rfl, _, _, (kp [(4, _)] [] hB rfl rfl (by rfl)), [(bo false)], (Res.tmp (by rfl) (by rfl) Res.nil), rfl, by rfl, by rfl, by rfl⟩
  · replace h := ite_f hg1 h
    refine AWp.skip ?_
    refine seqQ_n ?_
    refine AWp.seq ?_
    refine sr (c (ov (.ptr 1002 3 [3]) (fp hN Try.underlying45 3 tyS43 _ (q 2))) rfl (c (lb hN 45 _ _ tyS43 (ad _) (q 41)) rfl (c (OpJ.val (v' := (i6 (a0.fLines.length : Int))) (by simp) (OpJ.lenD Try.underlying43 (L rfl) (q 42))) rfl (c (mv hN (Opd.int .i64 (0))) rfl cn)))) ?_
    refine gh [(2, _), (3, _), (43, _), (44, _)] [(1002, some _), (1003, some _)] hB rfl rfl (by rfl) ?_
    refine AWp.block ?_
    obtain ⟨x17, hx18, h⟩ := bindS h
    refine lg (exchangepointref41_Same_L0 a0 a1) (fun s2 : Int => ([(2, (.ptr 1002 0 [])), (3, (.ptr 1003 0 [])), (43, (i6 (a0.fLines.length : Int))), (44, (i6 s2))] : EL)) (fun s2 : Int => ([(1002, some (.box 45 (.d (e_api_Invoice a0)))), (1003, some (.box 45 (.d (e_api_Invoice a1))))] : OL)) (fun (x : (Unit) ⊕ (Unit)) e E' O' => match x with | (.inl _p) => e = .ret ∧ Mat B E' O' ([(4, (bo false))] : EL) ([] : OL) | (.inr _p) => e = .exit 0 ∧ Mat B E' O' ([] : EL) ([] : OL)) hx18 (mp [] _ _ hB) (fun s2 y h => ?_) (fun e E' O' hR => ?_)
    · unfold exchangepointref41_Same_L0 at h
      refine sr (c (OpJ.lss (L rfl) (q 44) (q 43)) rfl cn) ?_
      refine gh [(2, _), (3, _), (43, _), (44, _), (45, _)] [(1002, some _), (1003, some _)] hB rfl rfl (by rfl) ?_
      refine AWp.seq ?_
      refine AWp.cond rfl (fun hg13 => ?_) (fun hg13 => ?_)
      · replace h := ite_t hg13 h
        refine AWp.skip ?_
        refine seqQ_n ?_
        refine AWp.seq ?_
        refine AWp.block ?_
        refine sr (c (mv hN (q 44)) rfl (c (OpJ.assign (L rfl) (q 46)) rfl cn)) ?_
        refine gh [(2, _), (3, _), (5, _), (43, _), (44, _)] [(1002, some _), (1003, some _)] hB rfl rfl (by rfl) ?_
        obtain ⟨x14, hx14, h⟩ := bindS h
        obtain ⟨x15, hx15, h⟩ := bindS h
        refine sd (c (ov (.ptr 1002 3 [3]) (fp hN Try.underlying45 3 tyS43 _ (q 2))) rfl (c (lb hN 45 _ _ tyS43 (ad _) (q 47)) rfl (c (mv hN (q 5)) rfl (c (OpJ.indexD Try.underlying43 tyS51 (idx_some hx14).1 (get_map e_api_Line (idx_some hx14).2) (L rfl) (q 48) (q 49)) rfl (c (OpJ.loadD tyS51 (by rfl) (by rfl) (L rfl) (q 50)) rfl (c (ov (.ptr 1003 3 [3]) (fp hN Try.underlying45 3 tyS43 _ (q 3))) rfl (c (lb hN 45 _ _ tyS43 (ad _) (q 52)) rfl (c (mv hN (q 5)) rfl (c (OpJ.indexD Try.underlying43 tyS51 (idx_some hx15).1 (get_map e_api_Line (idx_some hx15).2) (L rfl) (q 53) (q 54)) rfl (c (OpJ.loadD tyS51 (by rfl) (by rfl) (L rfl) (q 55)) rfl (c (OpJ.neqD (h := 2) (FitE.st Try.underlying51 rfl held51 (FitF.cons (x := (.int .i64 x14.fPort)) (y := (.int .i64 x15.fPort)) (by decide) rfl tyS3 ⟨rfl, rfl⟩ ⟨rfl, rfl⟩ (FitE.int (h := 0) x14.fPort x15.fPort Try.underlying3) (FitF.cons (x := (.int .i64 x14.fUsed)) (y := (.int .i64 x15.fUsed)) (by decide) rfl tyS3 ⟨rfl, rfl⟩ ⟨rfl, rfl⟩ (FitE.int (h := 0) x14.fUsed x15.fUsed Try.underlying3) (FitF.cons (x := (.int .i64 x14.fAmount)) (y := (.int .i64 x15.fAmount)) (by decide) rfl tyS3 ⟨rfl, rfl⟩ ⟨rfl, rfl⟩ (FitE.int (h := 0) x14.fAmount x15.fAmount Try.underlying3) FitF.nil)))) eqg51 ⟨rfl, rfl⟩ (by rfl) (L rfl) (q 51) (q 56)) rfl cn))))))))))) (by kernel_rfl) (by kernel_rfl) ?_
        refine gh [(2, _), (3, _), (43, _), (44, _), (57, _)] [(1002, some _), (1003, some _)] hB rfl rfl (by rfl) ?_
        refine AWp.cond rfl (fun hg16 => ?_) (fun hg16 => ?_)
        · replace h := ite_t hg16 h
          refine sr (c (OpJ.assign (L rfl) (Opd.bool false)) rfl cn) ?_
          refine gh [(4, _)] [] hB rfl rfl (by rfl) ?_
          refine AWp.ret ?_
          refine blkQ_r ?_
          refine seqQ_r ?_
          obtain rfl := Option.some.inj h
          exact ⟨(fun hc => by cases hc), rfl, (mp [] _ _ hB)⟩
        · replace h := ite_f hg16 h
          refine AWp.skip ?_
          refine blkQ_n ?_
          refine seqQ_n ?_
          refine rg (c (add6 (L rfl) (q 44) (Opd.int .i64 (1))) rfl (c (mv hN (q 58)) rfl cn)) ?_
          obtain rfl := Option.some.inj h
          exact ⟨rfl, (Mat.trans (mp [] [(2, (.ptr 1002 0 [])), (3, (.ptr 1003 0 [])), (43, (i6 (a0.fLines.length : Int))), (44, (i6 (w64 (s2 + (1 : Int)))))] [(1002, some (.box 45 (.d (e_api_Invoice a0)))), (1003, some (.box 45 (.d (e_api_Invoice a1))))] hB) (mp [] _ _ hB))⟩
      · replace h := ite_f hg13 h
        refine AWp.exit ?_
        refine seqQ_e ?_
        obtain rfl := Option.some.inj h
        exact ⟨(fun hc => by cases hc), rfl, (mp [] _ _ hB)⟩
    · rcases x17 with _ | _
      · obtain ⟨rfl, hmat⟩ := hR
        refine blkQ_r ?_
        refine seqQ_r ?_
        obtain rfl := Option.some.inj h
        exact ⟨.inl rfl, _, _, (Mat.trans hmat (mp [] [(4, (bo false))] [] hB)), [(bo false)], (Res.tmp (by rfl) (by rfl) Res.nil), rfl, by rfl, by rfl, by rfl⟩
      · obtain ⟨rfl, hmat⟩ := hR
        refine blkQ_hit ?_
        refine seqQ_n ?_
        refine AWp.ghost hmat ?_
        refine sr (c (OpJ.assign (L rfl) (Opd.bool true)) rfl cn) ?_
        refine gh [(4, _)] [] hB rfl rfl (by rfl) ?_
        refine AWp.ret ?_
        obtain rfl := Option.some.inj h
        exact ⟨.inl rfl, _, _, (kp [(4, _)] [] hB rfl rfl (by rfl)), [(bo true)], (Res.tmp (by rfl) (by rfl) Res.nil), rfl, by rfl, by rfl, by rfl⟩

noncomputable def exchangepointref40_Copy (a0 : api_Series) : Option (api_Series) :=
  chk (decide (a0.fIn.length ≤ LIM)) <|
  chk (decide (a0.fOut.length ≤ LIM)) <|
  some (api_Series.mk a0.fPort a0.fSeconds a0.fIn a0.fOut)
set_option maxHeartbeats 4000000 in
set_option maxRecDepth 100000 in
theorem exchangepointref40_Copy_ac (a0 : api_Series) (r : api_Series) (h : exchangepointref40_Copy a0 = some r) : AC Try.prog 39 [(.d (e_api_Series a0))] [] (.d (e_api_Series r)) [] := by
  refine AC.of_code2 Try.func39 rfl rfl (Nat.le_of_ble_eq_true (by rfl)) fun B hB hN => ?_
  delta exchangepointref40_Copy at h
  refine sr (cg (OpJ.box hB (nm := 1001) (by decide) (by simp) rfl (ltN hN rfl) (q 0)) rfl (cg (OpJ.alloc hB tyZ31 (nm := 1002) (by decide) (ltN hN rfl)) rfl cn)) ?_
  refine gh [(1, _), (2, _)] [(1001, some _), (1002, some _)] hB rfl rfl (by rfl) ?_
  obtain ⟨hc1, h⟩ := chk_some h
  obtain ⟨hc2, h⟩ := chk_some h
  refine sd (c (ov (.ptr 1001 2 [2]) (fp hN Try.underlying31 2 tyS28 _ (q 1))) rfl (c (lb hN 31 _ _ tyS28 (ad _) (q 3)) rfl (cg (OpJ.appendN hB Try.underlying28 tyE3 (nm := 1005) (by decide) (ys := a0.fIn.map (eI .i64)) (len := a0.fIn.length) (by simp) (map_sz (f := (eI .i64)) (fun _ => rfl)) (by rw [List.length_map]; exact lim_mulN hc1 (by decide)) (by rw [List.length_map]; exact lim_leN hc1) (ltN hN rfl) Opd.nils (q 4)) rfl (c (ov (.ptr 1001 3 [3]) (fp hN Try.underlying31 3 tyS28 _ (q 1))) rfl (c (lb hN 31 _ _ tyS28 (ad _) (q 6)) rfl (cg (OpJ.appendN hB Try.underlying28 tyE3 (nm := 1008) (by decide) (ys := a0.fOut.map (eI .i64)) (len := a0.fOut.length) (by simp) (map_sz (f := (eI .i64)) (fun _ => rfl)) (by rw [List.length_map]; exact lim_mulN hc2 (by decide)) (by rw [List.length_map]; exact lim_leN hc2) (ltN hN rfl) Opd.nils (q 7)) rfl (c (ov (.ptr 1001 2 [2]) (fp hN Try.underlying31 2 tyS28 _ (q 1))) rfl (cg (OpJ.storeB (c' := (.st [(i6 a0.fPort), (i6 a0.fSeconds), (.sref 1005 1 0 a0.fIn.length), (qI_1 a0.fOut)])) tyS28 (SetAt.lift (fs := [(.int .i64 a0.fPort), (.int .i64 a0.fSeconds), (.list 1 (a0.fIn.map (eI .i64))), (.list 1 (a0.fOut.map (eI .i64)))]) (SetAt.st1 (by rfl) (by rfl) (SetAt.here _ _) (by rfl) (by rfl) (by first | rfl | omega))) (by rfl) (by rfl) (by simp) rfl (q 9) (q 5)) rfl (c (ov (.ptr 1001 3 [3]) (fp hN Try.underlying31 3 tyS28 _ (q 1))) rfl (cg (OpJ.storeB (c' := (.st [(i6 a0.fPort), (i6 a0.fSeconds), (.sref 1005 1 0 a0.fIn.length), (.sref 1008 1 0 a0.fOut.length)])) tyS28 (SetAt.st1 (f := (qI_1 a0.fOut)) (by rfl) (by rfl) (SetAt.here _ _) (by rfl) (by rfl) (by first | rfl | omega)) (by rfl) (by rfl) (by simp) rfl (q 10) (q 8)) rfl cn)))))))))) (by kernel_rfl) (by kernel_rfl) ?_
  refine gh [(1, _), (2, _)] [(1001, some _), (1002, some _), (1005, some _), (1008, some _)] hB rfl rfl (by rfl) ?_
  refine sr (c (lb hN 31 _ _ tyS31 (At.here _) (q 1)) rfl (cg (OpJ.storeB tyS31 (SetAt.here _ _) (by rfl) (by rfl) (by simp) rfl (q 2) (q 11)) rfl cn)) ?_
  refine gh [(2, _)] [(1002, some _), (1005, some _), (1008, some _)] hB rfl rfl (by rfl) ?_
  refine AWp.ret ?_
  obtain rfl := Option.some.inj h
  exact ⟨.inl rfl, _, _, (Mat.trans (Mat.freezeP (n := 1005) (e := 3) (sz := 1) (es := a0.fIn.map (eI .i64)) (Ts := []) (Bs := [(1002, some (.box 31 (.st [(i6 a0.fPort), (i6 a0.fSeconds), (qI_1 a0.fIn), (.sref 1008 1 0 a0.fOut.length)])))]) (by rfl) TwT.nil (TwB.cons (x := (.st [(i6 a0.fPort), (i6 a0.fSeconds), (.sref 1005 1 0 a0.fIn.length), (.sref 1008 1 0 a0.fOut.length)])) (by rfl) (Tw.st (TwL.cons (Tw.same _) (TwL.cons (Tw.same _) (TwL.cons (FrzL.all (by first | rfl | (simp; done) | (simp; omega))) (TwL.cons (Tw.same _) TwL.nil))))) TwB.nil)) (Mat.trans (Mat.freezeP (n := 1008) (e := 3) (sz := 1) (es := a0.fOut.map (eI .i64)) (Ts := []) (Bs := [(1002, some (.box 31 (.st [(i6 a0.fPort), (i6 a0.fSeconds), (qI_1 a0.fIn), (qI_1 a0.fOut)])))]) (by rfl) TwT.nil (TwB.cons (x := (.st [(i6 a0.fPort), (i6 a0.fSeconds), (qI_1 a0.fIn), (.sref 1008 1 0 a0.fOut.length)])) (by rfl) (Tw.st (TwL.cons (Tw.same _) (TwL.cons (Tw.same _) (TwL.cons (Tw.same _) (TwL.cons (FrzL.all (by first | rfl | (simp; done) | (simp; omega))) TwL.nil))))) TwB.nil)) (Mat.trans (Mat.coeP (Ts := []) (Bs := [(1002, some (.box 31 (.d (.st [(.int .i64 a0.fPort), (.int .i64 a0.fSeconds), (.list 1 (a0.fIn.map (eI .i64))), (.list 1 (a0.fOut.map (eI .i64)))]))))]) TwT.nil (TwB.cons (x := (.st [(i6 a0.fPort), (i6 a0.fSeconds), (qI_1 a0.fIn), (qI_1 a0.fOut)])) (by rfl) (Tw.leaf ⟨_, (Co.st (CoL.cons (Co.d _) (CoL.cons (Co.d _) (CoL.cons (Co.d _) (CoL.cons (Co.d _) CoL.nil))))), rfl⟩) TwB.nil)) (mp [] [(2, (.ptr 1002 0 []))] [(1002, some (.box 31 (.d (.st [(.int .i64 a0.fPort), (.int .i64 a0.fSeconds), (.list 1 (a0.fIn.map (eI .i64))), (.list 1 (a0.fOut.map (eI .i64)))]))))] hB)))), [(.d (.st [(.int .i64 a0.fPort), (.int .i64 a0.fSeconds), (.list 1 (a0.fIn.map (eI .i64))), (.list 1 (a0.fOut.map (eI .i64)))]))], (Res.cell (c := (.d (.st [(.int .i64 a0.fPort), (.int .i64 a0.fSeconds), (.list 1 (a0.fIn.map (eI .i64))), (.list 1 (a0.fOut.map (eI .i64)))]))) (by rfl) (by rfl) tyS31 (by rfl) (by rfl) (by rfl) Res.nil), rfl, by rfl, by rfl, by rfl⟩

noncomputable def exchangepointref40_Copy_2 (a0 : api_Series) : Option (api_Series) :=
  chk (decide (a0.fIn.length ≤ LIM)) <|
  chk (decide (a0.fOut.length ≤ LIM)) <|
  some (api_Series.mk a0.fPort a0.fSeconds a0.fIn a0.fOut)
set_option maxHeartbeats 4000000 in
set_option maxRecDepth 100000 in
theorem exchangepointref40_Copy_2_ac (a0 : api_Series) (r : api_Series) (h : exchangepointref40_Copy_2 a0 = some r) : AC Try.prog 39 [(.d (e_api_Series a0))] [] (.st [(.d (.int .i64 r.fPort)), (.d (.int .i64 r.fSeconds)), (.sref 900000 1 0 r.fIn.length), (.d (.list 1 (r.fOut.map (eI .i64))))]) [(900000, some (.row 3 1 (r.fIn.map (eI .i64))))] := by
  refine AC.of_code2 Try.func39 rfl rfl (Nat.le_of_ble_eq_true (by rfl)) fun B hB hN => ?_
  delta exchangepointref40_Copy_2 at h
  refine sr (cg (OpJ.box hB (nm := 1001) (by decide) (by simp) rfl (ltN hN rfl) (q 0)) rfl (cg (OpJ.alloc hB tyZ31 (nm := 1002) (by decide) (ltN hN rfl)) rfl cn)) ?_
  refine gh [(1, _), (2, _)] [(1001, some _), (1002, some _)] hB rfl rfl (by rfl) ?_
  obtain ⟨hc1, h⟩ := chk_some h
  obtain ⟨hc2, h⟩ := chk_some h
  refine sd (c (ov (.ptr 1001 2 [2]) (fp hN Try.underlying31 2 tyS28 _ (q 1))) rfl (c (lb hN 31 _ _ tyS28 (ad _) (q 3)) rfl (cg (OpJ.appendN hB Try.underlying28 tyE3 (nm := 1005) (by decide) (ys := a0.fIn.map (eI .i64)) (len := a0.fIn.length) (by simp) (map_sz (f := (eI .i64)) (fun _ => rfl)) (by rw [List.length_map]; exact lim_mulN hc1 (by decide)) (by rw [List.length_map]; exact lim_leN hc1) (ltN hN rfl) Opd.nils (q 4)) rfl (c (ov (.ptr 1001 3 [3]) (fp hN Try.underlying31 3 tyS28 _ (q 1))) rfl (c (lb hN 31 _ _ tyS28 (ad _) (q 6)) rfl (cg (OpJ.appendN hB Try.underlying28 tyE3 (nm := 1008) (by decide) (ys := a0.fOut.map (eI .i64)) (len := a0.fOut.length) (by simp) (map_sz (f := (eI .i64)) (fun _ => rfl)) (by rw [List.length_map]; exact lim_mulN hc2 (by decide)) (by rw [List.length_map]; exact lim_leN hc2) (ltN hN rfl) Opd.nils (q 7)) rfl (c (ov (.ptr 1001 2 [2]) (fp hN Try.underlying31 2 tyS28 _ (q 1))) rfl (cg (OpJ.storeB (c' := (.st [(i6 a0.fPort), (i6 a0.fSeconds), (.sref 1005 1 0 a0.fIn.length), (qI_1 a0.fOut)])) tyS28 (SetAt.lift (fs := [(.int .i64 a0.fPort), (.int .i64 a0.fSeconds), (.list 1 (a0.fIn.map (eI .i64))), (.list 1 (a0.fOut.map (eI .i64)))]) (SetAt.st1 (by rfl) (by rfl) (SetAt.here _ _) (by rfl) (by rfl) (by first | rfl | omega))) (by rfl) (by rfl) (by simp) rfl (q 9) (q 5)) rfl (c (ov (.ptr 1001 3 [3]) (fp hN Try.underlying31 3 tyS28 _ (q 1))) rfl (cg (OpJ.storeB (c' := (.st [(i6 a0.fPort), (i6 a0.fSeconds), (.sref 1005 1 0 a0.fIn.length), (.sref 1008 1 0 a0.fOut.length)])) tyS28 (SetAt.st1 (f := (qI_1 a0.fOut)) (by rfl) (by rfl) (SetAt.here _ _) (by rfl) (by rfl) (by first | rfl | omega)) (by rfl) (by rfl) (by simp) rfl (q 10) (q 8)) rfl cn)))))))))) (by kernel_rfl) (by kernel_rfl) ?_
  refine gh [(1, _), (2, _)] [(1001, some _), (1002, some _), (1005, some _), (1008, some _)] hB rfl rfl (by rfl) ?_
  refine sr (c (lb hN 31 _ _ tyS31 (At.here _) (q 1)) rfl (cg (OpJ.storeB tyS31 (SetAt.here _ _) (by rfl) (by rfl) (by simp) rfl (q 2) (q 11)) rfl cn)) ?_
  refine gh [(2, _)] [(1002, some _), (1005, some _), (1008, some _)] hB rfl rfl (by rfl) ?_
  refine AWp.ret ?_
  obtain rfl := Option.some.inj h
  exact ⟨.inl rfl, _, _, (Mat.trans (Mat.freezeP (n := 1008) (e := 3) (sz := 1) (es := a0.fOut.map (eI .i64)) (Ts := []) (Bs := [(1002, some (.box 31 (.st [(i6 a0.fPort), (i6 a0.fSeconds), (.sref 1005 1 0 a0.fIn.length), (qI_1 a0.fOut)])))]) (by rfl) TwT.nil (TwB.cons (x := (.st [(i6 a0.fPort), (i6 a0.fSeconds), (.sref 1005 1 0 a0.fIn.length), (.sref 1008 1 0 a0.fOut.length)])) (by rfl) (Tw.st (TwL.cons (Tw.same _) (TwL.cons (Tw.same _) (TwL.cons (Tw.same _) (TwL.cons (FrzL.all (by first | rfl | (simp; done) | (simp; omega))) TwL.nil))))) TwB.nil)) (mp [(900000, 1005)] [(2, (.ptr 1002 0 []))] [(1002, some (.box 31 (.st [(i6 a0.fPort), (i6 a0.fSeconds), (.sref 900000 1 0 a0.fIn.length), (qI_1 a0.fOut)]))), (900000, some (wI_3_1 a0.fIn))] hB)), [(.st [(i6 a0.fPort), (i6 a0.fSeconds), (.sref 900000 1 0 a0.fIn.length), (qI_1 a0.fOut)])], (Res.cell (c := (.st [(i6 a0.fPort), (i6 a0.fSeconds), (.sref 900000 1 0 a0.fIn.length), (qI_1 a0.fOut)])) (by rfl) (by rfl) tyS31 (by rfl) (by rfl) (by rfl) Res.nil), rfl, by rfl, by rfl, by rfl⟩

noncomputable def exchangepointref40_Copy_3 (a0 : api_Series) : Option (api_Series) :=
  chk (decide (a0.fIn.length ≤ LIM)) <|
  chk (decide (a0.fOut.length ≤ LIM)) <|
  some (api_Series.mk a0.fPort a0.fSeconds a0.fIn a0.fOut)
set_option maxHeartbeats 4000000 in
set_option maxRecDepth 100000 in
theorem exchangepointref40_Copy_3_ac (a0 : api_Series) (r : api_Series) (h : exchangepointref40_Copy_3 a0 = some r) : AC Try.prog 39 [(.d (e_api_Series a0))] [] (.st [(.d (.int .i64 r.fPort)), (.d (.int .i64 r.fSeconds)), (.sref 900000 1 0 r.fIn.length), (.sref 900001 1 0 r.fOut.length)]) [(900000, some (.row 3 1 (r.fIn.map (eI .i64)))), (900001, some (.row 3 1 (r.fOut.map (eI .i64))))] := by
  refine AC.of_code2 Try.func39 rfl rfl (Nat.le_of_ble_eq_true (by rfl)) fun B hB hN => ?_
  delta exchangepointref40_Copy_3 at h
  refine sr (cg (OpJ.box hB (nm := 1001) (by decide) (by simp) rfl (ltN hN rfl) (q 0)) rfl (cg (OpJ.alloc hB tyZ31 (nm := 1002) (by decide) (ltN hN rfl)) rfl cn)) ?_
  refine gh [(1, _), (2, _)] [(1001, some _), (1002, some _)] hB rfl rfl (by rfl) ?_
  obtain ⟨hc1, h⟩ := chk_some h
  obtain ⟨hc2, h⟩ := chk_some h
  refine sd (c (ov (.ptr 1001 2 [2]) (fp hN Try.underlying31 2 tyS28 _ (q 1))) rfl (c (lb hN 31 _ _ tyS28 (ad _) (q 3)) rfl (cg (OpJ.appendN hB Try.underlying28 tyE3 (nm := 1005) (by decide) (ys := a0.fIn.map (eI .i64)) (len := a0.fIn.length) (by simp) (map_sz (f := (eI .i64)) (fun _ => rfl)) (by rw [List.length_map]; exact lim_mulN hc1 (by decide)) (by rw [List.length_map]; exact lim_leN hc1) (ltN hN rfl) Opd.nils (q 4)) rfl (c (ov (.ptr 1001 3 [3]) (fp hN Try.underlying31 3 tyS28 _ (q 1))) rfl (c (lb hN 31 _ _ tyS28 (ad _) (q 6)) rfl (cg (OpJ.appendN hB Try.underlying28 tyE3 (nm := 1008) (by decide) (ys := a0.fOut.map (eI .i64)) (len := a0.fOut.length) (by simp) (map_sz (f := (eI .i64)) (fun _ => rfl)) (by rw [List.length_map]; exact lim_mulN hc2 (by decide)) (by rw [List.length_map]; exact lim_leN hc2) (ltN hN rfl) Opd.nils (q 7)) rfl (c (ov (.ptr 1001 2 [2]) (fp hN Try.underlying31 2 tyS28 _ (q 1))) rfl (cg (OpJ.storeB (c' := (.st [(i6 a0.fPort), (i6 a0.fSeconds), (.sref 1005 1 0 a0.fIn.length), (qI_1 a0.fOut)])) tyS28 (SetAt.lift (fs := [(.int .i64 a0.fPort), (.int .i64 a0.fSeconds), (.list 1 (a0.fIn.map (eI .i64))), (.list 1 (a0.fOut.map (eI .i64)))]) (SetAt.st1 (by rfl) (by rfl) (SetAt.here _ _) (by rfl) (by rfl) (by first | rfl | omega))) (by rfl) (by rfl) (by simp) rfl (q 9) (q 5)) rfl (c (ov (.ptr 1001 3 [3]) (fp hN Try.underlying31 3 tyS28 _ (q 1))) rfl (cg (OpJ.storeB (c' := (.st [(i6 a0.fPort), (i6 a0.fSeconds), (.sref 1005 1 0 a0.fIn.length), (.sref 1008 1 0 a0.fOut.length)])) tyS28 (SetAt.st1 (f := (qI_1 a0.fOut)) (by rfl) (by rfl) (SetAt.here _ _) (by rfl) (by rfl) (by first | rfl | omega)) (by rfl) (by rfl) (by simp) rfl (q 10) (q 8)) rfl cn)))))))))) (by kernel_rfl) (by kernel_rfl) ?_
  refine gh [(1, _), (2, _)] [(1001, some _), (1002, some _), (1005, some _), (1008, some _)] hB rfl rfl (by rfl) ?_
  refine sr (c (lb hN 31 _ _ tyS31 (At.here _) (q 1)) rfl (cg (OpJ.storeB tyS31 (SetAt.here _ _) (by rfl) (by rfl) (by simp) rfl (q 2) (q 11)) rfl cn)) ?_
  refine gh [(2, _)] [(1002, some _), (1005, some _), (1008, some _)] hB rfl rfl (by rfl) ?_
  refine AWp.ret ?_
  obtain rfl := Option.some.inj h
  exact ⟨.inl rfl, _, _, (mp [(900000, 1005), (900001, 1008)] [(2, (.ptr 1002 0 []))] [(1002, some (.box 31 (.st [(i6 a0.fPort), (i6 a0.fSeconds), (.sref 900000 1 0 a0.fIn.length), (.sref 900001 1 0 a0.fOut.length)]))), (900000, some (wI_3_1 a0.fIn)), (900001, some (wI_3_1 a0.fOut))] hB), [(.st [(i6 a0.fPort), (i6 a0.fSeconds), (.sref 900000 1 0 a0.fIn.length), (.sref 900001 1 0 a0.fOut.length)])], (Res.cell (c := (.st [(i6 a0.fPort), (i6 a0.fSeconds), (.sref 900000 1 0 a0.fIn.length), (.sref 900001 1 0 a0.fOut.length)])) (by rfl) (by rfl) tyS31 (by rfl) (by rfl) (by rfl) Res.nil), rfl, by rfl, by rfl, by rfl⟩

noncomputable def exchangepointref40_Put (a0 : api_Series) (a1 : Int) (a2 : Int) (a3 : Int) : Option (api_Series × Int) :=
  (exchangepointref40_Valid a0).bind fun r1 =>
  (if (!r1) = true then
  some ((api_Series.mk (0 : Int) (0 : Int) ([] : List Int) ([] : List Int)), (1 : Int))
  else
  (if ((decide (a1 < (0 : Int))) || (decide ((a0.fIn.length : Int) < a1))) = true then
  some ((api_Series.mk (0 : Int) (0 : Int) ([] : List Int) ([] : List Int)), (9 : Int))
  else
  (exchangepointref40_Copy_3 a0).bind fun r4 =>
  jn (fun m8 : (List Int) × (List Int) =>
  (idx m8.2 a1).bind fun x10 =>
  (idx m8.2 a1).bind fun x11 =>
  (idx m8.1 a1).bind fun x12 =>
  (idx m8.1 a1).bind fun x13 =>
  (exchangepointref40_Valid (api_Series.mk r4.fPort r4.fSeconds (((m8.2.set a1.toNat a2).drop 0).take m8.2.length) (((m8.1.set a1.toNat a3).drop 0).take m8.1.length))).bind fun r14 =>
  (if (!r14) = true then
  some ((api_Series.mk (0 : Int) (0 : Int) ([] : List Int) ([] : List Int)), (1 : Int))
  else
  some ((api_Series.mk r4.fPort r4.fSeconds (((m8.2.set a1.toNat a2).drop 0).take m8.2.length) (((m8.1.set a1.toNat a3).drop 0).take m8.1.length)), (0 : Int)))) (fun j9 =>
  (if (a1 == (a0.fIn.length : Int)) = true then
  chk (decide ((r4.fIn ++ ([(0 : Int)] : List Int)).length ≤ LIM)) <|
  chk (decide ((r4.fOut ++ ([(0 : Int)] : List Int)).length ≤ LIM)) <|
  j9 ((r4.fOut ++ ([(0 : Int)] : List Int)), (r4.fIn ++ ([(0 : Int)] : List Int)))
  else
  j9 (r4.fOut, r4.fIn)))))
set_option maxHeartbeats 4000000 in
set_option maxRecDepth 100000 in
theorem exchangepointref40_Put_ac (a0 : api_Series) (a1 : Int) (a2 : Int) (a3 : Int) (r : api_Series × Int) (h : exchangepointref40_Put a0 a1 a2 a3 = some r) : AC Try.prog 16 [(.d (e_api_Series a0)), (.d (.int .i64 a1)), (.d (.int .i64 a2)), (.d (.int .i64 a3))] [] (.tup [(.d (e_api_Series r.1)), (.d (.int .i64 r.2))]) [] := by
  refine AC.of_code2 Try.func16 rfl rfl (Nat.le_of_ble_eq_true (by rfl)) fun B hB hN => ?_
  have L {d : Nat} (h : Nat.blt d Try.f16.ntmps = true) : d < B.N := ltN hN h
  delta exchangepointref40_Put at h
  refine sr (cg (OpJ.box hB (nm := 1004) (by decide) (by simp) rfl (L rfl) (q 0)) rfl (cg (OpJ.alloc hB tyZ31 (nm := 1008) (by decide) (L rfl)) rfl (c (OpJ.assign (L rfl) (Opd.int .i64 (0))) rfl cn))) ?_
  refine gh [(1, _), (2, _), (3, _), (4, _), (8, _)] [(1004, some _), (1008, some _)] hB rfl rfl (by rfl) ?_
  refine AWp.seq ?_
  obtain ⟨r1, hr1, h⟩ := bindS h
  refine sr (c (lb hN 31 _ _ tyS31 (At.here _) (q 4)) rfl (cg (OpJ.callFn hB fnOk38 (exchangepointref40_Valid_ac a0 r1 hr1) [] (by kernel_rfl) (L rfl) (by kernel_rfl) (OpdL.cons (q 11) OpdL.nil)) rfl (c (OpJ.not (L rfl) (q 12)) rfl cn))) ?_
  refine gh [(1, _), (2, _), (3, _), (4, _), (8, _), (13, _)] [(1004, some _), (1008, some _)] hB rfl rfl (by rfl) ?_
  refine AWp.cond rfl (fun hg2 => ?_) (fun hg2 => ?_)
  · replace h := ite_t hg2 h
    refine sr (c (OpJ.build (places := [(0, 1), (1, 1), (2, 1), (3, 1)]) ⟨Try.underlying31, fun w => by kernel_rfl⟩ tyZS31 Opds.nil (by kernel_rfl) (r := (.st [(i6 0), (i6 0), .nils, .nils])) (by rfl) (L rfl)) rfl (cg (OpJ.storeB tyS31 (SetAt.here _ _) (by rfl) (by rfl) (by simp) rfl (q 8) (q 14)) rfl (c (OpJ.assign (L rfl) (Opd.int .i64 (1))) rfl cn))) ?_
    refine gh [(8, _), (9, _)] [(1008, some _)] hB rfl rfl (by rfl) ?_
    refine AWp.ret ?_
    refine seqQ_r ?_
    obtain rfl := Option.some.inj h
    exact ⟨.inl rfl, _, _, (Mat.trans (Mat.coeP (Ts := []) (Bs := [(1008, some (.box 31 (.d (.st [(.int .i64 0), (.int .i64 0), (.list 1 (([] : List Int).map (eI .i64))), (.list 1 (([] : List Int).map (eI .i64)))]))))]) TwT.nil (TwB.cons (x := (.st [(i6 0), (i6 0), .nils, .nils])) (by rfl) (Tw.leaf ⟨_, (Co.st (CoL.cons (Co.d _) (CoL.cons (Co.d _) (CoL.cons (Co.nils 1) (CoL.cons (Co.nils 1) CoL.nil))))), rfl⟩) TwB.nil)) (mp [] [(8, (.ptr 1008 0 [])), (9, (i6 1))] [(1008, some (.box 31 (.d (.st [(.int .i64 0), (.int .i64 0), (.list 1 (([] : List Int).map (eI .i64))), (.list 1 (([] : List Int).map (eI .i64)))]))))] hB)), [(.d (.st [(.int .i64 0), (.int .i64 0), (.list 1 (([] : List Int).map (eI .i64))), (.list 1 (([] : List Int).map (eI .i64)))])), (i6 1)], (Res.cell (c := (.d (.st [(.int .i64 0), (.int .i64 0), (.list 1 (([] : List Int).map (eI .i64))), (.list 1 (([] : List Int).map (eI .i64)))]))) (by rfl) (by rfl) tyS31 (by rfl) (by rfl) (by rfl) (Res.tmp (by rfl) (by rfl) Res.nil)), rfl, by rfl, by rfl, by rfl⟩
  · replace h := ite_f hg2 h
    refine AWp.skip ?_
    refine seqQ_n ?_
    refine AWp.seq ?_
    refine sr (c (mv hN (q 1)) rfl (c (OpJ.lss (L rfl) (q 15) (Opd.int .i64 (0))) rfl (c (mv hN (q 16)) rfl (c (oq hN 17 (mv hN (q 1)) (OptL.keep (by rfl) OptL.nil) (GuardV.plain _)) rfl (c (oq hN 17 (ov (.ptr 1004 2 [2]) (fp hN Try.underlying31 2 tyS28 _ (q 4))) (OptL.keep (by rfl) OptL.nil) (GuardV.plain _)) rfl (c (oq hN 17 (lb hN 31 _ _ tyS28 (ad _) (q 19)) (OptL.opt OptL.nil) (GuardV.plain _)) rfl (c (oq hN 17 (OpJ.val (v' := (i6 (a0.fIn.length : Int))) (by simp) (OpJ.lenD Try.underlying28 (L rfl) (q 20))) (OptL.opt OptL.nil) (GuardV.plain _)) rfl (c (oq hN 17 (OpJ.gtr (L rfl) (q 18) (q 21)) (OptL.opt (OptL.opt OptL.nil)) (GuardV.plain _)) rfl (c (OpJ.pickOr rfl (L rfl) (q 17) (q 22)) rfl cn))))))))) ?_
    refine gh [(1, _), (2, _), (3, _), (4, _), (8, _), (23, _)] [(1004, some _), (1008, some _)] hB rfl rfl (by rfl) ?_
    refine AWp.cond rfl (fun hg3 => ?_) (fun hg3 => ?_)
    · replace h := ite_t hg3 h
      refine sr (c (OpJ.build (places := [(0, 1), (1, 1), (2, 1), (3, 1)]) ⟨Try.underlying31, fun w => by kernel_rfl⟩ tyZS31 Opds.nil (by kernel_rfl) (r := (.st [(i6 0), (i6 0), .nils, .nils])) (by rfl) (L rfl)) rfl (cg (OpJ.storeB tyS31 (SetAt.here _ _) (by rfl) (by rfl) (by simp) rfl (q 8) (q 24)) rfl (c (OpJ.assign (L rfl) (Opd.int .i64 (9))) rfl cn))) ?_
      refine gh [(8, _), (9, _)] [(1008, some _)] hB rfl rfl (by rfl) ?_
      refine AWp.ret ?_
      refine seqQ_r ?_
      obtain rfl := Option.some.inj h
      exact ⟨.inl rfl, _, _, (Mat.trans (Mat.coeP (Ts := []) (Bs := [(1008, some (.box 31 (.d (.st [(.int .i64 0), (.int .i64 0), (.list 1 (([] : List Int).map (eI .i64))), (.list 1 (([] : List Int).map (eI .i64)))]))))]) TwT.nil (TwB.cons (x := (.st [(i6 0), (i6 0), .nils, .nils])) (by rfl) (Tw.leaf ⟨_, (Co.st (CoL.cons (Co.d _) (CoL.cons (Co.d _) (CoL.cons (Co.nils 1) (CoL.cons (Co.nils 1) CoL.nil))))), rfl⟩) TwB.nil)) (mp [] [(8, (.ptr 1008 0 [])), (9, (i6 (9 : Int)))] [(1008, some (.box 31 (.d (.st [(.int .i64 0), (.int .i64 0), (.list 1 (([] : List Int).map (eI .i64))), (.list 1 (([] : List Int).map (eI .i64)))]))))] hB)), [(.d (.st [(.int .i64 0), (.int .i64 0), (.list 1 (([] : List Int).map (eI .i64))), (.list 1 (([] : List Int).map (eI .i64)))])), (i6 (9 : Int))], (Res.cell (c := (.d (.st [(.int .i64 0), (.int .i64 0), (.list 1 (([] : List Int).map (eI .i64))), (.list 1 (([] : List Int).map (eI .i64)))]))) (by rfl) (by rfl) tyS31 (by rfl) (by rfl) (by rfl) (Res.tmp (by rfl) (by rfl) Res.nil)), rfl, by rfl, by rfl, by rfl⟩
    · replace h := ite_f hg3 h
      refine AWp.skip ?_
      refine seqQ_n ?_
      refine AWp.seq ?_
      obtain ⟨r4, hr4, h⟩ := bindS h
      refine AWp.region (oc (lb hN 31 (.d (e_api_Series a0)) (.d (e_api_Series a0)) tyS31 (At.here _) (ot 4 (.ptr 1004 0 [])))
        (oc (OpJ.callFn hB fnOk39 (exchangepointref40_Copy_3_ac a0 r4 hr4) [(900000, 100100), (900001, 100101)] (by kernel_rfl) (L rfl) (by kernel_rfl) (OpdL.cons (ot 25 (.d (e_api_Series a0))) OpdL.nil))
        (oc (OpJ.alloc hB tyZ31 (nm := 1010) (by decide) (L rfl))
        (oc (OpJ.storeB (bt := 31) (c := (.st [(i6 0), (i6 0), .nils, .nils])) (v := (.st [(i6 r4.fPort), (i6 r4.fSeconds), (.sref 100100 1 0 r4.fIn.length), (.sref 100101 1 0 r4.fOut.length)])) (c' := (.st [(i6 r4.fPort), (i6 r4.fSeconds), (.sref 100100 1 0 r4.fIn.length), (.sref 100101 1 0 r4.fOut.length)])) tyS31 (SetAt.here _ _) (by rfl) (by rfl) (by simp) rfl (ot 10 (.ptr 1010 0 [])) (ot 26 (.st [(i6 r4.fPort), (i6 r4.fSeconds), (.sref 100100 1 0 r4.fIn.length), (.sref 100101 1 0 r4.fOut.length)])))
        (OpJs.nil))))) (by rfl) (by rfl) ?_
      refine seqQ_n ?_
      refine AWp.ghost (mp [] [(1, (i6 a1)), (2, (i6 a2)), (3, (i6 a3)), (4, (.ptr 1004 0 [])), (8, (.ptr 1008 0 [])), (10, (.ptr 1010 0 []))] [(1004, some (.box 31 (.d (e_api_Series a0)))), (1008, some (.box 31 (.st [(i6 0), (i6 0), .nils, .nils]))), (1010, some (.box 31 (.st [(i6 r4.fPort), (i6 r4.fSeconds), (.sref 100100 1 0 r4.fIn.length), (.sref 100101 1 0 r4.fOut.length)]))), (100100, some (wI_3_1 r4.fIn)), (100101, some (wI_3_1 r4.fOut))] hB) ?_
      refine AWp.seq ?_
      refine sr (c (mv hN (q 1)) rfl (c (ov (.ptr 1004 2 [2]) (fp hN Try.underlying31 2 tyS28 _ (q 4))) rfl (c (lb hN 31 _ _ tyS28 (ad _) (q 28)) rfl (c (OpJ.val (v' := (i6 (a0.fIn.length : Int))) (by simp) (OpJ.lenD Try.underlying28 (L rfl) (q 29))) rfl (c (OpJ.eqlI (L rfl) (q 27) (q 30)) rfl cn))))) ?_
      refine gh [(1, _), (2, _), (3, _), (8, _), (10, _), (31, _)] [(1008, some _), (1010, some _), (100100, some _), (100101, some _)] hB rfl rfl (by rfl) ?_
      refine AWp.cut h (fun m8 : (List Int) × (List Int) => ([(1, (i6 a1)), (2, (i6 a2)), (3, (i6 a3)), (8, (.ptr 1008 0 [])), (10, (.ptr 1010 0 []))] : EL)) (fun m8 : (List Int) × (List Int) => ([(1008, some (.box 31 (.st [(i6 0), (i6 0), .nils, .nils]))), (1010, some (.box 31 (.st [(i6 r4.fPort), (i6 r4.fSeconds), (.sref 13102 1 0 m8.2.length), (.sref 13103 1 0 m8.1.length)]))), (13102, some (wI_3_1 m8.2)), (13103, some (wI_3_1 m8.1))] : OL)) (fun m8 h E' O' hmat => ?_) (fun j9 hjj9 h => ?_)
      · refine seqQ_n ?_
        refine AWp.ghost hmat ?_
        obtain ⟨x10, hx10, h⟩ := bindS h
        obtain ⟨x11, hx11, h⟩ := bindS h
        obtain ⟨x12, hx12, h⟩ := bindS h
        obtain ⟨x13, hx13, h⟩ := bindS h
        refine sd (c (ov (.ptr 1010 2 [2]) (fp hN Try.underlying31 2 tyS28 _ (q 10))) rfl (c (lb hN 31 _ (.sref 13102 1 0 m8.2.length) tyS28 (At.st1 (f := (.sref 13102 1 0 m8.2.length)) (by rfl) (by rfl) (At.here _) (by first | rfl | omega)) (q 42)) rfl (c (mv hN (q 1)) rfl (c (ov (.ptr 1010 3 [3]) (fp hN Try.underlying31 3 tyS28 _ (q 10))) rfl (c (lb hN 31 _ (.sref 13103 1 0 m8.1.length) tyS28 (At.st1 (f := (.sref 13103 1 0 m8.1.length)) (by rfl) (by rfl) (At.here _) (by first | rfl | omega)) (q 45)) rfl (c (mv hN (q 1)) rfl (c (mv hN (q 2)) rfl (c (mv hN (q 3)) rfl (c (OpJ.val (v' := (.ptr 13102 (a1.toNat * 1) [a1.toNat])) (by simp) (OpJ.indexS Try.underlying28 tyS3 (idx_some hx10).1 (by have := idx_lt hx10; first | (simpa using this) | ((try simp only [List.length_map] at this); (try simp only [List.length_map]); omega)) (L rfl) (q 43) (q 44))) rfl (cg (OpJ.storeR (e := 3) (sz := 1) (es' := (m8.2.set a1.toNat a2).map (eI .i64)) tyS3 (get_map (eI .i64) (idx_some hx11).2) (o := 0) (SetAt.here _ _) (by rfl) (map_set _ _ _ _) (by rfl) (by rfl) (q 50) (q 48)) rfl (c (OpJ.val (v' := (.ptr 13103 (a1.toNat * 1) [a1.toNat])) (by simp) (OpJ.indexS Try.underlying28 tyS3 (idx_some hx12).1 (by have := idx_lt hx12; first | (simpa using this) | ((try simp only [List.length_map] at this); (try simp only [List.length_map]); omega)) (L rfl) (q 46) (q 47))) rfl (cg (OpJ.storeR (e := 3) (sz := 1) (es' := (m8.1.set a1.toNat a3).map (eI .i64)) tyS3 (get_map (eI .i64) (idx_some hx13).2) (o := 0) (SetAt.here _ _) (by rfl) (map_set _ _ _ _) (by rfl) (by rfl) (q 51) (q 49)) rfl cn)))))))))))) (by kernel_rfl) (by kernel_rfl) ?_
        refine gh [(8, _), (10, _)] [(1008, some _), (1010, some _), (13102, some _), (13103, some _)] hB rfl rfl (by rfl) ?_
        refine AWp.seq ?_
        refine AWp.seq ?_
        refine AWp.ghost (Mat.freezeP (n := 13102) (e := 3) (sz := 1) (es := (m8.2.set a1.toNat a2).map (eI .i64)) (Ts := []) (Bs := [(1010, some (.box 31 (.st [(i6 r4.fPort), (i6 r4.fSeconds), (qI_1 (((m8.2.set a1.toNat a2).drop 0).take m8.2.length)), (.sref 13103 1 0 m8.1.length)])))]) (by rfl) TwT.nil (TwB.cons (x := (.st [(i6 r4.fPort), (i6 r4.fSeconds), (.sref 13102 1 0 m8.2.length), (.sref 13103 1 0 m8.1.length)])) (by rfl) (Tw.st (TwL.cons (Tw.same _) (TwL.cons (Tw.same _) (TwL.cons (FrzL.cut (fs := (((m8.2.set a1.toNat a2).drop 0).take m8.2.length).map (eI .i64)) (by simp only [List.length_map, List.length_append, List.length_take, List.length_drop, List.length_replicate, List.length_set]; omega) (by first | rw [List.map_drop, List.map_take] | simp [List.map_take, List.map_drop])) (TwL.cons (Tw.same _) TwL.nil))))) TwB.nil)) ?_
        refine AWp.ghost (Mat.freezeP (n := 13103) (e := 3) (sz := 1) (es := (m8.1.set a1.toNat a3).map (eI .i64)) (Ts := []) (Bs := [(1010, some (.box 31 (.st [(i6 r4.fPort), (i6 r4.fSeconds), (qI_1 (((m8.2.set a1.toNat a2).drop 0).take m8.2.length)), (qI_1 (((m8.1.set a1.toNat a3).drop 0).take m8.1.length))])))]) (by rfl) TwT.nil (TwB.cons (x := (.st [(i6 r4.fPort), (i6 r4.fSeconds), (qI_1 (((m8.2.set a1.toNat a2).drop 0).take m8.2.length)), (.sref 13103 1 0 m8.1.length)])) (by rfl) (Tw.st (TwL.cons (Tw.same _) (TwL.cons (Tw.same _) (TwL.cons (Tw.same _) (TwL.cons (FrzL.cut (fs := (((m8.1.set a1.toNat a3).drop 0).take m8.1.length).map (eI .i64)) (by simp only [List.length_map, List.length_append, List.length_take, List.length_drop, List.length_replicate, List.length_set]; omega) (by first | rw [List.map_drop, List.map_take] | simp [List.map_take, List.map_drop])) TwL.nil))))) TwB.nil)) ?_
        obtain ⟨r14, hr14, h⟩ := bindS h
        refine rg (c (lb hN 31 _ _ tyS31 (At.here _) (q 10)) rfl (cg (OpJ.callFn hB fnOk38 (exchangepointref40_Valid_ac (api_Series.mk r4.fPort r4.fSeconds (((m8.2.set a1.toNat a2).drop 0).take m8.2.length) (((m8.1.set a1.toNat a3).drop 0).take m8.1.length)) r14 hr14) [] (by kernel_rfl) (L rfl) (by kernel_rfl) (OpdL.cons (Opd.tw (q 52) (Tw.leaf ⟨_, (Co.st (CoL.cons (Co.d _) (CoL.cons (Co.d _) (CoL.cons (Co.d _) (CoL.cons (Co.d _) CoL.nil))))), rfl⟩)) OpdL.nil)) rfl (c (OpJ.not (L rfl) (q 53)) rfl cn))) ?_
        refine seqQ_n ?_
        refine gh [(8, _), (10, _), (54, _)] [(1008, some _), (1010, some _)] hB rfl rfl (by rfl) ?_
        refine AWp.cond rfl (fun hg15 => ?_) (fun hg15 => ?_)
        · replace h := ite_t hg15 h
          refine sr (c (OpJ.build (places := [(0, 1), (1, 1), (2, 1), (3, 1)]) ⟨Try.underlying31, fun w => by kernel_rfl⟩ tyZS31 Opds.nil (by kernel_rfl) (r := (.st [(i6 0), (i6 0), .nils, .nils])) (by rfl) (L rfl)) rfl (cg (OpJ.storeB tyS31 (SetAt.here _ _) (by rfl) (by rfl) (by simp) rfl (q 8) (q 55)) rfl (c (OpJ.assign (L rfl) (Opd.int .i64 (1))) rfl cn))) ?_
          refine gh [(8, _), (9, _)] [(1008, some _)] hB rfl rfl (by rfl) ?_
          refine AWp.ret ?_
          refine seqQ_r ?_
          obtain rfl := Option.some.inj h
          exact ⟨.inl rfl, _, _, (Mat.trans (Mat.coeP (Ts := []) (Bs := [(1008, some (.box 31 (.d (.st [(.int .i64 0), (.int .i64 0), (.list 1 (([] : List Int).map (eI .i64))), (.list 1 (([] : List Int).map (eI .i64)))]))))]) TwT.nil (TwB.cons (x := (.st [(i6 0), (i6 0), .nils, .nils])) (by rfl) (Tw.leaf ⟨_, (Co.st (CoL.cons (Co.d _) (CoL.cons (Co.d _) (CoL.cons (Co.nils 1) (CoL.cons (Co.nils 1) CoL.nil))))), rfl⟩) TwB.nil)) (mp [] [(8, (.ptr 1008 0 [])), (9, (i6 1))] [(1008, some (.box 31 (.d (.st [(.int .i64 0), (.int .i64 0), (.list 1 (([] : List Int).map (eI .i64))), (.list 1 (([] : List Int).map (eI .i64)))]))))] hB)), [(.d (.st [(.int .i64 0), (.int .i64 0), (.list 1 (([] : List Int).map (eI .i64))), (.list 1 (([] : List Int).map (eI .i64)))])), (i6 1)], (Res.cell (c := (.d (.st [(.int .i64 0), (.int .i64 0), (.list 1 (([] : List Int).map (eI .i64))), (.list 1 (([] : List Int).map (eI .i64)))]))) (by rfl) (by rfl) tyS31 (by rfl) (by rfl) (by rfl) (Res.tmp (by rfl) (by rfl) Res.nil)), rfl, by rfl, by rfl, by rfl⟩
        · replace h := ite_f hg15 h
          refine AWp.skip ?_
          refine seqQ_n ?_
          refine sr (c (lb hN 31 _ _ tyS31 (At.here _) (q 10)) rfl (cg (OpJ.storeB tyS31 (SetAt.here _ _) (by rfl) (by rfl) (by simp) rfl (q 8) (q 56)) rfl (c (OpJ.assign (L rfl) (Opd.int .i64 (0))) rfl cn))) ?_
          refine gh [(8, _), (9, _)] [(1008, some _)] hB rfl rfl (by rfl) ?_
          refine AWp.ret ?_
          obtain rfl := Option.some.inj h
          exact ⟨.inl rfl, _, _, (Mat.trans (Mat.coeP (Ts := []) (Bs := [(1008, some (.box 31 (.d (.st [(.int .i64 r4.fPort), (.int .i64 r4.fSeconds), (.list 1 ((((m8.2.set a1.toNat a2).drop 0).take m8.2.length).map (eI .i64))), (.list 1 ((((m8.1.set a1.toNat a3).drop 0).take m8.1.length).map (eI .i64)))]))))]) TwT.nil (TwB.cons (x := (.st [(i6 r4.fPort), (i6 r4.fSeconds), (qI_1 (((m8.2.set a1.toNat a2).drop 0).take m8.2.length)), (qI_1 (((m8.1.set a1.toNat a3).drop 0).take m8.1.length))])) (by rfl) (Tw.leaf ⟨_, (Co.st (CoL.cons (Co.d _) (CoL.cons (Co.d _) (CoL.cons (Co.d _) (CoL.cons (Co.d _) CoL.nil))))), rfl⟩) TwB.nil)) (mp [] [(8, (.ptr 1008 0 [])), (9, (i6 0))] [(1008, some (.box 31 (.d (.st [(.int .i64 r4.fPort), (.int .i64 r4.fSeconds), (.list 1 ((((m8.2.set a1.toNat a2).drop 0).take m8.2.length).map (eI .i64))), (.list 1 ((((m8.1.set a1.toNat a3).drop 0).take m8.1.length).map (eI .i64)))]))))] hB)), [(.d (.st [(.int .i64 r4.fPort), (.int .i64 r4.fSeconds), (.list 1 ((((m8.2.set a1.toNat a2).drop 0).take m8.2.length).map (eI .i64))), (.list 1 ((((m8.1.set a1.toNat a3).drop 0).take m8.1.length).map (eI .i64)))])), (i6 0)], (Res.cell (c := (.d (.st [(.int .i64 r4.fPort), (.int .i64 r4.fSeconds), (.list 1 ((((m8.2.set a1.toNat a2).drop 0).take m8.2.length).map (eI .i64))), (.list 1 ((((m8.1.set a1.toNat a3).drop 0).take m8.1.length).map (eI .i64)))]))) (by rfl) (by rfl) tyS31 (by rfl) (by rfl) (by rfl) (Res.tmp (by rfl) (by rfl) Res.nil)), rfl, by rfl, by rfl, by rfl⟩
      · refine AWp.cond rfl (fun hg16 => ?_) (fun hg16 => ?_)
        · replace h := ite_t hg16 h
          obtain ⟨hc17, h⟩ := chk_some h
          obtain ⟨hc18, h⟩ := chk_some h
          refine dr (c (ov (.ptr 1010 2 [2]) (fp hN Try.underlying31 2 tyS28 _ (q 10))) rfl (c (lb hN 31 _ (.sref 100100 1 0 r4.fIn.length) tyS28 (At.st1 (f := (.sref 100100 1 0 r4.fIn.length)) (by rfl) (by rfl) (At.here _) (by first | rfl | omega)) (q 32)) rfl (c (OpJ.buildSlice Try.underlying28 tyS3 tyZD3 (by rfl) (by decide) (by decide) (Opds.cons (Opd.int .i64 (0)) Opds.nil) (by kernel_rfl) (es := ([(.int .i64 0)] : List D)) (by rfl) (by rfl) (by kernel_rfl) (by simp) (L rfl)) rfl (cg (OpJ.append hB Try.underlying28 tyE3 (nm := 1035) (by decide) (es := r4.fIn.map (eI .i64)) (ys := ([(0 : Int)] : List Int).map (eI .i64)) (es' := (r4.fIn ++ ([(0 : Int)] : List Int)).map (eI .i64)) (len := (r4.fIn ++ ([(0 : Int)] : List Int)).length) (by simp) (by simp) (map_sz (f := (eI .i64)) (fun _ => rfl)) (by rw [List.length_map]; exact lim_mulN hc17 (by decide)) (by rw [List.length_map]; exact lim_leN hc17) (L rfl) (by simp) (q 33) (q 34)) rfl (c (ov (.ptr 1010 3 [3]) (fp hN Try.underlying31 3 tyS28 _ (q 10))) rfl (c (lb hN 31 _ (.sref 100101 1 0 r4.fOut.length) tyS28 (At.st1 (f := (.sref 100101 1 0 r4.fOut.length)) (by rfl) (by rfl) (At.here _) (by first | rfl | omega)) (q 36)) rfl (c (OpJ.buildSlice Try.underlying28 tyS3 tyZD3 (by rfl) (by decide) (by decide) (Opds.cons (Opd.int .i64 (0)) Opds.nil) (by kernel_rfl) (es := ([(.int .i64 0)] : List D)) (by rfl) (by rfl) (by kernel_rfl) (by simp) (L rfl)) rfl (cg (OpJ.append hB Try.underlying28 tyE3 (nm := 1039) (by decide) (es := r4.fOut.map (eI .i64)) (ys := ([(0 : Int)] : List Int).map (eI .i64)) (es' := (r4.fOut ++ ([(0 : Int)] : List Int)).map (eI .i64)) (len := (r4.fOut ++ ([(0 : Int)] : List Int)).length) (by simp) (by simp) (map_sz (f := (eI .i64)) (fun _ => rfl)) (by rw [List.length_map]; exact lim_mulN hc18 (by decide)) (by rw [List.length_map]; exact lim_leN hc18) (L rfl) (by simp) (q 37) (q 38)) rfl (c (ov (.ptr 1010 2 [2]) (fp hN Try.underlying31 2 tyS28 _ (q 10))) rfl (cg (OpJ.storeB (c' := (.st [(i6 r4.fPort), (i6 r4.fSeconds), (.sref 1035 1 0 ((r4.fIn ++ ([(0 : Int)] : List Int)).length)), (.sref 100101 1 0 r4.fOut.length)])) tyS28 (SetAt.st1 (f := (.sref 100100 1 0 r4.fIn.length)) (by rfl) (by rfl) (SetAt.here _ _) (by rfl) (by rfl) (by first | rfl | omega)) (by rfl) (by rfl) (by simp) rfl (q 40) (q 35)) rfl (c (ov (.ptr 1010 3 [3]) (fp hN Try.underlying31 3 tyS28 _ (q 10))) rfl (cg (OpJ.storeB (c' := (.st [(i6 r4.fPort), (i6 r4.fSeconds), (.sref 1035 1 0 ((r4.fIn ++ ([(0 : Int)] : List Int)).length)), (.sref 1039 1 0 ((r4.fOut ++ ([(0 : Int)] : List Int)).length))])) tyS28 (SetAt.st1 (f := (.sref 100101 1 0 r4.fOut.length)) (by rfl) (by rfl) (SetAt.here _ _) (by rfl) (by rfl) (by first | rfl | omega)) (by rfl) (by rfl) (by simp) rfl (q 41) (q 39)) rfl cn)))))))))))) (by kernel_rfl) (by kernel_rfl) ?_
          exact hjj9 _ h _ _ (Mat.trans (mp [] [(1, (i6 a1)), (2, (i6 a2)), (3, (i6 a3)), (8, (.ptr 1008 0 [])), (10, (.ptr 1010 0 []))] [(1008, some (.box 31 (.st [(i6 0), (i6 0), .nils, .nils]))), (1010, some (.box 31 (.st [(i6 r4.fPort), (i6 r4.fSeconds), (.sref 1035 1 0 ((r4.fIn ++ ([(0 : Int)] : List Int)).length)), (.sref 1039 1 0 ((r4.fOut ++ ([(0 : Int)] : List Int)).length))]))), (1035, some (wI_3_1 (r4.fIn ++ ([(0 : Int)] : List Int)))), (1039, some (wI_3_1 (r4.fOut ++ ([(0 : Int)] : List Int))))] hB) (mp [(13102, 1035), (13103, 1039)] _ _ hB))
        · replace h := ite_f hg16 h
          refine AWp.skip ?_
          exact hjj9 _ h _ _ (mp [(13102, 100100), (13103, 100101)] _ _ hB)


end Go.Proofs.Ytimcphncaffenaa
