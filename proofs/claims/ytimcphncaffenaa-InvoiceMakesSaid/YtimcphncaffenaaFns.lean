/- Printed by gen.py: the Go functions as plain functions, and that the code does what they say. -/
import Derived.Test.YtimcphncaffenaaChecked
import Derived.Test.YtimcphncaffenaaVcYB
import Derived.Test.YtimcphncaffenaaVcZ
import Derived.KernelRfl
import Derived.Test.YtimcphncaffenaaFnsB
import Derived.Test.YtimcphncaffenaaExt
import Derived.Test.YtimcphncaffenaaVcV
import Derived.Test.YtimcphncaffenaaVcQ
namespace Go.Proofs.Ytimcphncaffenaa
open Go Go.Vc
noncomputable def exchangepointlaw41_InvoiceMakes_L0 (a1 : (List api_Series)) (s3 : Int) : Option (((Bool) ⊕ (Unit)) ⊕ (Int)) :=
  (if (decide (s3 < (a1.length : Int))) = true then
  (idx a1 s3).bind fun x15 =>
  (if ((decide ((100 : Int) < (x15.fIn.length : Int))) || (decide ((100 : Int) < (x15.fOut.length : Int)))) = true then
  (exchangepointlaw41_awake).bind fun r17 =>
  some (.inl (.inl r17))
  else
  some (.inr (w64 (s3 + (1 : Int)))))
  else
  some (.inl (.inr ())))
noncomputable def exchangepointlaw41_InvoiceMakes_L2 (a4 : Int) (x907 : api_Tariff) (r908 : Int) (r909 : Int) (s910 : Int) : Option (((Unit) ⊕ (Unit)) ⊕ (Int)) :=
  (if (decide (s910 < (([a4, r908, r909] : List Int).length : Int))) = true then
  (idx ([a4, r908, r909] : List Int) s910).bind fun x924 =>
  (invoice_Price x907 x924).bind fun r925 =>
  (exchangepointref41_Price x907 x924).bind fun r926 =>
  (if ((r925.1 != r926.1) || (r925.2 != r926.2)) = true then
  some (.inl (.inl ()))
  else
  some (.inr (w64 (s910 + (1 : Int)))))
  else
  some (.inl (.inr ())))
noncomputable def exchangepointlaw41_InvoiceMakes_L5 (a5 : Int) (x907 : api_Tariff) (x1208 : api_Member) (x1298 : (List api_Series)) (r1299 : Int) (s1300 : Int) : Option (((Unit) ⊕ (Unit)) ⊕ (Int)) :=
  (if (decide (s1300 < (([a5, (w64 ((1 : Int) + r1299))] : List Int).length : Int))) = true then
  (idx ([a5, (w64 ((1 : Int) + r1299))] : List Int) s1300).bind fun x1326 =>
  (invoice_Make x1208 x1326 x907 x1298).bind fun r1327 =>
  (exchangepointref41_Make x1208 x1326 x907 x1298).bind fun r1328 =>
  jn (fun m1331 : Bool =>
  (if m1331 = true then
  some (.inl (.inl ()))
  else
  some (.inr (w64 (s1300 + (1 : Int)))))) (fun j1332 =>
  (if (r1327.2 != r1328.2) = true then
  j1332 true
  else
  (exchangepointref41_Same r1327.1 r1328.1).bind fun r1335 =>
  j1332 (!r1335)))
  else
  some (.inl (.inr ())))
noncomputable def exchangepointlaw41_InvoiceMakes_L4 (a1 : (List api_Series)) (a5 : Int) (r21 : api_Member × api_Tariff × (List api_Series) × exchangepointmill_Deck) (x907 : api_Tariff) (x1208 : api_Member) (s1210 : Int) : Option (((Unit) ⊕ (Unit)) ⊕ (Int)) :=
  (if (decide (s1210 < (([r21.2.2.1, a1, ((r21.2.2.1.take r21.2.2.1.length).drop 1)] : List (List api_Series)).length : Int))) = true then
  (idx ([r21.2.2.1, a1, ((r21.2.2.1.take r21.2.2.1.length).drop 1)] : List (List api_Series)) s1210).bind fun x1298 =>
  (exchangepointmill_Mod a5 (100 : Int)).bind fun r1299 =>
  (loop (exchangepointlaw41_InvoiceMakes_L5 a5 x907 x1208 x1298 r1299) (0 : Int)).bind fun x1336 => match x1336 with
  | (.inl _) =>
    some (.inl (.inl ()))
  | (.inr _) =>
    some (.inr (w64 (s1210 + (1 : Int))))
  else
  some (.inl (.inr ())))
noncomputable def exchangepointlaw41_InvoiceMakes_L3 (a0 : api_Member) (a1 : (List api_Series)) (a5 : Int) (r21 : api_Member × api_Tariff × (List api_Series) × exchangepointmill_Deck) (x907 : api_Tariff) (s934 : Int) : Option (((Unit) ⊕ (Unit)) ⊕ (Int)) :=
  (if (decide (s934 < (([r21.1, a0, (api_Member.mk (101 : Int) ([] : List UInt8) ([] : List UInt8) (0 : Int) (0 : Int) (r21.1.fPorts ++ r21.1.fPorts))] : List api_Member).length : Int))) = true then
  (idx ([r21.1, a0, (api_Member.mk (101 : Int) ([] : List UInt8) ([] : List UInt8) (0 : Int) (0 : Int) (r21.1.fPorts ++ r21.1.fPorts))] : List api_Member) s934).bind fun x1208 =>
  chk ((decide (0 ≤ (1 : Int)) && decide (1 ≤ r21.2.2.1.length) && decide (r21.2.2.1.length ≤ r21.2.2.1.length))) <|
  (loop (exchangepointlaw41_InvoiceMakes_L4 a1 a5 r21 x907 x1208) (0 : Int)).bind fun x1338 => match x1338 with
  | (.inl _) =>
    some (.inl (.inl ()))
  | (.inr _) =>
    some (.inr (w64 (s934 + (1 : Int))))
  else
  some (.inl (.inr ())))
noncomputable def exchangepointlaw41_InvoiceMakes_L1 (a0 : api_Member) (a1 : (List api_Series)) (a2 : api_Tariff) (a4 : Int) (a5 : Int) (r21 : api_Member × api_Tariff × (List api_Series) × exchangepointmill_Deck) (r22 : Int) (s23 : Int) : Option (((Unit) ⊕ (Unit)) ⊕ (Int)) :=
  (if (decide (s23 < (([r21.2.1, a2, (api_Tariff.mk r21.2.1.fBase r21.2.1.fIncluded r22), (api_Tariff.mk (1099511627776 : Int) (0 : Int) (1048576 : Int))] : List api_Tariff).length : Int))) = true then
  (idx ([r21.2.1, a2, (api_Tariff.mk r21.2.1.fBase r21.2.1.fIncluded r22), (api_Tariff.mk (1099511627776 : Int) (0 : Int) (1048576 : Int))] : List api_Tariff) s23).bind fun x907 =>
  (exchangepointmill_Mod a4 (3000 : Int)).bind fun r908 =>
  (exchangepointmill_Mod a4 (2199023255552 : Int)).bind fun r909 =>
  (loop (exchangepointlaw41_InvoiceMakes_L2 a4 x907 r908 r909) (0 : Int)).bind fun x928 => match x928 with
  | (.inl _) =>
    some (.inl (.inl ()))
  | (.inr _) =>
    chk (decide (r21.1.fPorts.length ≤ LIM)) <|
    chk (decide ((r21.1.fPorts ++ r21.1.fPorts).length ≤ LIM)) <|
    (loop (exchangepointlaw41_InvoiceMakes_L3 a0 a1 a5 r21 x907) (0 : Int)).bind fun x1340 => match x1340 with
    | (.inl _) =>
      some (.inl (.inl ()))
    | (.inr _) =>
      some (.inr (w64 (s23 + (1 : Int))))
  else
  some (.inl (.inr ())))
noncomputable def exchangepointlaw41_InvoiceMakes (a0 : api_Member) (a1 : (List api_Series)) (a2 : api_Tariff) (a3 : (List Int)) (a4 : Int) (a5 : Int) : Option (Bool) :=
  (if ((decide ((30 : Int) < (a0.fPorts.length : Int))) || (decide ((20 : Int) < (a1.length : Int)))) = true then
  (exchangepointlaw41_awake).bind fun r2 =>
  some r2
  else
  (loop (exchangepointlaw41_InvoiceMakes_L0 a1) (0 : Int)).bind fun x18 => match x18 with
  | (.inl p12) =>
    some p12
  | (.inr _) =>
    (exchangepointmill_New a3).bind fun r20 =>
    (exchangepointlaw41_bills r20).bind fun r21 =>
    (exchangepointmill_Mod a4 (2097152 : Int)).bind fun r22 =>
    (loop (exchangepointlaw41_InvoiceMakes_L1 a0 a1 a2 a4 a5 r21 r22) (0 : Int)).bind fun x1342 => match x1342 with
    | (.inl _) =>
      some false
    | (.inr _) =>
      (exchangepointlaw41_awake).bind fun r1344 =>
      some r1344)
set_option maxHeartbeats 4000000 in
set_option maxRecDepth 100000 in
theorem exchangepointlaw41_InvoiceMakes_ac (a0 : api_Member) (a1 : (List api_Series)) (a2 : api_Tariff) (a3 : (List Int)) (a4 : Int) (a5 : Int) (r : Bool) (h : exchangepointlaw41_InvoiceMakes a0 a1 a2 a3 a4 a5 = some r) : AC Try.prog 3 [(.d (e_api_Member a0)), (.d (.list 4 (a1.map e_api_Series))), (.d (e_api_Tariff a2)), (.d (.list 1 (a3.map (eI .i64)))), (.d (.int .i64 a4)), (.d (.int .i64 a5))] [] (.d (.bool r)) [] := by
  refine AC.of_code2 Try.func3 rfl rfl (Nat.le_of_ble_eq_true (by rfl)) fun B hB hN => ?_
  delta exchangepointlaw41_InvoiceMakes at h
  refine AWp.seq ?_
  refine rg (cg (OpJ.box hB (nm := 1006) (by decide) (by simp) rfl (ltN hN rfl) (q 0)) rfl (cg (OpJ.box hB (nm := 1008) (by decide) (by simp) rfl (ltN hN rfl) (q 2)) rfl (c (OpJ.assign (ltN hN rfl) (Opd.bool false)) rfl cn))) ?_
  refine seqQ_n ?_
  refine gh [(1, _), (3, _), (4, _), (5, _), (6, _), (8, _)] [(1006, some _), (1008, some _)] hB rfl rfl (by rfl) ?_
  refine AWp.seq ?_
  refine AWp.seq ?_
  refine rg (c (ov (.ptr 1006 5 [5]) (fp hN Try.underlying24 5 tyS22 _ (q 6))) rfl (c (lb hN 24 _ _ tyS22 (ad _) (q 37)) rfl (c (OpJ.val (v' := (i6 (a0.fPorts.length : Int))) (by simp) (OpJ.lenD Try.underlying22 (ltN hN rfl) (q 38))) rfl (c (OpJ.gtr (ltN hN rfl) (q 39) (Opd.int .i64 (30))) rfl (c (mv hN (q 40)) rfl (c (oq hN 41 (mv hN (q 1)) (OptL.keep (by rfl) OptL.nil) (GuardV.plain _)) rfl (c (oq hN 41 (OpJ.val (v' := (i6 (a1.length : Int))) (by simp) (OpJ.lenD Try.underlying25 (ltN hN rfl) (q 42))) (OptL.opt OptL.nil) (GuardV.plain _)) rfl (c (oq hN 41 (OpJ.gtr (ltN hN rfl) (q 43) (Opd.int .i64 (20))) (OptL.opt OptL.nil) (GuardV.plain _)) rfl (c (OpJ.pickOr rfl (ltN hN rfl) (q 41) (q 44)) rfl cn))))))))) ?_
  refine seqQ_n ?_
  refine gh [(1, _), (3, _), (4, _), (5, _), (6, _), (8, _), (45, _)] [(1006, some _), (1008, some _)] hB rfl rfl (by rfl) ?_
  refine AWp.cond rfl (fun hg1 => ?_) (fun hg1 => ?_)
  · replace h := ite_t hg1 h
    refine AWp.seq ?_
    obtain ⟨r2, hr2, h⟩ := bindS h
    refine rg (cg (OpJ.callFn hB fnOk7 (exchangepointlaw41_awake_ac r2 hr2) [] (by kernel_rfl) (ltN hN rfl) (by kernel_rfl) OpdL.nil) rfl (c (OpJ.assign (ltN hN rfl) (q 46)) rfl cn)) ?_
    refine seqQ_n ?_
    refine gh [(12, _)] [] hB rfl rfl (by rfl) ?_
    refine AWp.ret ?_
    refine seqQ_r ?_
    obtain rfl := Option.some.inj h
    exact ⟨.inl rfl, _, _, (kp [(12, _)] [] hB rfl rfl (by rfl)), [(bo r2)], (Res.tmp (by rfl) (by rfl) Res.nil), rfl, by rfl, by rfl, by rfl⟩
  · replace h := ite_f hg1 h
    refine AWp.skip ?_
    refine seqQ_n ?_
    refine AWp.seq ?_
    refine AWp.seq ?_
    refine rg (c (mv hN (q 1)) rfl (c (OpJ.val (v' := (i6 (a1.length : Int))) (by simp) (OpJ.lenD Try.underlying25 (ltN hN rfl) (q 47))) rfl (c (mv hN (Opd.int .i64 (0))) rfl cn))) ?_
    refine seqQ_n ?_
    refine gh [(1, _), (3, _), (4, _), (5, _), (6, _), (8, _), (47, _), (48, _), (49, _)] [(1006, some _), (1008, some _)] hB rfl rfl (by rfl) ?_
    refine AWp.block ?_
    obtain ⟨x18, hx19, h⟩ := bindS h
    refine lg (exchangepointlaw41_InvoiceMakes_L0 a1) (fun s3 : Int => ([(1, (qe_api_Series_4 a1)), (3, (qI_1 a3)), (4, (i6 a4)), (5, (i6 a5)), (6, (.ptr 1006 0 [])), (8, (.ptr 1008 0 [])), (47, (qe_api_Series_4 a1)), (48, (i6 (a1.length : Int))), (49, (i6 s3))] : EL)) (fun s3 : Int => ([(1006, some (.box 24 (.d (e_api_Member a0)))), (1008, some (.box 27 (.d (e_api_Tariff a2))))] : OL)) (fun (x : (Bool) ⊕ (Unit)) e E' O' => match x with | (.inl p12) => e = .ret ∧ Mat B E' O' ([(12, (bo p12))] : EL) ([] : OL) | (.inr _p) => e = .exit 0 ∧ Mat B E' O' ([(1, (qe_api_Series_4 a1)), (3, (qI_1 a3)), (4, (i6 a4)), (5, (i6 a5)), (6, (.ptr 1006 0 [])), (8, (.ptr 1008 0 []))] : EL) ([(1006, some (.box 24 (.d (e_api_Member a0)))), (1008, some (.box 27 (.d (e_api_Tariff a2))))] : OL)) hx19 (mp [] _ _ hB) (fun s3 y h => ?_) (fun e E' O' hR => ?_)
    · unfold exchangepointlaw41_InvoiceMakes_L0 at h
      refine AWp.seq ?_
      refine rg (c (OpJ.lss (ltN hN rfl) (q 49) (q 48)) rfl cn) ?_
      refine seqQ_n ?_
      refine gh [(1, _), (3, _), (4, _), (5, _), (6, _), (8, _), (47, _), (48, _), (49, _), (50, _)] [(1006, some _), (1008, some _)] hB rfl rfl (by rfl) ?_
      refine AWp.seq ?_
      refine AWp.cond rfl (fun hg14 => ?_) (fun hg14 => ?_)
      · replace h := ite_t hg14 h
        refine AWp.skip ?_
        refine seqQ_n ?_
        refine AWp.seq ?_
        refine AWp.block ?_
        refine AWp.seq ?_
        obtain ⟨x15, hx15, h⟩ := bindS h
        refine rg (c (OpJ.indexD Try.underlying25 tyS31 (idx_some hx15).1 (get_map e_api_Series (idx_some hx15).2) (ltN hN rfl) (q 47) (q 49)) rfl (c (OpJ.loadD tyS31 (by rfl) (by rfl) (ltN hN rfl) (q 51)) rfl (cg (OpJ.alloc hB tyZ31 (nm := 1014) (by decide) (ltN hN rfl)) rfl (cg (OpJ.storeB tyS31 (SetAt.here _ _) (by rfl) (by rfl) (by simp) rfl (q 14) (q 52)) rfl cn)))) ?_
        refine seqQ_n ?_
        refine gh [(1, _), (3, _), (4, _), (5, _), (6, _), (8, _), (14, _), (47, _), (48, _), (49, _)] [(1006, some _), (1008, some _), (1014, some _)] hB rfl rfl (by rfl) ?_
        refine AWp.seq ?_
        refine rg (c (ov (.ptr 1014 2 [2]) (fp hN Try.underlying31 2 tyS28 _ (q 14))) rfl (c (lb hN 31 _ _ tyS28 (ad _) (q 53)) rfl (c (OpJ.val (v' := (i6 (x15.fIn.length : Int))) (by simp) (OpJ.lenD Try.underlying28 (ltN hN rfl) (q 54))) rfl (c (OpJ.gtr (ltN hN rfl) (q 55) (Opd.int .i64 (100))) rfl (c (mv hN (q 56)) rfl (c (oq hN 57 (ov (.ptr 1014 3 [3]) (fp hN Try.underlying31 3 tyS28 _ (q 14))) (OptL.keep (by rfl) OptL.nil) (GuardV.plain _)) rfl (c (oq hN 57 (lb hN 31 _ _ tyS28 (ad _) (q 58)) (OptL.opt OptL.nil) (GuardV.plain _)) rfl (c (oq hN 57 (OpJ.val (v' := (i6 (x15.fOut.length : Int))) (by simp) (OpJ.lenD Try.underlying28 (ltN hN rfl) (q 59))) (OptL.opt OptL.nil) (GuardV.plain _)) rfl (c (oq hN 57 (OpJ.gtr (ltN hN rfl) (q 60) (Opd.int .i64 (100))) (OptL.opt OptL.nil) (GuardV.plain _)) rfl (c (OpJ.pickOr rfl (ltN hN rfl) (q 57) (q 61)) rfl cn)))))))))) ?_
        refine seqQ_n ?_
        refine gh [(1, _), (3, _), (4, _), (5, _), (6, _), (8, _), (47, _), (48, _), (49, _), (62, _)] [(1006, some _), (1008, some _)] hB rfl rfl (by rfl) ?_
        refine AWp.cond rfl (fun hg16 => ?_) (fun hg16 => ?_)
        · replace h := ite_t hg16 h
          refine AWp.seq ?_
          obtain ⟨r17, hr17, h⟩ := bindS h
          refine rg (cg (OpJ.callFn hB fnOk7 (exchangepointlaw41_awake_ac r17 hr17) [] (by kernel_rfl) (ltN hN rfl) (by kernel_rfl) OpdL.nil) rfl (c (OpJ.assign (ltN hN rfl) (q 63)) rfl cn)) ?_
          refine seqQ_n ?_
          refine gh [(12, _)] [] hB rfl rfl (by rfl) ?_
          refine AWp.ret ?_
          refine blkQ_r ?_
          refine seqQ_r ?_
          obtain rfl := Option.some.inj h
          exact ⟨(fun hc => by cases hc), rfl, (mp [] _ _ hB)⟩
        · replace h := ite_f hg16 h
          refine AWp.skip ?_
          refine blkQ_n ?_
          refine seqQ_n ?_
          refine rg (c (add6 (ltN hN rfl) (q 49) (Opd.int .i64 (1))) rfl (c (mv hN (q 64)) rfl cn)) ?_
          obtain rfl := Option.some.inj h
          exact ⟨rfl, (Mat.trans (mp [] [(1, (qe_api_Series_4 a1)), (3, (qI_1 a3)), (4, (i6 a4)), (5, (i6 a5)), (6, (.ptr 1006 0 [])), (8, (.ptr 1008 0 [])), (47, (qe_api_Series_4 a1)), (48, (i6 (a1.length : Int))), (49, (i6 (w64 (s3 + (1 : Int)))))] [(1006, some (.box 24 (.d (e_api_Member a0)))), (1008, some (.box 27 (.d (e_api_Tariff a2))))] hB) (mp [] _ _ hB))⟩
      · replace h := ite_f hg14 h
        refine AWp.exit ?_
        refine seqQ_e ?_
        obtain rfl := Option.some.inj h
        exact ⟨(fun hc => by cases hc), rfl, (mp [] _ _ hB)⟩
    · rcases x18 with p12 | _
      · obtain ⟨rfl, hmat⟩ := hR
        refine blkQ_r ?_
        refine seqQ_r ?_
        obtain rfl := Option.some.inj h
        exact ⟨.inl rfl, _, _, (Mat.trans hmat (mp [] [(12, (bo p12))] [] hB)), [(bo p12)], (Res.tmp (by rfl) (by rfl) Res.nil), rfl, by rfl, by rfl, by rfl⟩
      · obtain ⟨rfl, hmat⟩ := hR
        refine blkQ_hit ?_
        refine seqQ_n ?_
        refine AWp.ghost hmat ?_
        refine AWp.seq ?_
        obtain ⟨r20, hr20, h⟩ := bindS h
        obtain ⟨r21, hr21, h⟩ := bindS h
        refine AWp.region (oc (mv hN (ot 3 (qI_1 a3)))
          (oc (OpJ.callFn hB fnOk9 (exchangepointmill_New_ac a3 r20 hr20) [(1005, 100200)] (by kernel_rfl) (ltN hN rfl) (by kernel_rfl) (OpdL.cons (ot 66 (qI_1 a3)) OpdL.nil))
          (oc (OpJ.callFn hB fnOk8 (exchangepointlaw41_bills_ac r20 r21 hr21) [(0, 100200)] (by kernel_rfl) (ltN hN rfl) (by kernel_rfl) (OpdL.cons (ot 67 (.ptr 100200 0 [])) OpdL.nil))
          (oc (mv hN (ot 68 (.tup [(.d (e_api_Member r21.1)), (.d (e_api_Tariff r21.2.1)), (qe_api_Series_4 r21.2.2.1)])))
          (oc (OpJ.extract (v := (.d (e_api_Member r21.1))) (by rfl) rfl (ltN hN rfl) (ot 65 (.tup [(.d (e_api_Member r21.1)), (.d (e_api_Tariff r21.2.1)), (qe_api_Series_4 r21.2.2.1)])))
          (oc (OpJ.extract (v := (.d (e_api_Tariff r21.2.1))) (by rfl) rfl (ltN hN rfl) (ot 65 (.tup [(.d (e_api_Member r21.1)), (.d (e_api_Tariff r21.2.1)), (qe_api_Series_4 r21.2.2.1)])))
          (oc (OpJ.extract (v := (qe_api_Series_4 r21.2.2.1)) (by rfl) rfl (ltN hN rfl) (ot 65 (.tup [(.d (e_api_Member r21.1)), (.d (e_api_Tariff r21.2.1)), (qe_api_Series_4 r21.2.2.1)])))
          (oc (OpJ.alloc hB tyZ24 (nm := 1015) (by decide) (ltN hN rfl))
          (oc (OpJ.alloc hB tyZ27 (nm := 1016) (by decide) (ltN hN rfl))
          (oc (OpJ.storeB (bt := 24) (c := (.st [(i6 0), (.d (.str ([] : List UInt8))), (.d (.str ([] : List UInt8))), (i6 0), (i6 0), .nils])) (v := (.d (e_api_Member r21.1))) (c' := (.d (e_api_Member r21.1))) tyS24 (SetAt.here _ _) (by rfl) (by rfl) (by simp) rfl (ot 15 (.ptr 1015 0 [])) (ot 69 (.d (e_api_Member r21.1))))
          (oc (OpJ.storeB (bt := 27) (c := (.d (.st [(.int .i64 0), (.int .i64 0), (.int .i64 0)]))) (v := (.d (e_api_Tariff r21.2.1))) (c' := (.d (e_api_Tariff r21.2.1))) tyS27 (SetAt.here _ _) (by rfl) (by rfl) (by simp) rfl (ot 16 (.ptr 1016 0 [])) (ot 70 (.d (e_api_Tariff r21.2.1))))
          (oc (OpJ.assign (ltN hN rfl) (ot 71 (qe_api_Series_4 r21.2.2.1)))
          (OpJs.nil))))))))))))) (by rfl) (by rfl) ?_
        refine seqQ_n ?_
        refine AWp.ghost (mp [] [(1, (qe_api_Series_4 a1)), (4, (i6 a4)), (5, (i6 a5)), (6, (.ptr 1006 0 [])), (8, (.ptr 1008 0 [])), (15, (.ptr 1015 0 [])), (16, (.ptr 1016 0 [])), (17, (qe_api_Series_4 r21.2.2.1))] [(1006, some (.box 24 (.d (e_api_Member a0)))), (1008, some (.box 27 (.d (e_api_Tariff a2)))), (1015, some (.box 24 (.d (e_api_Member r21.1)))), (1016, some (.box 27 (.d (e_api_Tariff r21.2.1))))] hB) ?_
        refine AWp.seq ?_
        refine rg (c (lb hN 27 _ _ tyS27 (At.here _) (q 16)) rfl (cg (OpJ.alloc hB tyZ27 (nm := 1018) (by decide) (ltN hN rfl)) rfl (cg (OpJ.storeB tyS27 (SetAt.here _ _) (by rfl) (by rfl) (by simp) rfl (q 18) (q 72)) rfl cn))) ?_
        refine seqQ_n ?_
        refine gh [(1, _), (4, _), (5, _), (6, _), (8, _), (15, _), (16, _), (17, _), (18, _)] [(1006, some _), (1008, some _), (1015, some _), (1016, some _), (1018, some _)] hB rfl rfl (by rfl) ?_
        refine AWp.seq ?_
        obtain ⟨r22, hr22, h⟩ := bindS h
        refine rg (c (mv hN (q 4)) rfl (cg (OpJ.callFn hB fnOk10 (exchangepointmill_Mod_ac a4 (2097152 : Int) r22 hr22) [] (by kernel_rfl) (ltN hN rfl) (by kernel_rfl) (OpdL.cons (q 73) (OpdL.cons (Opd.int .i64 (2097152)) OpdL.nil))) rfl (c (ov (.ptr 1018 2 [2]) (fp hN Try.underlying27 2 tyS3 _ (q 18))) rfl (cg (OpJ.storeB tyS3 (SetAt.dst1 (by rfl) (by rfl) (SetAt.here _ _) (by rfl) (by rfl) (by first | rfl | omega)) (by rfl) (by rfl) (by simp) rfl (q 75) (q 74)) rfl cn)))) ?_
        refine seqQ_n ?_
        refine gh [(1, _), (4, _), (5, _), (6, _), (8, _), (15, _), (16, _), (17, _), (18, _)] [(1006, some _), (1008, some _), (1015, some _), (1016, some _), (1018, some _)] hB rfl rfl (by rfl) ?_
        refine AWp.seq ?_
        refine AWp.seq ?_
        refine rg (c (lb hN 27 _ _ tyS27 (At.here _) (q 16)) rfl (c (lb hN 27 _ _ tyS27 (At.here _) (q 8)) rfl (c (lb hN 27 _ _ tyS27 (At.here _) (q 18)) rfl (c (OpJ.coe (v := (.st [(i6 (1099511627776 : Int)), (i6 0), (i6 (1048576 : Int))])) (y := (.st [(.int .i64 (1099511627776 : Int)), (.int .i64 0), (.int .i64 (1048576 : Int))])) (Co.st (CoL.cons (Co.d _) (CoL.cons (Co.d _) (CoL.cons (Co.d _) CoL.nil)))) rfl (OpJ.build (places := [(0, 1), (1, 1), (2, 1)]) ⟨Try.underlying27, fun w => by kernel_rfl⟩ tyZS27 (Opds.cons (Opd.int .i64 (1099511627776)) (Opds.cons (Opd.int .i64 (1048576)) Opds.nil)) (by kernel_rfl) (r := (.st [(i6 (1099511627776 : Int)), (i6 0), (i6 (1048576 : Int))])) (by rfl) (ltN hN rfl))) rfl (c (OpJ.buildSlice Try.underlying37 tyS27 tyZD27 (by rfl) (by decide) (by decide) (Opds.cons (q 76) (Opds.cons (q 77) (Opds.cons (q 78) (Opds.cons (q 79) Opds.nil)))) (by kernel_rfl) (es := ([(e_api_Tariff r21.2.1), (e_api_Tariff a2), (.st [(.int .i64 r21.2.1.fBase), (.int .i64 r21.2.1.fIncluded), (.int .i64 r22)]), (.st [(.int .i64 (1099511627776 : Int)), (.int .i64 0), (.int .i64 (1048576 : Int))])] : List D)) (by rfl) (by rfl) (by kernel_rfl) (by simp) (ltN hN rfl)) rfl (c (OpJ.val (v' := (i6 (([r21.2.1, a2, (api_Tariff.mk r21.2.1.fBase r21.2.1.fIncluded r22), (api_Tariff.mk (1099511627776 : Int) (0 : Int) (1048576 : Int))] : List api_Tariff).length : Int))) (by simp) (OpJ.lenD Try.underlying37 (ltN hN rfl) (q 80))) rfl (c (mv hN (Opd.int .i64 (0))) rfl cn))))))) ?_
        refine seqQ_n ?_
        refine gh [(1, _), (4, _), (5, _), (6, _), (15, _), (17, _), (80, _), (81, _), (82, _)] [(1006, some _), (1015, some _)] hB rfl rfl (by rfl) ?_
        refine AWp.block ?_
        obtain ⟨x1342, hx1343, h⟩ := bindS h
        refine lg (exchangepointlaw41_InvoiceMakes_L1 a0 a1 a2 a4 a5 r21 r22) (fun s23 : Int => ([(1, (qe_api_Series_4 a1)), (4, (i6 a4)), (5, (i6 a5)), (6, (.ptr 1006 0 [])), (15, (.ptr 1015 0 [])), (17, (qe_api_Series_4 r21.2.2.1)), (80, (qe_api_Tariff_3 ([r21.2.1, a2, (api_Tariff.mk r21.2.1.fBase r21.2.1.fIncluded r22), (api_Tariff.mk (1099511627776 : Int) (0 : Int) (1048576 : Int))] : List api_Tariff))), (81, (i6 (([r21.2.1, a2, (api_Tariff.mk r21.2.1.fBase r21.2.1.fIncluded r22), (api_Tariff.mk (1099511627776 : Int) (0 : Int) (1048576 : Int))] : List api_Tariff).length : Int))), (82, (i6 s23))] : EL)) (fun s23 : Int => ([(1006, some (.box 24 (.d (e_api_Member a0)))), (1015, some (.box 24 (.d (e_api_Member r21.1))))] : OL)) (fun (x : (Unit) ⊕ (Unit)) e E' O' => match x with | (.inl _p) => e = .ret ∧ Mat B E' O' ([(12, (bo false))] : EL) ([] : OL) | (.inr _p) => e = .exit 2 ∧ Mat B E' O' ([] : EL) ([] : OL)) hx1343 (mp [] _ _ hB) (fun s23 y h => ?_) (fun e E' O' hR => ?_)
        · unfold exchangepointlaw41_InvoiceMakes_L1 at h
          refine AWp.seq ?_
          refine rg (c (OpJ.lss (ltN hN rfl) (q 82) (q 81)) rfl cn) ?_
          refine seqQ_n ?_
          refine gh [(1, _), (4, _), (5, _), (6, _), (15, _), (17, _), (80, _), (81, _), (82, _), (83, _)] [(1006, some _), (1015, some _)] hB rfl rfl (by rfl) ?_
          refine AWp.seq ?_
          refine AWp.cond rfl (fun hg906 => ?_) (fun hg906 => ?_)
          · replace h := ite_t hg906 h
            refine AWp.skip ?_
            refine seqQ_n ?_
            refine AWp.seq ?_
            refine AWp.block ?_
            refine AWp.seq ?_
            obtain ⟨x907, hx907, h⟩ := bindS h
            refine rg (c (OpJ.indexD Try.underlying37 tyS27 (idx_some hx907).1 (get_map e_api_Tariff (idx_some hx907).2) (ltN hN rfl) (q 80) (q 82)) rfl (c (OpJ.loadD tyS27 (by rfl) (by rfl) (ltN hN rfl) (q 84)) rfl (cg (OpJ.alloc hB tyZ27 (nm := 1020) (by decide) (ltN hN rfl)) rfl (cg (OpJ.storeB tyS27 (SetAt.here _ _) (by rfl) (by rfl) (by simp) rfl (q 20) (q 85)) rfl cn)))) ?_
            refine seqQ_n ?_
            refine gh [(1, _), (4, _), (5, _), (6, _), (15, _), (17, _), (20, _), (80, _), (81, _), (82, _)] [(1006, some _), (1015, some _), (1020, some _)] hB rfl rfl (by rfl) ?_
            refine AWp.seq ?_
            refine AWp.seq ?_
            obtain ⟨r908, hr908, h⟩ := bindS h
            obtain ⟨r909, hr909, h⟩ := bindS h
            refine rg (c (mv hN (q 4)) rfl (c (mv hN (q 4)) rfl (cg (OpJ.callFn hB fnOk10 (exchangepointmill_Mod_ac a4 (3000 : Int) r908 hr908) [] (by kernel_rfl) (ltN hN rfl) (by kernel_rfl) (OpdL.cons (q 87) (OpdL.cons (Opd.int .i64 (3000)) OpdL.nil))) rfl (c (mv hN (q 4)) rfl (cg (OpJ.callFn hB fnOk10 (exchangepointmill_Mod_ac a4 (2199023255552 : Int) r909 hr909) [] (by kernel_rfl) (ltN hN rfl) (by kernel_rfl) (OpdL.cons (q 89) (OpdL.cons (Opd.int .i64 (2199023255552)) OpdL.nil))) rfl (c (OpJ.buildSlice Try.underlying28 tyS3 tyZD3 (by rfl) (by decide) (by decide) (Opds.cons (q 86) (Opds.cons (q 88) (Opds.cons (q 90) Opds.nil))) (by kernel_rfl) (es := ([(.int .i64 a4), (.int .i64 r908), (.int .i64 r909)] : List D)) (by rfl) (by rfl) (by kernel_rfl) (by simp) (ltN hN rfl)) rfl (c (OpJ.val (v' := (i6 (([a4, r908, r909] : List Int).length : Int))) (by simp) (OpJ.lenD Try.underlying28 (ltN hN rfl) (q 91))) rfl (c (mv hN (Opd.int .i64 (0))) rfl cn)))))))) ?_
            refine seqQ_n ?_
            refine gh [(1, _), (4, _), (5, _), (6, _), (15, _), (17, _), (20, _), (80, _), (81, _), (82, _), (91, _), (92, _), (93, _)] [(1006, some _), (1015, some _), (1020, some _)] hB rfl rfl (by rfl) ?_
            refine AWp.block ?_
            obtain ⟨x928, hx929, h⟩ := bindS h
            refine lg (exchangepointlaw41_InvoiceMakes_L2 a4 x907 r908 r909) (fun s910 : Int => ([(1, (qe_api_Series_4 a1)), (4, (i6 a4)), (5, (i6 a5)), (6, (.ptr 1006 0 [])), (15, (.ptr 1015 0 [])), (17, (qe_api_Series_4 r21.2.2.1)), (20, (.ptr 1020 0 [])), (80, (qe_api_Tariff_3 ([r21.2.1, a2, (api_Tariff.mk r21.2.1.fBase r21.2.1.fIncluded r22), (api_Tariff.mk (1099511627776 : Int) (0 : Int) (1048576 : Int))] : List api_Tariff))), (81, (i6 (([r21.2.1, a2, (api_Tariff.mk r21.2.1.fBase r21.2.1.fIncluded r22), (api_Tariff.mk (1099511627776 : Int) (0 : Int) (1048576 : Int))] : List api_Tariff).length : Int))), (82, (i6 s23)), (91, (qI_1 ([a4, r908, r909] : List Int))), (92, (i6 (([a4, r908, r909] : List Int).length : Int))), (93, (i6 s910))] : EL)) (fun s910 : Int => ([(1006, some (.box 24 (.d (e_api_Member a0)))), (1015, some (.box 24 (.d (e_api_Member r21.1)))), (1020, some (.box 27 (.d (e_api_Tariff x907))))] : OL)) (fun (x : (Unit) ⊕ (Unit)) e E' O' => match x with | (.inl _p) => e = .ret ∧ Mat B E' O' ([(12, (bo false))] : EL) ([] : OL) | (.inr _p) => e = .exit 4 ∧ Mat B E' O' ([(1, (qe_api_Series_4 a1)), (4, (i6 a4)), (5, (i6 a5)), (6, (.ptr 1006 0 [])), (15, (.ptr 1015 0 [])), (17, (qe_api_Series_4 r21.2.2.1)), (20, (.ptr 1020 0 [])), (80, (qe_api_Tariff_3 ([r21.2.1, a2, (api_Tariff.mk r21.2.1.fBase r21.2.1.fIncluded r22), (api_Tariff.mk (1099511627776 : Int) (0 : Int) (1048576 : Int))] : List api_Tariff))), (81, (i6 (([r21.2.1, a2, (api_Tariff.mk r21.2.1.fBase r21.2.1.fIncluded r22), (api_Tariff.mk (1099511627776 : Int) (0 : Int) (1048576 : Int))] : List api_Tariff).length : Int))), (82, (i6 s23))] : EL) ([(1006, some (.box 24 (.d (e_api_Member a0)))), (1015, some (.box 24 (.d (e_api_Member r21.1)))), (1020, some (.box 27 (.d (e_api_Tariff x907))))] : OL)) hx929 (mp [] _ _ hB) (fun s910 y h => ?_) (fun e E' O' hR => ?_)
            · unfold exchangepointlaw41_InvoiceMakes_L2 at h
              refine AWp.seq ?_
              refine rg (c (OpJ.lss (ltN hN rfl) (q 93) (q 92)) rfl cn) ?_
              refine seqQ_n ?_
              refine gh [(1, _), (4, _), (5, _), (6, _), (15, _), (17, _), (20, _), (80, _), (81, _), (82, _), (91, _), (92, _), (93, _), (94, _)] [(1006, some _), (1015, some _), (1020, some _)] hB rfl rfl (by rfl) ?_
              refine AWp.seq ?_
              refine AWp.cond rfl (fun hg923 => ?_) (fun hg923 => ?_)
              · replace h := ite_t hg923 h
                refine AWp.skip ?_
                refine seqQ_n ?_
                refine AWp.seq ?_
                refine AWp.block ?_
                refine AWp.seq ?_
                obtain ⟨x924, hx924, h⟩ := bindS h
                refine rg (c (OpJ.indexD Try.underlying28 tyS3 (idx_some hx924).1 (get_map (eI .i64) (idx_some hx924).2) (ltN hN rfl) (q 91) (q 93)) rfl (c (OpJ.loadD tyS3 (by rfl) (by rfl) (ltN hN rfl) (q 95)) rfl (c (OpJ.assign (ltN hN rfl) (q 96)) rfl cn))) ?_
                refine seqQ_n ?_
                refine gh [(1, _), (4, _), (5, _), (6, _), (15, _), (17, _), (20, _), (22, _), (80, _), (81, _), (82, _), (91, _), (92, _), (93, _)] [(1006, some _), (1015, some _), (1020, some _)] hB rfl rfl (by rfl) ?_
                refine AWp.seq ?_
                obtain ⟨r925, hr925, h⟩ := bindS h
                refine rg (c (lb hN 27 _ _ tyS27 (At.here _) (q 20)) rfl (c (mv hN (q 22)) rfl (cg (OpJ.callFn hB fnOk11 (invoice_Price_ac x907 x924 r925 hr925) [] (by kernel_rfl) (ltN hN rfl) (by kernel_rfl) (OpdL.cons (q 98) (OpdL.cons (q 99) OpdL.nil))) rfl (c (mv hN (q 100)) rfl (c (OpJ.extract (by rfl) rfl (ltN hN rfl) (q 97)) rfl (c (OpJ.extract (by rfl) rfl (ltN hN rfl) (q 97)) rfl (c (OpJ.assign (ltN hN rfl) (q 101)) rfl (c (OpJ.assign (ltN hN rfl) (q 102)) rfl cn)))))))) ?_
                refine seqQ_n ?_
                refine gh [(1, _), (4, _), (5, _), (6, _), (15, _), (17, _), (20, _), (22, _), (23, _), (24, _), (80, _), (81, _), (82, _), (91, _), (92, _), (93, _)] [(1006, some _), (1015, some _), (1020, some _)] hB rfl rfl (by rfl) ?_
                refine AWp.seq ?_
                obtain ⟨r926, hr926, h⟩ := bindS h
                refine rg (c (lb hN 27 _ _ tyS27 (At.here _) (q 20)) rfl (c (mv hN (q 22)) rfl (cg (OpJ.callFn hB fnOk12 (exchangepointref41_Price_ac x907 x924 r926 hr926) [] (by kernel_rfl) (ltN hN rfl) (by kernel_rfl) (OpdL.cons (q 104) (OpdL.cons (q 105) OpdL.nil))) rfl (c (mv hN (q 106)) rfl (c (OpJ.extract (by rfl) rfl (ltN hN rfl) (q 103)) rfl (c (OpJ.extract (by rfl) rfl (ltN hN rfl) (q 103)) rfl (c (OpJ.assign (ltN hN rfl) (q 107)) rfl (c (OpJ.assign (ltN hN rfl) (q 108)) rfl cn)))))))) ?_
                refine seqQ_n ?_
                refine gh [(1, _), (4, _), (5, _), (6, _), (15, _), (17, _), (20, _), (23, _), (24, _), (25, _), (26, _), (80, _), (81, _), (82, _), (91, _), (92, _), (93, _)] [(1006, some _), (1015, some _), (1020, some _)] hB rfl rfl (by rfl) ?_
                refine AWp.seq ?_
                refine rg (c (mv hN (q 23)) rfl (c (mv hN (q 25)) rfl (c (OpJ.neqI (ltN hN rfl) (q 109) (q 110)) rfl (c (mv hN (q 111)) rfl (c (oq hN 112 (mv hN (q 24)) (OptL.keep (by rfl) OptL.nil) (GuardV.plain _)) rfl (c (oq hN 112 (mv hN (q 26)) (OptL.keep (by rfl) OptL.nil) (GuardV.plain _)) rfl (c (oq hN 112 (OpJ.neqI (ltN hN rfl) (q 113) (q 114)) (OptL.opt (OptL.opt OptL.nil)) (GuardV.plain _)) rfl (c (OpJ.pickOr rfl (ltN hN rfl) (q 112) (q 115)) rfl cn)))))))) ?_
                refine seqQ_n ?_
                refine gh [(1, _), (4, _), (5, _), (6, _), (15, _), (17, _), (20, _), (80, _), (81, _), (82, _), (91, _), (92, _), (93, _), (116, _)] [(1006, some _), (1015, some _), (1020, some _)] hB rfl rfl (by rfl) ?_
                refine AWp.cond rfl (fun hg927 => ?_) (fun hg927 => ?_)
                · replace h := ite_t hg927 h
                  refine AWp.seq ?_
                  refine rg (c (OpJ.assign (ltN hN rfl) (Opd.bool false)) rfl cn) ?_
                  refine seqQ_n ?_
                  refine gh [(12, _)] [] hB rfl rfl (by rfl) ?_
                  refine AWp.ret ?_
                  refine blkQ_r ?_
                  refine seqQ_r ?_
                  obtain rfl := Option.some.inj h
                  exact ⟨(fun hc => by cases hc), rfl, (mp [] _ _ hB)⟩
                · replace h := ite_f hg927 h
                  refine AWp.skip ?_
                  refine blkQ_n ?_
                  refine seqQ_n ?_
                  refine rg (c (add6 (ltN hN rfl) (q 93) (Opd.int .i64 (1))) rfl (c (mv hN (q 117)) rfl cn)) ?_
                  obtain rfl := Option.some.inj h
                  exact ⟨rfl, (Mat.trans (mp [] [(1, (qe_api_Series_4 a1)), (4, (i6 a4)), (5, (i6 a5)), (6, (.ptr 1006 0 [])), (15, (.ptr 1015 0 [])), (17, (qe_api_Series_4 r21.2.2.1)), (20, (.ptr 1020 0 [])), (80, (qe_api_Tariff_3 ([r21.2.1, a2, (api_Tariff.mk r21.2.1.fBase r21.2.1.fIncluded r22), (api_Tariff.mk (1099511627776 : Int) (0 : Int) (1048576 : Int))] : List api_Tariff))), (81, (i6 (([r21.2.1, a2, (api_Tariff.mk r21.2.1.fBase r21.2.1.fIncluded r22), (api_Tariff.mk (1099511627776 : Int) (0 : Int) (1048576 : Int))] : List api_Tariff).length : Int))), (82, (i6 s23)), (91, (qI_1 ([a4, r908, r909] : List Int))), (92, (i6 (([a4, r908, r909] : List Int).length : Int))), (93, (i6 (w64 (s910 + (1 : Int)))))] [(1006, some (.box 24 (.d (e_api_Member a0)))), (1015, some (.box 24 (.d (e_api_Member r21.1)))), (1020, some (.box 27 (.d (e_api_Tariff x907))))] hB) (mp [] _ _ hB))⟩
              · replace h := ite_f hg923 h
                refine AWp.exit ?_
                refine seqQ_e ?_
                obtain rfl := Option.some.inj h
                exact ⟨(fun hc => by cases hc), rfl, (mp [] _ _ hB)⟩
            · rcases x928 with _ | _
              · obtain ⟨rfl, hmat⟩ := hR
                refine blkQ_r ?_
                refine seqQ_r ?_
                refine blkQ_r ?_
                refine seqQ_r ?_
                obtain rfl := Option.some.inj h
                exact ⟨(fun hc => by cases hc), rfl, (Mat.trans hmat (mp [] _ _ hB))⟩
              · obtain ⟨rfl, hmat⟩ := hR
                refine blkQ_hit ?_
                refine seqQ_n ?_
                refine AWp.ghost hmat ?_
                refine AWp.seq ?_
                obtain ⟨hc932, h⟩ := chk_some h
                obtain ⟨hc933, h⟩ := chk_some h
                refine dr (c (lb hN 24 _ _ tyS24 (At.here _) (q 15)) rfl (c (lb hN 24 _ _ tyS24 (At.here _) (q 6)) rfl (c (ov (.ptr 1015 5 [5]) (fp hN Try.underlying24 5 tyS22 _ (q 15))) rfl (c (lb hN 24 _ _ tyS22 (ad _) (q 120)) rfl (cg (OpJ.appendN hB Try.underlying22 tyE68 (nm := 1122) (by decide) (ys := r21.1.fPorts.map e_api_Port) (len := r21.1.fPorts.length) (by simp) (map_sz (f := e_api_Port) (fun _ => rfl)) (by rw [List.length_map]; exact lim_mulN hc932 (by decide)) (by rw [List.length_map]; exact lim_leN hc932) (ltN hN rfl) Opd.nils (q 121)) rfl (c (ov (.ptr 1015 5 [5]) (fp hN Try.underlying24 5 tyS22 _ (q 15))) rfl (c (lb hN 24 _ _ tyS22 (ad _) (q 123)) rfl (cg (OpJ.frz (OpJ.append hB Try.underlying22 tyE68 (nm := 1125) (by decide) (es := r21.1.fPorts.map e_api_Port) (ys := r21.1.fPorts.map e_api_Port) (es' := (r21.1.fPorts ++ r21.1.fPorts).map e_api_Port) (len := (r21.1.fPorts ++ r21.1.fPorts).length) (by simp) (by simp) (map_sz (f := e_api_Port) (fun _ => rfl)) (by rw [List.length_map]; exact lim_mulN hc933 (by decide)) (by rw [List.length_map]; exact lim_leN hc933) (ltN hN rfl) (by simp) (q 122) (q 124)) (by simp)) rfl (c (OpJ.coe (v := (.st [(i6 (101 : Int)), (.d (.str ([] : List UInt8))), (.d (.str ([] : List UInt8))), (i6 0), (i6 0), (qe_api_Port_10 (r21.1.fPorts ++ r21.1.fPorts))])) (y := (.st [(.int .i64 (101 : Int)), (.str ([] : List UInt8)), (.str ([] : List UInt8)), (.int .i64 0), (.int .i64 0), (.list 10 ((r21.1.fPorts ++ r21.1.fPorts).map e_api_Port))])) (Co.st (CoL.cons (Co.d _) (CoL.cons (Co.d _) (CoL.cons (Co.d _) (CoL.cons (Co.d _) (CoL.cons (Co.d _) (CoL.cons (Co.d _) CoL.nil))))))) rfl (OpJ.build (places := [(0, 1), (1, 1), (2, 1), (3, 1), (4, 1), (5, 1)]) ⟨Try.underlying24, fun w => by kernel_rfl⟩ tyZS24 (Opds.cons (Opd.int .i64 (101)) (Opds.cons (q 125) Opds.nil)) (by kernel_rfl) (r := (.st [(i6 (101 : Int)), (.d (.str ([] : List UInt8))), (.d (.str ([] : List UInt8))), (i6 0), (i6 0), (qe_api_Port_10 (r21.1.fPorts ++ r21.1.fPorts))])) (by rfl) (ltN hN rfl))) rfl (c (OpJ.buildSlice Try.underlying41 tyS24 tyZD24 (by rfl) (by decide) (by decide) (Opds.cons (q 118) (Opds.cons (q 119) (Opds.cons (q 126) Opds.nil))) (by kernel_rfl) (es := ([(e_api_Member r21.1), (e_api_Member a0), (.st [(.int .i64 (101 : Int)), (.str ([] : List UInt8)), (.str ([] : List UInt8)), (.int .i64 0), (.int .i64 0), (.list 10 ((r21.1.fPorts ++ r21.1.fPorts).map e_api_Port))])] : List D)) (by rfl) (by rfl) (by kernel_rfl) (by simp) (ltN hN rfl)) rfl (c (OpJ.val (v' := (i6 (([r21.1, a0, (api_Member.mk (101 : Int) ([] : List UInt8) ([] : List UInt8) (0 : Int) (0 : Int) (r21.1.fPorts ++ r21.1.fPorts))] : List api_Member).length : Int))) (by simp) (OpJ.lenD Try.underlying41 (ltN hN rfl) (q 127))) rfl (c (mv hN (Opd.int .i64 (0))) rfl cn)))))))))))) (by kernel_rfl) (by kernel_rfl) ?_
                refine seqQ_n ?_
                refine gh [(1, _), (4, _), (5, _), (6, _), (15, _), (17, _), (20, _), (80, _), (81, _), (82, _), (127, _), (128, _), (129, _)] [(1006, some _), (1015, some _), (1020, some _)] hB rfl rfl (by rfl) ?_
                refine AWp.block ?_
                obtain ⟨x1340, hx1341, h⟩ := bindS h
                refine lg (exchangepointlaw41_InvoiceMakes_L3 a0 a1 a5 r21 x907) (fun s934 : Int => ([(1, (qe_api_Series_4 a1)), (4, (i6 a4)), (5, (i6 a5)), (6, (.ptr 1006 0 [])), (15, (.ptr 1015 0 [])), (17, (qe_api_Series_4 r21.2.2.1)), (20, (.ptr 1020 0 [])), (80, (qe_api_Tariff_3 ([r21.2.1, a2, (api_Tariff.mk r21.2.1.fBase r21.2.1.fIncluded r22), (api_Tariff.mk (1099511627776 : Int) (0 : Int) (1048576 : Int))] : List api_Tariff))), (81, (i6 (([r21.2.1, a2, (api_Tariff.mk r21.2.1.fBase r21.2.1.fIncluded r22), (api_Tariff.mk (1099511627776 : Int) (0 : Int) (1048576 : Int))] : List api_Tariff).length : Int))), (82, (i6 s23)), (127, (qe_api_Member_6 ([r21.1, a0, (api_Member.mk (101 : Int) ([] : List UInt8) ([] : List UInt8) (0 : Int) (0 : Int) (r21.1.fPorts ++ r21.1.fPorts))] : List api_Member))), (128, (i6 (([r21.1, a0, (api_Member.mk (101 : Int) ([] : List UInt8) ([] : List UInt8) (0 : Int) (0 : Int) (r21.1.fPorts ++ r21.1.fPorts))] : List api_Member).length : Int))), (129, (i6 s934))] : EL)) (fun s934 : Int => ([(1006, some (.box 24 (.d (e_api_Member a0)))), (1015, some (.box 24 (.d (e_api_Member r21.1)))), (1020, some (.box 27 (.d (e_api_Tariff x907))))] : OL)) (fun (x : (Unit) ⊕ (Unit)) e E' O' => match x with | (.inl _p) => e = .ret ∧ Mat B E' O' ([(12, (bo false))] : EL) ([] : OL) | (.inr _p) => e = .exit 6 ∧ Mat B E' O' ([(1, (qe_api_Series_4 a1)), (4, (i6 a4)), (5, (i6 a5)), (6, (.ptr 1006 0 [])), (15, (.ptr 1015 0 [])), (17, (qe_api_Series_4 r21.2.2.1)), (80, (qe_api_Tariff_3 ([r21.2.1, a2, (api_Tariff.mk r21.2.1.fBase r21.2.1.fIncluded r22), (api_Tariff.mk (1099511627776 : Int) (0 : Int) (1048576 : Int))] : List api_Tariff))), (81, (i6 (([r21.2.1, a2, (api_Tariff.mk r21.2.1.fBase r21.2.1.fIncluded r22), (api_Tariff.mk (1099511627776 : Int) (0 : Int) (1048576 : Int))] : List api_Tariff).length : Int))), (82, (i6 s23))] : EL) ([(1006, some (.box 24 (.d (e_api_Member a0)))), (1015, some (.box 24 (.d (e_api_Member r21.1))))] : OL)) hx1341 (mp [] _ _ hB) (fun s934 y h => ?_) (fun e E' O' hR => ?_)
                · unfold exchangepointlaw41_InvoiceMakes_L3 at h
                  refine AWp.seq ?_
                  refine rg (c (OpJ.lss (ltN hN rfl) (q 129) (q 128)) rfl cn) ?_
                  refine seqQ_n ?_
                  refine gh [(1, _), (4, _), (5, _), (6, _), (15, _), (17, _), (20, _), (80, _), (81, _), (82, _), (127, _), (128, _), (129, _), (130, _)] [(1006, some _), (1015, some _), (1020, some _)] hB rfl rfl (by rfl) ?_
                  refine AWp.seq ?_
                  refine AWp.cond rfl (fun hg1207 => ?_) (fun hg1207 => ?_)
                  · replace h := ite_t hg1207 h
                    refine AWp.skip ?_
                    refine seqQ_n ?_
                    refine AWp.seq ?_
                    refine AWp.block ?_
                    refine AWp.seq ?_
                    obtain ⟨x1208, hx1208, h⟩ := bindS h
                    refine rg (c (OpJ.indexD Try.underlying41 tyS24 (idx_some hx1208).1 (get_map e_api_Member (idx_some hx1208).2) (ltN hN rfl) (q 127) (q 129)) rfl (c (OpJ.loadD tyS24 (by rfl) (by rfl) (ltN hN rfl) (q 131)) rfl (cg (OpJ.alloc hB tyZ24 (nm := 1028) (by decide) (ltN hN rfl)) rfl (cg (OpJ.storeB tyS24 (SetAt.here _ _) (by rfl) (by rfl) (by simp) rfl (q 28) (q 132)) rfl cn)))) ?_
                    refine seqQ_n ?_
                    refine gh [(1, _), (4, _), (5, _), (6, _), (15, _), (17, _), (20, _), (28, _), (80, _), (81, _), (82, _), (127, _), (128, _), (129, _)] [(1006, some _), (1015, some _), (1020, some _), (1028, some _)] hB rfl rfl (by rfl) ?_
                    refine AWp.seq ?_
                    obtain ⟨hc1209, h⟩ := chk_some h
                    refine rg (c (mv hN (q 17)) rfl (c (mv hN (q 1)) rfl (c (mv hN (q 17)) rfl (c (OpJ.cutD Try.underlying25 tyS31 (es' := ((r21.2.2.1.take r21.2.2.1.length).drop 1).map e_api_Series) (l := 1) (h := r21.2.2.1.length) (.inr ⟨_, _, _, rfl, (Opd.int .i64 (1)), (of_decide_eq_true (and_l2 (and_l2 hc1209))), rfl⟩) (.inl ⟨rfl, by simp, rfl⟩) (of_decide_eq_true (and_r2 (and_l2 hc1209))) (by first | (simp; done) | simpa using (of_decide_eq_true (and_r2 hc1209))) (by first | rw [List.map_drop, List.map_take] | simp [List.map_take, List.map_drop]) (ltN hN rfl) (q 135)) rfl (c (OpJ.buildSlice Try.underlying42 tyS25 tyZD25 (by rfl) (by decide) (by decide) (Opds.cons (q 133) (Opds.cons (q 134) (Opds.cons (q 136) Opds.nil))) (by kernel_rfl) (es := ([(.list 4 (r21.2.2.1.map e_api_Series)), (.list 4 (a1.map e_api_Series)), (.list 4 (((r21.2.2.1.take r21.2.2.1.length).drop 1).map e_api_Series))] : List D)) (by rfl) (by rfl) (by kernel_rfl) (by simp) (ltN hN rfl)) rfl (c (OpJ.val (v' := (i6 (([r21.2.2.1, a1, ((r21.2.2.1.take r21.2.2.1.length).drop 1)] : List (List api_Series)).length : Int))) (by simp) (OpJ.lenD Try.underlying42 (ltN hN rfl) (q 137))) rfl (c (mv hN (Opd.int .i64 (0))) rfl cn))))))) ?_
                    refine seqQ_n ?_
                    refine gh [(1, _), (4, _), (5, _), (6, _), (15, _), (17, _), (20, _), (28, _), (80, _), (81, _), (82, _), (127, _), (128, _), (129, _), (137, _), (138, _), (139, _)] [(1006, some _), (1015, some _), (1020, some _), (1028, some _)] hB rfl rfl (by rfl) ?_
                    refine AWp.block ?_
                    obtain ⟨x1338, hx1339, h⟩ := bindS h
                    refine lg (exchangepointlaw41_InvoiceMakes_L4 a1 a5 r21 x907 x1208) (fun s1210 : Int => ([(1, (qe_api_Series_4 a1)), (4, (i6 a4)), (5, (i6 a5)), (6, (.ptr 1006 0 [])), (15, (.ptr 1015 0 [])), (17, (qe_api_Series_4 r21.2.2.1)), (20, (.ptr 1020 0 [])), (28, (.ptr 1028 0 [])), (80, (qe_api_Tariff_3 ([r21.2.1, a2, (api_Tariff.mk r21.2.1.fBase r21.2.1.fIncluded r22), (api_Tariff.mk (1099511627776 : Int) (0 : Int) (1048576 : Int))] : List api_Tariff))), (81, (i6 (([r21.2.1, a2, (api_Tariff.mk r21.2.1.fBase r21.2.1.fIncluded r22), (api_Tariff.mk (1099511627776 : Int) (0 : Int) (1048576 : Int))] : List api_Tariff).length : Int))), (82, (i6 s23)), (127, (qe_api_Member_6 ([r21.1, a0, (api_Member.mk (101 : Int) ([] : List UInt8) ([] : List UInt8) (0 : Int) (0 : Int) (r21.1.fPorts ++ r21.1.fPorts))] : List api_Member))), (128, (i6 (([r21.1, a0, (api_Member.mk (101 : Int) ([] : List UInt8) ([] : List UInt8) (0 : Int) (0 : Int) (r21.1.fPorts ++ r21.1.fPorts))] : List api_Member).length : Int))), (129, (i6 s934)), (137, (.d (.list 1 (([r21.2.2.1, a1, ((r21.2.2.1.take r21.2.2.1.length).drop 1)] : List (List api_Series)).map e_LeapiSeries)))), (138, (i6 (([r21.2.2.1, a1, ((r21.2.2.1.take r21.2.2.1.length).drop 1)] : List (List api_Series)).length : Int))), (139, (i6 s1210))] : EL)) (fun s1210 : Int => ([(1006, some (.box 24 (.d (e_api_Member a0)))), (1015, some (.box 24 (.d (e_api_Member r21.1)))), (1020, some (.box 27 (.d (e_api_Tariff x907)))), (1028, some (.box 24 (.d (e_api_Member x1208))))] : OL)) (fun (x : (Unit) ⊕ (Unit)) e E' O' => match x with | (.inl _p) => e = .ret ∧ Mat B E' O' ([(12, (bo false))] : EL) ([] : OL) | (.inr _p) => e = .exit 8 ∧ Mat B E' O' ([(1, (qe_api_Series_4 a1)), (4, (i6 a4)), (5, (i6 a5)), (6, (.ptr 1006 0 [])), (15, (.ptr 1015 0 [])), (17, (qe_api_Series_4 r21.2.2.1)), (20, (.ptr 1020 0 [])), (80, (qe_api_Tariff_3 ([r21.2.1, a2, (api_Tariff.mk r21.2.1.fBase r21.2.1.fIncluded r22), (api_Tariff.mk (1099511627776 : Int) (0 : Int) (1048576 : Int))] : List api_Tariff))), (81, (i6 (([r21.2.1, a2, (api_Tariff.mk r21.2.1.fBase r21.2.1.fIncluded r22), (api_Tariff.mk (1099511627776 : Int) (0 : Int) (1048576 : Int))] : List api_Tariff).length : Int))), (82, (i6 s23)), (127, (qe_api_Member_6 ([r21.1, a0, (api_Member.mk (101 : Int) ([] : List UInt8) ([] : List UInt8) (0 : Int) (0 : Int) (r21.1.fPorts ++ r21.1.fPorts))] : List api_Member))), (128, (i6 (([r21.1, a0, (api_Member.mk (101 : Int) ([] : List UInt8) ([] : List UInt8) (0 : Int) (0 : Int) (r21.1.fPorts ++ r21.1.fPorts))] : List api_Member).length : Int))), (129, (i6 s934))] : EL) ([(1006, some (.box 24 (.d (e_api_Member a0)))), (1015, some (.box 24 (.d (e_api_Member r21.1)))), (1020, some (.box 27 (.d (e_api_Tariff x907))))] : OL)) hx1339 (mp [] _ _ hB) (fun s1210 y h => ?_) (fun e E' O' hR => ?_)
                    · unfold exchangepointlaw41_InvoiceMakes_L4 at h
                      refine AWp.seq ?_
                      refine rg (c (OpJ.lss (ltN hN rfl) (q 139) (q 138)) rfl cn) ?_
                      refine seqQ_n ?_
                      refine gh [(1, _), (4, _), (5, _), (6, _), (15, _), (17, _), (20, _), (28, _), (80, _), (81, _), (82, _), (127, _), (128, _), (129, _), (137, _), (138, _), (139, _), (140, _)] [(1006, some _), (1015, some _), (1020, some _), (1028, some _)] hB rfl rfl (by rfl) ?_
                      refine AWp.seq ?_
                      refine AWp.cond rfl (fun hg1297 => ?_) (fun hg1297 => ?_)
                      · replace h := ite_t hg1297 h
                        refine AWp.skip ?_
                        refine seqQ_n ?_
                        refine AWp.seq ?_
                        refine AWp.block ?_
                        refine AWp.seq ?_
                        obtain ⟨x1298, hx1298, h⟩ := bindS h
                        refine rg (c (OpJ.indexD Try.underlying42 tyS25 (idx_some hx1298).1 (get_map e_LeapiSeries (idx_some hx1298).2) (ltN hN rfl) (q 137) (q 139)) rfl (c (OpJ.loadD tyS25 (by rfl) (by rfl) (ltN hN rfl) (q 141)) rfl (c (OpJ.assign (ltN hN rfl) (q 142)) rfl cn))) ?_
                        refine seqQ_n ?_
                        refine gh [(1, _), (4, _), (5, _), (6, _), (15, _), (17, _), (20, _), (28, _), (30, _), (80, _), (81, _), (82, _), (127, _), (128, _), (129, _), (137, _), (138, _), (139, _)] [(1006, some _), (1015, some _), (1020, some _), (1028, some _)] hB rfl rfl (by rfl) ?_
                        refine AWp.seq ?_
                        obtain ⟨r1299, hr1299, h⟩ := bindS h
                        refine rg (c (mv hN (q 5)) rfl (c (mv hN (q 5)) rfl (cg (OpJ.callFn hB fnOk10 (exchangepointmill_Mod_ac a5 (100 : Int) r1299 hr1299) [] (by kernel_rfl) (ltN hN rfl) (by kernel_rfl) (OpdL.cons (q 144) (OpdL.cons (Opd.int .i64 (100)) OpdL.nil))) rfl (c (add6 (ltN hN rfl) (Opd.int .i64 (1)) (q 145)) rfl (c (OpJ.buildSlice Try.underlying28 tyS3 tyZD3 (by rfl) (by decide) (by decide) (Opds.cons (q 143) (Opds.cons (q 146) Opds.nil)) (by kernel_rfl) (es := ([(.int .i64 a5), (.int .i64 (w64 ((1 : Int) + r1299)))] : List D)) (by rfl) (by rfl) (by kernel_rfl) (by simp) (ltN hN rfl)) rfl (c (OpJ.val (v' := (i6 (([a5, (w64 ((1 : Int) + r1299))] : List Int).length : Int))) (by simp) (OpJ.lenD Try.underlying28 (ltN hN rfl) (q 147))) rfl (c (mv hN (Opd.int .i64 (0))) rfl cn))))))) ?_
                        refine seqQ_n ?_
                        refine gh [(1, _), (4, _), (5, _), (6, _), (15, _), (17, _), (20, _), (28, _), (30, _), (80, _), (81, _), (82, _), (127, _), (128, _), (129, _), (137, _), (138, _), (139, _), (147, _), (148, _), (149, _)] [(1006, some _), (1015, some _), (1020, some _), (1028, some _)] hB rfl rfl (by rfl) ?_
                        refine AWp.block ?_
                        obtain ⟨x1336, hx1337, h⟩ := bindS h
                        refine lg (exchangepointlaw41_InvoiceMakes_L5 a5 x907 x1208 x1298 r1299) (fun s1300 : Int => ([(1, (qe_api_Series_4 a1)), (4, (i6 a4)), (5, (i6 a5)), (6, (.ptr 1006 0 [])), (15, (.ptr 1015 0 [])), (17, (qe_api_Series_4 r21.2.2.1)), (20, (.ptr 1020 0 [])), (28, (.ptr 1028 0 [])), (30, (qe_api_Series_4 x1298)), (80, (qe_api_Tariff_3 ([r21.2.1, a2, (api_Tariff.mk r21.2.1.fBase r21.2.1.fIncluded r22), (api_Tariff.mk (1099511627776 : Int) (0 : Int) (1048576 : Int))] : List api_Tariff))), (81, (i6 (([r21.2.1, a2, (api_Tariff.mk r21.2.1.fBase r21.2.1.fIncluded r22), (api_Tariff.mk (1099511627776 : Int) (0 : Int) (1048576 : Int))] : List api_Tariff).length : Int))), (82, (i6 s23)), (127, (qe_api_Member_6 ([r21.1, a0, (api_Member.mk (101 : Int) ([] : List UInt8) ([] : List UInt8) (0 : Int) (0 : Int) (r21.1.fPorts ++ r21.1.fPorts))] : List api_Member))), (128, (i6 (([r21.1, a0, (api_Member.mk (101 : Int) ([] : List UInt8) ([] : List UInt8) (0 : Int) (0 : Int) (r21.1.fPorts ++ r21.1.fPorts))] : List api_Member).length : Int))), (129, (i6 s934)), (137, (.d (.list 1 (([r21.2.2.1, a1, ((r21.2.2.1.take r21.2.2.1.length).drop 1)] : List (List api_Series)).map e_LeapiSeries)))), (138, (i6 (([r21.2.2.1, a1, ((r21.2.2.1.take r21.2.2.1.length).drop 1)] : List (List api_Series)).length : Int))), (139, (i6 s1210)), (147, (qI_1 ([a5, (w64 ((1 : Int) + r1299))] : List Int))), (148, (i6 (([a5, (w64 ((1 : Int) + r1299))] : List Int).length : Int))), (149, (i6 s1300))] : EL)) (fun s1300 : Int => ([(1006, some (.box 24 (.d (e_api_Member a0)))), (1015, some (.box 24 (.d (e_api_Member r21.1)))), (1020, some (.box 27 (.d (e_api_Tariff x907)))), (1028, some (.box 24 (.d (e_api_Member x1208))))] : OL)) (fun (x : (Unit) ⊕ (Unit)) e E' O' => match x with | (.inl _p) => e = .ret ∧ Mat B E' O' ([(12, (bo false))] : EL) ([] : OL) | (.inr _p) => e = .exit 10 ∧ Mat B E' O' ([(1, (qe_api_Series_4 a1)), (4, (i6 a4)), (5, (i6 a5)), (6, (.ptr 1006 0 [])), (15, (.ptr 1015 0 [])), (17, (qe_api_Series_4 r21.2.2.1)), (20, (.ptr 1020 0 [])), (28, (.ptr 1028 0 [])), (80, (qe_api_Tariff_3 ([r21.2.1, a2, (api_Tariff.mk r21.2.1.fBase r21.2.1.fIncluded r22), (api_Tariff.mk (1099511627776 : Int) (0 : Int) (1048576 : Int))] : List api_Tariff))), (81, (i6 (([r21.2.1, a2, (api_Tariff.mk r21.2.1.fBase r21.2.1.fIncluded r22), (api_Tariff.mk (1099511627776 : Int) (0 : Int) (1048576 : Int))] : List api_Tariff).length : Int))), (82, (i6 s23)), (127, (qe_api_Member_6 ([r21.1, a0, (api_Member.mk (101 : Int) ([] : List UInt8) ([] : List UInt8) (0 : Int) (0 : Int) (r21.1.fPorts ++ r21.1.fPorts))] : List api_Member))), (128, (i6 (([r21.1, a0, (api_Member.mk (101 : Int) ([] : List UInt8) ([] : List UInt8) (0 : Int) (0 : Int) (r21.1.fPorts ++ r21.1.fPorts))] : List api_Member).length : Int))), (129, (i6 s934)), (137, (.d (.list 1 (([r21.2.2.1, a1, ((r21.2.2.1.take r21.2.2.1.length).drop 1)] : List (List api_Series)).map e_LeapiSeries)))), (138, (i6 (([r21.2.2.1, a1, ((r21.2.2.1.take r21.2.2.1.length).drop 1)] : List (List api_Series)).length : Int))), (139, (i6 s1210))] : EL) ([(1006, some (.box 24 (.d (e_api_Member a0)))), (1015, some (.box 24 (.d (e_api_Member r21.1)))), (1020, some (.box 27 (.d (e_api_Tariff x907)))), (1028, some (.box 24 (.d (e_api_Member x1208))))] : OL)) hx1337 (mp [] _ _ hB) (fun s1300 y h => ?_) (fun e E' O' hR => ?_)
                        · unfold exchangepointlaw41_InvoiceMakes_L5 at h
                          refine AWp.seq ?_
                          refine rg (c (OpJ.lss (ltN hN rfl) (q 149) (q 148)) rfl cn) ?_
                          refine seqQ_n ?_
                          refine gh [(1, _), (4, _), (5, _), (6, _), (15, _), (17, _), (20, _), (28, _), (30, _), (80, _), (81, _), (82, _), (127, _), (128, _), (129, _), (137, _), (138, _), (139, _), (147, _), (148, _), (149, _), (150, _)] [(1006, some _), (1015, some _), (1020, some _), (1028, some _)] hB rfl rfl (by rfl) ?_
                          refine AWp.seq ?_
                          refine AWp.cond rfl (fun hg1325 => ?_) (fun hg1325 => ?_)
                          · replace h := ite_t hg1325 h
                            refine AWp.skip ?_
                            refine seqQ_n ?_
                            refine AWp.seq ?_
                            refine AWp.block ?_
                            refine AWp.seq ?_
                            obtain ⟨x1326, hx1326, h⟩ := bindS h
                            refine rg (c (OpJ.indexD Try.underlying28 tyS3 (idx_some hx1326).1 (get_map (eI .i64) (idx_some hx1326).2) (ltN hN rfl) (q 147) (q 149)) rfl (c (OpJ.loadD tyS3 (by rfl) (by rfl) (ltN hN rfl) (q 151)) rfl (c (OpJ.assign (ltN hN rfl) (q 152)) rfl cn))) ?_
                            refine seqQ_n ?_
                            refine gh [(1, _), (4, _), (5, _), (6, _), (15, _), (17, _), (20, _), (28, _), (30, _), (32, _), (80, _), (81, _), (82, _), (127, _), (128, _), (129, _), (137, _), (138, _), (139, _), (147, _), (148, _), (149, _)] [(1006, some _), (1015, some _), (1020, some _), (1028, some _)] hB rfl rfl (by rfl) ?_
                            refine AWp.seq ?_
                            obtain ⟨r1327, hr1327, h⟩ := bindS h
                            refine rg (c (lb hN 24 _ _ tyS24 (At.here _) (q 28)) rfl (c (mv hN (q 32)) rfl (c (lb hN 27 _ _ tyS27 (At.here _) (q 20)) rfl (c (mv hN (q 30)) rfl (cg (OpJ.callFn hB fnOk13 (invoice_Make_ac x1208 x1326 x907 x1298 r1327 hr1327) [] (by kernel_rfl) (ltN hN rfl) (by kernel_rfl) (OpdL.cons (q 154) (OpdL.cons (q 155) (OpdL.cons (q 156) (OpdL.cons (q 157) OpdL.nil))))) rfl (c (mv hN (q 158)) rfl (c (OpJ.extract (by rfl) rfl (ltN hN rfl) (q 153)) rfl (c (OpJ.extract (by rfl) rfl (ltN hN rfl) (q 153)) rfl (cg (OpJ.alloc hB tyZ45 (nm := 1033) (by decide) (ltN hN rfl)) rfl (cg (OpJ.storeB tyS45 (SetAt.here _ _) (by rfl) (by rfl) (by simp) rfl (q 33) (q 159)) rfl (c (OpJ.assign (ltN hN rfl) (q 160)) rfl cn))))))))))) ?_
                            refine seqQ_n ?_
                            refine gh [(1, _), (4, _), (5, _), (6, _), (15, _), (17, _), (20, _), (28, _), (30, _), (32, _), (33, _), (34, _), (80, _), (81, _), (82, _), (127, _), (128, _), (129, _), (137, _), (138, _), (139, _), (147, _), (148, _), (149, _)] [(1006, some _), (1015, some _), (1020, some _), (1028, some _), (1033, some _)] hB rfl rfl (by rfl) ?_
                            refine AWp.seq ?_
                            obtain ⟨r1328, hr1328, h⟩ := bindS h
                            refine rg (c (lb hN 24 _ _ tyS24 (At.here _) (q 28)) rfl (c (mv hN (q 32)) rfl (c (lb hN 27 _ _ tyS27 (At.here _) (q 20)) rfl (c (mv hN (q 30)) rfl (cg (OpJ.callFn hB fnOk14 (exchangepointref41_Make_ac x1208 x1326 x907 x1298 r1328 hr1328) [] (by kernel_rfl) (ltN hN rfl) (by kernel_rfl) (OpdL.cons (q 162) (OpdL.cons (q 163) (OpdL.cons (q 164) (OpdL.cons (q 165) OpdL.nil))))) rfl (c (mv hN (q 166)) rfl (c (OpJ.extract (by rfl) rfl (ltN hN rfl) (q 161)) rfl (c (OpJ.extract (by rfl) rfl (ltN hN rfl) (q 161)) rfl (cg (OpJ.alloc hB tyZ45 (nm := 1035) (by decide) (ltN hN rfl)) rfl (cg (OpJ.storeB tyS45 (SetAt.here _ _) (by rfl) (by rfl) (by simp) rfl (q 35) (q 167)) rfl (c (OpJ.assign (ltN hN rfl) (q 168)) rfl cn))))))))))) ?_
                            refine seqQ_n ?_
                            refine gh [(1, _), (4, _), (5, _), (6, _), (15, _), (17, _), (20, _), (28, _), (30, _), (33, _), (34, _), (35, _), (36, _), (80, _), (81, _), (82, _), (127, _), (128, _), (129, _), (137, _), (138, _), (139, _), (147, _), (148, _), (149, _)] [(1006, some _), (1015, some _), (1020, some _), (1028, some _), (1033, some _), (1035, some _)] hB rfl rfl (by rfl) ?_
                            refine AWp.seq ?_
                            refine AWp.cut h (fun m1331 : Bool => ([(1, (qe_api_Series_4 a1)), (4, (i6 a4)), (5, (i6 a5)), (6, (.ptr 1006 0 [])), (15, (.ptr 1015 0 [])), (17, (qe_api_Series_4 r21.2.2.1)), (20, (.ptr 1020 0 [])), (28, (.ptr 1028 0 [])), (30, (qe_api_Series_4 x1298)), (80, (qe_api_Tariff_3 ([r21.2.1, a2, (api_Tariff.mk r21.2.1.fBase r21.2.1.fIncluded r22), (api_Tariff.mk (1099511627776 : Int) (0 : Int) (1048576 : Int))] : List api_Tariff))), (81, (i6 (([r21.2.1, a2, (api_Tariff.mk r21.2.1.fBase r21.2.1.fIncluded r22), (api_Tariff.mk (1099511627776 : Int) (0 : Int) (1048576 : Int))] : List api_Tariff).length : Int))), (82, (i6 s23)), (127, (qe_api_Member_6 ([r21.1, a0, (api_Member.mk (101 : Int) ([] : List UInt8) ([] : List UInt8) (0 : Int) (0 : Int) (r21.1.fPorts ++ r21.1.fPorts))] : List api_Member))), (128, (i6 (([r21.1, a0, (api_Member.mk (101 : Int) ([] : List UInt8) ([] : List UInt8) (0 : Int) (0 : Int) (r21.1.fPorts ++ r21.1.fPorts))] : List api_Member).length : Int))), (129, (i6 s934)), (137, (.d (.list 1 (([r21.2.2.1, a1, ((r21.2.2.1.take r21.2.2.1.length).drop 1)] : List (List api_Series)).map e_LeapiSeries)))), (138, (i6 (([r21.2.2.1, a1, ((r21.2.2.1.take r21.2.2.1.length).drop 1)] : List (List api_Series)).length : Int))), (139, (i6 s1210)), (147, (qI_1 ([a5, (w64 ((1 : Int) + r1299))] : List Int))), (148, (i6 (([a5, (w64 ((1 : Int) + r1299))] : List Int).length : Int))), (149, (i6 s1300)), (177, (bo m1331))] : EL)) (fun m1331 : Bool => ([(1006, some (.box 24 (.d (e_api_Member a0)))), (1015, some (.box 24 (.d (e_api_Member r21.1)))), (1020, some (.box 27 (.d (e_api_Tariff x907)))), (1028, some (.box 24 (.d (e_api_Member x1208))))] : OL)) (fun m1331 h E' O' hmat => ?_) (fun j1332 hjj1332 h => ?_)
                            · refine seqQ_n ?_
                              refine AWp.ghost hmat ?_
                              refine AWp.cond rfl (fun hg1333 => ?_) (fun hg1333 => ?_)
                              · replace h := ite_t hg1333 h
                                refine AWp.seq ?_
                                refine rg (c (OpJ.assign (ltN hN rfl) (Opd.bool false)) rfl cn) ?_
                                refine seqQ_n ?_
                                refine gh [(12, _)] [] hB rfl rfl (by rfl) ?_
                                refine AWp.ret ?_
                                refine blkQ_r ?_
                                refine seqQ_r ?_
                                obtain rfl := Option.some.inj h
                                exact ⟨(fun hc => by cases hc), rfl, (mp [] _ _ hB)⟩
                              · replace h := ite_f hg1333 h
                                refine AWp.skip ?_
                                refine blkQ_n ?_
                                refine seqQ_n ?_
                                refine rg (c (add6 (ltN hN rfl) (q 149) (Opd.int .i64 (1))) rfl (c (mv hN (q 178)) rfl cn)) ?_
                                obtain rfl := Option.some.inj h
                                exact ⟨rfl, (Mat.trans (mp [] [(1, (qe_api_Series_4 a1)), (4, (i6 a4)), (5, (i6 a5)), (6, (.ptr 1006 0 [])), (15, (.ptr 1015 0 [])), (17, (qe_api_Series_4 r21.2.2.1)), (20, (.ptr 1020 0 [])), (28, (.ptr 1028 0 [])), (30, (qe_api_Series_4 x1298)), (80, (qe_api_Tariff_3 ([r21.2.1, a2, (api_Tariff.mk r21.2.1.fBase r21.2.1.fIncluded r22), (api_Tariff.mk (1099511627776 : Int) (0 : Int) (1048576 : Int))] : List api_Tariff))), (81, (i6 (([r21.2.1, a2, (api_Tariff.mk r21.2.1.fBase r21.2.1.fIncluded r22), (api_Tariff.mk (1099511627776 : Int) (0 : Int) (1048576 : Int))] : List api_Tariff).length : Int))), (82, (i6 s23)), (127, (qe_api_Member_6 ([r21.1, a0, (api_Member.mk (101 : Int) ([] : List UInt8) ([] : List UInt8) (0 : Int) (0 : Int) (r21.1.fPorts ++ r21.1.fPorts))] : List api_Member))), (128, (i6 (([r21.1, a0, (api_Member.mk (101 : Int) ([] : List UInt8) ([] : List UInt8) (0 : Int) (0 : Int) (r21.1.fPorts ++ r21.1.fPorts))] : List api_Member).length : Int))), (129, (i6 s934)), (137, (.d (.list 1 (([r21.2.2.1, a1, ((r21.2.2.1.take r21.2.2.1.length).drop 1)] : List (List api_Series)).map e_LeapiSeries)))), (138, (i6 (([r21.2.2.1, a1, ((r21.2.2.1.take r21.2.2.1.length).drop 1)] : List (List api_Series)).length : Int))), (139, (i6 s1210)), (147, (qI_1 ([a5, (w64 ((1 : Int) + r1299))] : List Int))), (148, (i6 (([a5, (w64 ((1 : Int) + r1299))] : List Int).length : Int))), (149, (i6 (w64 (s1300 + (1 : Int)))))] [(1006, some (.box 24 (.d (e_api_Member a0)))), (1015, some (.box 24 (.d (e_api_Member r21.1)))), (1020, some (.box 27 (.d (e_api_Tariff x907)))), (1028, some (.box 24 (.d (e_api_Member x1208))))] hB) (mp [] _ _ hB))⟩
                            · rcases Bool.eq_false_or_eq_true (r1327.2 != r1328.2) with hg1334 | hg1334
                              · replace h := ite_t hg1334 h
                                refine rg (c (mv hN (q 34)) rfl (c (mv hN (q 36)) rfl (c (OpJ.neqI (ltN hN rfl) (q 169) (q 170)) rfl (c (OpJ.val (v' := .d (.bool true)) (by rw [hg1334]) (mv hN (q 171))) rfl (cg (OpJ.skipU (g := 172) (ltN hN rfl) (by rfl)) rfl (cg (OpJ.skipU (g := 172) (ltN hN rfl) (by rfl)) rfl (cg (OpJ.skipU (g := 172) (ltN hN rfl) (by rfl)) rfl (cg (OpJ.skipU (g := 172) (ltN hN rfl) (by rfl)) rfl (c (OpJ.pickT (ltN hN rfl) (q 172) (Opd.bool true)) rfl cn))))))))) ?_
                                exact hjj1332 _ h _ _ (Mat.trans (mp [] [(1, (qe_api_Series_4 a1)), (4, (i6 a4)), (5, (i6 a5)), (6, (.ptr 1006 0 [])), (15, (.ptr 1015 0 [])), (17, (qe_api_Series_4 r21.2.2.1)), (20, (.ptr 1020 0 [])), (28, (.ptr 1028 0 [])), (30, (qe_api_Series_4 x1298)), (80, (qe_api_Tariff_3 ([r21.2.1, a2, (api_Tariff.mk r21.2.1.fBase r21.2.1.fIncluded r22), (api_Tariff.mk (1099511627776 : Int) (0 : Int) (1048576 : Int))] : List api_Tariff))), (81, (i6 (([r21.2.1, a2, (api_Tariff.mk r21.2.1.fBase r21.2.1.fIncluded r22), (api_Tariff.mk (1099511627776 : Int) (0 : Int) (1048576 : Int))] : List api_Tariff).length : Int))), (82, (i6 s23)), (127, (qe_api_Member_6 ([r21.1, a0, (api_Member.mk (101 : Int) ([] : List UInt8) ([] : List UInt8) (0 : Int) (0 : Int) (r21.1.fPorts ++ r21.1.fPorts))] : List api_Member))), (128, (i6 (([r21.1, a0, (api_Member.mk (101 : Int) ([] : List UInt8) ([] : List UInt8) (0 : Int) (0 : Int) (r21.1.fPorts ++ r21.1.fPorts))] : List api_Member).length : Int))), (129, (i6 s934)), (137, (.d (.list 1 (([r21.2.2.1, a1, ((r21.2.2.1.take r21.2.2.1.length).drop 1)] : List (List api_Series)).map e_LeapiSeries)))), (138, (i6 (([r21.2.2.1, a1, ((r21.2.2.1.take r21.2.2.1.length).drop 1)] : List (List api_Series)).length : Int))), (139, (i6 s1210)), (147, (qI_1 ([a5, (w64 ((1 : Int) + r1299))] : List Int))), (148, (i6 (([a5, (w64 ((1 : Int) + r1299))] : List Int).length : Int))), (149, (i6 s1300)), (177, (bo true))] [(1006, some (.box 24 (.d (e_api_Member a0)))), (1015, some (.box 24 (.d (e_api_Member r21.1)))), (1020, some (.box 27 (.d (e_api_Tariff x907)))), (1028, some (.box 24 (.d (e_api_Member x1208))))] hB) (mp [] _ _ hB))
                              · replace h := ite_f hg1334 h
                                obtain ⟨r1335, hr1335, h⟩ := bindS h
                                refine rg (c (mv hN (q 34)) rfl (c (mv hN (q 36)) rfl (c (OpJ.neqI (ltN hN rfl) (q 169) (q 170)) rfl (c (OpJ.val (v' := .d (.bool false)) (by rw [hg1334]) (mv hN (q 171))) rfl (c (OpJ.guarded (g := 172) (by rfl) (lb hN 45 _ _ tyS45 (At.here _) (q 33))) rfl (c (OpJ.guarded (g := 172) (by rfl) (lb hN 45 _ _ tyS45 (At.here _) (q 35))) rfl (cg (OpJ.guarded (g := 172) (by rfl) (OpJ.callFn hB fnOk15 (exchangepointref41_Same_ac r1327.1 r1328.1 r1335 hr1335) [] (by kernel_rfl) (ltN hN rfl) (by kernel_rfl) (OpdL.cons (q 173) (OpdL.cons (q 174) OpdL.nil)))) rfl (c (OpJ.guarded (g := 172) (by rfl) (OpJ.not (ltN hN rfl) (q 175))) rfl (c (OpJ.pickF (ltN hN rfl) (q 172) (q 176)) rfl cn))))))))) ?_
                                exact hjj1332 _ h _ _ (Mat.trans (mp [] [(1, (qe_api_Series_4 a1)), (4, (i6 a4)), (5, (i6 a5)), (6, (.ptr 1006 0 [])), (15, (.ptr 1015 0 [])), (17, (qe_api_Series_4 r21.2.2.1)), (20, (.ptr 1020 0 [])), (28, (.ptr 1028 0 [])), (30, (qe_api_Series_4 x1298)), (80, (qe_api_Tariff_3 ([r21.2.1, a2, (api_Tariff.mk r21.2.1.fBase r21.2.1.fIncluded r22), (api_Tariff.mk (1099511627776 : Int) (0 : Int) (1048576 : Int))] : List api_Tariff))), (81, (i6 (([r21.2.1, a2, (api_Tariff.mk r21.2.1.fBase r21.2.1.fIncluded r22), (api_Tariff.mk (1099511627776 : Int) (0 : Int) (1048576 : Int))] : List api_Tariff).length : Int))), (82, (i6 s23)), (127, (qe_api_Member_6 ([r21.1, a0, (api_Member.mk (101 : Int) ([] : List UInt8) ([] : List UInt8) (0 : Int) (0 : Int) (r21.1.fPorts ++ r21.1.fPorts))] : List api_Member))), (128, (i6 (([r21.1, a0, (api_Member.mk (101 : Int) ([] : List UInt8) ([] : List UInt8) (0 : Int) (0 : Int) (r21.1.fPorts ++ r21.1.fPorts))] : List api_Member).length : Int))), (129, (i6 s934)), (137, (.d (.list 1 (([r21.2.2.1, a1, ((r21.2.2.1.take r21.2.2.1.length).drop 1)] : List (List api_Series)).map e_LeapiSeries)))), (138, (i6 (([r21.2.2.1, a1, ((r21.2.2.1.take r21.2.2.1.length).drop 1)] : List (List api_Series)).length : Int))), (139, (i6 s1210)), (147, (qI_1 ([a5, (w64 ((1 : Int) + r1299))] : List Int))), (148, (i6 (([a5, (w64 ((1 : Int) + r1299))] : List Int).length : Int))), (149, (i6 s1300)), (177, (bo (!r1335)))] [(1006, some (.box 24 (.d (e_api_Member a0)))), (1015, some (.box 24 (.d (e_api_Member r21.1)))), (1020, some (.box 27 (.d (e_api_Tariff x907)))), (1028, some (.box 24 (.d (e_api_Member x1208))))] hB) (mp [] _ _ hB))
                          · replace h := ite_f hg1325 h
                            refine AWp.exit ?_
                            refine seqQ_e ?_
                            obtain rfl := Option.some.inj h
                            exact ⟨(fun hc => by cases hc), rfl, (mp [] _ _ hB)⟩
                        · rcases x1336 with _ | _
                          · obtain ⟨rfl, hmat⟩ := hR
                            refine blkQ_r ?_
                            refine blkQ_r ?_
                            refine seqQ_r ?_
                            obtain rfl := Option.some.inj h
                            exact ⟨(fun hc => by cases hc), rfl, (Mat.trans hmat (mp [] _ _ hB))⟩
                          · obtain ⟨rfl, hmat⟩ := hR
                            refine blkQ_hit ?_
                            refine blkQ_n ?_
                            refine seqQ_n ?_
                            refine AWp.ghost hmat ?_
                            refine rg (c (add6 (ltN hN rfl) (q 139) (Opd.int .i64 (1))) rfl (c (mv hN (q 179)) rfl cn)) ?_
                            obtain rfl := Option.some.inj h
                            exact ⟨rfl, (Mat.trans (mp [] [(1, (qe_api_Series_4 a1)), (4, (i6 a4)), (5, (i6 a5)), (6, (.ptr 1006 0 [])), (15, (.ptr 1015 0 [])), (17, (qe_api_Series_4 r21.2.2.1)), (20, (.ptr 1020 0 [])), (28, (.ptr 1028 0 [])), (80, (qe_api_Tariff_3 ([r21.2.1, a2, (api_Tariff.mk r21.2.1.fBase r21.2.1.fIncluded r22), (api_Tariff.mk (1099511627776 : Int) (0 : Int) (1048576 : Int))] : List api_Tariff))), (81, (i6 (([r21.2.1, a2, (api_Tariff.mk r21.2.1.fBase r21.2.1.fIncluded r22), (api_Tariff.mk (1099511627776 : Int) (0 : Int) (1048576 : Int))] : List api_Tariff).length : Int))), (82, (i6 s23)), (127, (qe_api_Member_6 ([r21.1, a0, (api_Member.mk (101 : Int) ([] : List UInt8) ([] : List UInt8) (0 : Int) (0 : Int) (r21.1.fPorts ++ r21.1.fPorts))] : List api_Member))), (128, (i6 (([r21.1, a0, (api_Member.mk (101 : Int) ([] : List UInt8) ([] : List UInt8) (0 : Int) (0 : Int) (r21.1.fPorts ++ r21.1.fPorts))] : List api_Member).length : Int))), (129, (i6 s934)), (137, (.d (.list 1 (([r21.2.2.1, a1, ((r21.2.2.1.take r21.2.2.1.length).drop 1)] : List (List api_Series)).map e_LeapiSeries)))), (138, (i6 (([r21.2.2.1, a1, ((r21.2.2.1.take r21.2.2.1.length).drop 1)] : List (List api_Series)).length : Int))), (139, (i6 (w64 (s1210 + (1 : Int)))))] [(1006, some (.box 24 (.d (e_api_Member a0)))), (1015, some (.box 24 (.d (e_api_Member r21.1)))), (1020, some (.box 27 (.d (e_api_Tariff x907)))), (1028, some (.box 24 (.d (e_api_Member x1208))))] hB) (mp [] _ _ hB))⟩
                      · replace h := ite_f hg1297 h
                        refine AWp.exit ?_
                        refine seqQ_e ?_
                        obtain rfl := Option.some.inj h
                        exact ⟨(fun hc => by cases hc), rfl, (mp [] _ _ hB)⟩
                    · rcases x1338 with _ | _
                      · obtain ⟨rfl, hmat⟩ := hR
                        refine blkQ_r ?_
                        refine blkQ_r ?_
                        refine seqQ_r ?_
                        obtain rfl := Option.some.inj h
                        exact ⟨(fun hc => by cases hc), rfl, (Mat.trans hmat (mp [] _ _ hB))⟩
                      · obtain ⟨rfl, hmat⟩ := hR
                        refine blkQ_hit ?_
                        refine blkQ_n ?_
                        refine seqQ_n ?_
                        refine AWp.ghost hmat ?_
                        refine rg (c (add6 (ltN hN rfl) (q 129) (Opd.int .i64 (1))) rfl (c (mv hN (q 180)) rfl cn)) ?_
                        obtain rfl := Option.some.inj h
                        exact ⟨rfl, (Mat.trans (mp [] [(1, (qe_api_Series_4 a1)), (4, (i6 a4)), (5, (i6 a5)), (6, (.ptr 1006 0 [])), (15, (.ptr 1015 0 [])), (17, (qe_api_Series_4 r21.2.2.1)), (20, (.ptr 1020 0 [])), (80, (qe_api_Tariff_3 ([r21.2.1, a2, (api_Tariff.mk r21.2.1.fBase r21.2.1.fIncluded r22), (api_Tariff.mk (1099511627776 : Int) (0 : Int) (1048576 : Int))] : List api_Tariff))), (81, (i6 (([r21.2.1, a2, (api_Tariff.mk r21.2.1.fBase r21.2.1.fIncluded r22), (api_Tariff.mk (1099511627776 : Int) (0 : Int) (1048576 : Int))] : List api_Tariff).length : Int))), (82, (i6 s23)), (127, (qe_api_Member_6 ([r21.1, a0, (api_Member.mk (101 : Int) ([] : List UInt8) ([] : List UInt8) (0 : Int) (0 : Int) (r21.1.fPorts ++ r21.1.fPorts))] : List api_Member))), (128, (i6 (([r21.1, a0, (api_Member.mk (101 : Int) ([] : List UInt8) ([] : List UInt8) (0 : Int) (0 : Int) (r21.1.fPorts ++ r21.1.fPorts))] : List api_Member).length : Int))), (129, (i6 (w64 (s934 + (1 : Int)))))] [(1006, some (.box 24 (.d (e_api_Member a0)))), (1015, some (.box 24 (.d (e_api_Member r21.1)))), (1020, some (.box 27 (.d (e_api_Tariff x907))))] hB) (mp [] _ _ hB))⟩
                  · replace h := ite_f hg1207 h
                    refine AWp.exit ?_
                    refine seqQ_e ?_
                    obtain rfl := Option.some.inj h
                    exact ⟨(fun hc => by cases hc), rfl, (mp [] _ _ hB)⟩
                · rcases x1340 with _ | _
                  · obtain ⟨rfl, hmat⟩ := hR
                    refine blkQ_r ?_
                    refine blkQ_r ?_
                    refine seqQ_r ?_
                    obtain rfl := Option.some.inj h
                    exact ⟨(fun hc => by cases hc), rfl, (Mat.trans hmat (mp [] _ _ hB))⟩
                  · obtain ⟨rfl, hmat⟩ := hR
                    refine blkQ_hit ?_
                    refine blkQ_n ?_
                    refine seqQ_n ?_
                    refine AWp.ghost hmat ?_
                    refine rg (c (add6 (ltN hN rfl) (q 82) (Opd.int .i64 (1))) rfl (c (mv hN (q 181)) rfl cn)) ?_
                    obtain rfl := Option.some.inj h
                    exact ⟨rfl, (Mat.trans (mp [] [(1, (qe_api_Series_4 a1)), (4, (i6 a4)), (5, (i6 a5)), (6, (.ptr 1006 0 [])), (15, (.ptr 1015 0 [])), (17, (qe_api_Series_4 r21.2.2.1)), (80, (qe_api_Tariff_3 ([r21.2.1, a2, (api_Tariff.mk r21.2.1.fBase r21.2.1.fIncluded r22), (api_Tariff.mk (1099511627776 : Int) (0 : Int) (1048576 : Int))] : List api_Tariff))), (81, (i6 (([r21.2.1, a2, (api_Tariff.mk r21.2.1.fBase r21.2.1.fIncluded r22), (api_Tariff.mk (1099511627776 : Int) (0 : Int) (1048576 : Int))] : List api_Tariff).length : Int))), (82, (i6 (w64 (s23 + (1 : Int)))))] [(1006, some (.box 24 (.d (e_api_Member a0)))), (1015, some (.box 24 (.d (e_api_Member r21.1))))] hB) (mp [] _ _ hB))⟩
          · replace h := ite_f hg906 h
            refine AWp.exit ?_
            refine seqQ_e ?_
            obtain rfl := Option.some.inj h
            exact ⟨(fun hc => by cases hc), rfl, (mp [] _ _ hB)⟩
        · rcases x1342 with _ | _
          · obtain ⟨rfl, hmat⟩ := hR
            refine blkQ_r ?_
            refine seqQ_r ?_
            obtain rfl := Option.some.inj h
            exact ⟨.inl rfl, _, _, (Mat.trans hmat (mp [] [(12, (bo false))] [] hB)), [(bo false)], (Res.tmp (by rfl) (by rfl) Res.nil), rfl, by rfl, by rfl, by rfl⟩
          · obtain ⟨rfl, hmat⟩ := hR
            refine blkQ_hit ?_
            refine seqQ_n ?_
            refine AWp.ghost hmat ?_
            refine AWp.seq ?_
            obtain ⟨r1344, hr1344, h⟩ := bindS h
            refine rg (cg (OpJ.callFn hB fnOk7 (exchangepointlaw41_awake_ac r1344 hr1344) [] (by kernel_rfl) (ltN hN rfl) (by kernel_rfl) OpdL.nil) rfl (c (OpJ.assign (ltN hN rfl) (q 182)) rfl cn)) ?_
            refine seqQ_n ?_
            refine gh [(12, _)] [] hB rfl rfl (by rfl) ?_
            refine AWp.ret ?_
            obtain rfl := Option.some.inj h
            exact ⟨.inl rfl, _, _, (kp [(12, _)] [] hB rfl rfl (by rfl)), [(bo r1344)], (Res.tmp (by rfl) (by rfl) Res.nil), rfl, by rfl, by rfl, by rfl⟩

noncomputable def exchangepointlaw41_InvoicePrices_L0 (r2 : api_Member × api_Tariff × (List api_Series) × exchangepointmill_Deck) (r12 : api_Invoice × Int) (s20 : Int × Int) : Option (((Unit) ⊕ (Int)) ⊕ (Int × Int)) :=
  (if (decide (s20.2 < (r12.1.fLines.length : Int))) = true then
  (idx r12.1.fLines s20.2).bind fun x48 =>
  (invoice_Price r2.2.1 x48.fUsed).bind fun r49 =>
  jn (fun m53 : Bool =>
  (if m53 = true then
  some (.inl (.inl ()))
  else
  some (.inr ((w64 (s20.1 + r49.1)), (w64 (s20.2 + (1 : Int))))))) (fun j54 =>
  (if ((r49.2 != (0 : Int)) || (r49.1 != x48.fAmount)) = true then
  j54 true
  else
  (if (decide ((0 : Int) < s20.2)) = true then
  (idx r12.1.fLines (w64 (s20.2 - (1 : Int)))).bind fun x58 =>
  j54 (decide (x48.fPort ≤ x58.fPort))
  else
  j54 false)))
  else
  some (.inl (.inr s20.1)))
noncomputable def exchangepointlaw41_InvoicePrices (a0 : (List Int)) (a1 : Int) : Option (Bool) :=
  (exchangepointmill_New a0).bind fun r1 =>
  (exchangepointlaw41_bills r1).bind fun r2 =>
  (exchangepointmill_Mod a1 (100000 : Int)).bind fun r3 =>
  (invoice_Price r2.2.1 r3).bind fun r4 =>
  (invoice_Price r2.2.1 (w64 (r3 + (1 : Int)))).bind fun r5 =>
  jn (fun m9 : Bool =>
  (if m9 = true then
  some false
  else
  (invoice_Make r2.1 (9 : Int) r2.2.1 r2.2.2.1).bind fun r12 =>
  (if (r12.2 != (0 : Int)) = true then
  jn (fun m16 : Bool =>
  some m16) (fun j17 =>
  (if (r12.2 == (3 : Int)) = true then
  (exchangepointlaw41_awake).bind fun r19 =>
  j17 r19
  else
  j17 false))
  else
  (loop (exchangepointlaw41_InvoicePrices_L0 r2 r12) ((0 : Int), (0 : Int))).bind fun x59 => match x59 with
  | (.inl _) =>
    some false
  | (.inr p46) =>
    jn (fun m63 : Bool =>
    some m63) (fun j64 =>
    (if (((((p46 == r12.1.fTotal) && ((r12.1.fLines.length : Int) == (r2.1.fPorts.length : Int))) && (r12.1.fVersion == (1 : Int))) && (r12.1.fMonth == (9 : Int))) && (r12.1.fMember == r2.1.fASN)) = true then
    (exchangepointlaw41_awake).bind fun r66 =>
    j64 r66
    else
    j64 false))))) (fun j10 =>
  (if ((r4.2 != (0 : Int)) || (r5.2 != (0 : Int))) = true then
  j10 true
  else
  (if ((decide (r3 ≤ r2.2.1.fIncluded)) && (r4.1 != r2.2.1.fBase)) = true then
  j10 true
  else
  (if ((decide (r3 < r2.2.1.fIncluded)) && (r5.1 != r4.1)) = true then
  j10 true
  else
  j10 ((decide (r2.2.1.fIncluded ≤ r3)) && ((w64 (r5.1 - r4.1)) != r2.2.1.fRate))))))
set_option maxHeartbeats 4000000 in
set_option maxRecDepth 100000 in
theorem exchangepointlaw41_InvoicePrices_ac (a0 : (List Int)) (a1 : Int) (r : Bool) (h : exchangepointlaw41_InvoicePrices a0 a1 = some r) : AC Try.prog 4 [(.d (.list 1 (a0.map (eI .i64)))), (.d (.int .i64 a1))] [] (.d (.bool r)) [] := by
  refine AC.of_code2 Try.func4 rfl rfl (Nat.le_of_ble_eq_true (by rfl)) fun B hB hN => ?_
  delta exchangepointlaw41_InvoicePrices at h
  refine AWp.seq ?_
  refine rg (c (OpJ.assign (ltN hN rfl) (Opd.bool false)) rfl cn) ?_
  refine seqQ_n ?_
  refine gh [(0, _), (1, _)] [] hB rfl rfl (by rfl) ?_
  refine AWp.seq ?_
  obtain ⟨r1, hr1, h⟩ := bindS h
  obtain ⟨r2, hr2, h⟩ := bindS h
  refine AWp.region (oc (mv hN (ot 0 (qI_1 a0)))
  (oc (OpJ.callFn hB fnOk9 (exchangepointmill_New_ac a0 r1 hr1) [(1005, 100000)] (by kernel_rfl) (ltN hN rfl) (by kernel_rfl) (OpdL.cons (ot 21 (qI_1 a0)) OpdL.nil))
  (oc (OpJ.callFn hB fnOk8 (exchangepointlaw41_bills_ac r1 r2 hr2) [(0, 100000)] (by kernel_rfl) (ltN hN rfl) (by kernel_rfl) (OpdL.cons (ot 22 (.ptr 100000 0 [])) OpdL.nil))
  (oc (mv hN (ot 23 (.tup [(.d (e_api_Member r2.1)), (.d (e_api_Tariff r2.2.1)), (qe_api_Series_4 r2.2.2.1)])))
  (oc (OpJ.extract (v := (.d (e_api_Member r2.1))) (by rfl) rfl (ltN hN rfl) (ot 20 (.tup [(.d (e_api_Member r2.1)), (.d (e_api_Tariff r2.2.1)), (qe_api_Series_4 r2.2.2.1)])))
  (oc (OpJ.extract (v := (.d (e_api_Tariff r2.2.1))) (by rfl) rfl (ltN hN rfl) (ot 20 (.tup [(.d (e_api_Member r2.1)), (.d (e_api_Tariff r2.2.1)), (qe_api_Series_4 r2.2.2.1)])))
  (oc (OpJ.extract (v := (qe_api_Series_4 r2.2.2.1)) (by rfl) rfl (ltN hN rfl) (ot 20 (.tup [(.d (e_api_Member r2.1)), (.d (e_api_Tariff r2.2.1)), (qe_api_Series_4 r2.2.2.1)])))
  (oc (OpJ.alloc hB tyZ24 (nm := 1005) (by decide) (ltN hN rfl))
  (oc (OpJ.alloc hB tyZ27 (nm := 1006) (by decide) (ltN hN rfl))
  (oc (OpJ.storeB (bt := 24) (c := (.st [(i6 0), (.d (.str ([] : List UInt8))), (.d (.str ([] : List UInt8))), (i6 0), (i6 0), .nils])) (v := (.d (e_api_Member r2.1))) (c' := (.d (e_api_Member r2.1))) tyS24 (SetAt.here _ _) (by rfl) (by rfl) (by simp) rfl (ot 5 (.ptr 1005 0 [])) (ot 24 (.d (e_api_Member r2.1))))
  (oc (OpJ.storeB (bt := 27) (c := (.d (.st [(.int .i64 0), (.int .i64 0), (.int .i64 0)]))) (v := (.d (e_api_Tariff r2.2.1))) (c' := (.d (e_api_Tariff r2.2.1))) tyS27 (SetAt.here _ _) (by rfl) (by rfl) (by simp) rfl (ot 6 (.ptr 1006 0 [])) (ot 25 (.d (e_api_Tariff r2.2.1))))
  (oc (OpJ.assign (ltN hN rfl) (ot 26 (qe_api_Series_4 r2.2.2.1)))
  (OpJs.nil))))))))))))) (by rfl) (by rfl) ?_
  refine seqQ_n ?_
  refine AWp.ghost (mp [] [(1, (i6 a1)), (5, (.ptr 1005 0 [])), (6, (.ptr 1006 0 [])), (7, (qe_api_Series_4 r2.2.2.1))] [(1005, some (.box 24 (.d (e_api_Member r2.1)))), (1006, some (.box 27 (.d (e_api_Tariff r2.2.1))))] hB) ?_
  refine AWp.seq ?_
  obtain ⟨r3, hr3, h⟩ := bindS h
  refine rg (c (mv hN (q 1)) rfl (cg (OpJ.callFn hB fnOk10 (exchangepointmill_Mod_ac a1 (100000 : Int) r3 hr3) [] (by kernel_rfl) (ltN hN rfl) (by kernel_rfl) (OpdL.cons (q 27) (OpdL.cons (Opd.int .i64 (100000)) OpdL.nil))) rfl (c (OpJ.assign (ltN hN rfl) (q 28)) rfl cn))) ?_
  refine seqQ_n ?_
  refine gh [(5, _), (6, _), (7, _), (8, _)] [(1005, some _), (1006, some _)] hB rfl rfl (by rfl) ?_
  refine AWp.seq ?_
  obtain ⟨r4, hr4, h⟩ := bindS h
  refine rg (c (lb hN 27 _ _ tyS27 (At.here _) (q 6)) rfl (c (mv hN (q 8)) rfl (cg (OpJ.callFn hB fnOk11 (invoice_Price_ac r2.2.1 r3 r4 hr4) [] (by kernel_rfl) (ltN hN rfl) (by kernel_rfl) (OpdL.cons (q 30) (OpdL.cons (q 31) OpdL.nil))) rfl (c (mv hN (q 32)) rfl (c (OpJ.extract (by rfl) rfl (ltN hN rfl) (q 29)) rfl (c (OpJ.extract (by rfl) rfl (ltN hN rfl) (q 29)) rfl (c (OpJ.assign (ltN hN rfl) (q 33)) rfl (c (OpJ.assign (ltN hN rfl) (q 34)) rfl cn)))))))) ?_
  refine seqQ_n ?_
  refine gh [(5, _), (6, _), (7, _), (8, _), (9, _), (10, _)] [(1005, some _), (1006, some _)] hB rfl rfl (by rfl) ?_
  refine AWp.seq ?_
  obtain ⟨r5, hr5, h⟩ := bindS h
  refine rg (c (lb hN 27 _ _ tyS27 (At.here _) (q 6)) rfl (c (mv hN (q 8)) rfl (c (add6 (ltN hN rfl) (q 37) (Opd.int .i64 (1))) rfl (cg (OpJ.callFn hB fnOk11 (invoice_Price_ac r2.2.1 (w64 (r3 + (1 : Int))) r5 hr5) [] (by kernel_rfl) (ltN hN rfl) (by kernel_rfl) (OpdL.cons (q 36) (OpdL.cons (q 38) OpdL.nil))) rfl (c (mv hN (q 39)) rfl (c (OpJ.extract (by rfl) rfl (ltN hN rfl) (q 35)) rfl (c (OpJ.extract (by rfl) rfl (ltN hN rfl) (q 35)) rfl (c (OpJ.assign (ltN hN rfl) (q 40)) rfl (c (OpJ.assign (ltN hN rfl) (q 41)) rfl cn))))))))) ?_
  refine seqQ_n ?_
  refine gh [(5, _), (6, _), (7, _), (8, _), (9, _), (10, _), (11, _), (12, _)] [(1005, some _), (1006, some _)] hB rfl rfl (by rfl) ?_
  refine AWp.seq ?_
  refine AWp.seq ?_
  refine AWp.cut h (fun m9 : Bool => ([(5, (.ptr 1005 0 [])), (6, (.ptr 1006 0 [])), (7, (qe_api_Series_4 r2.2.2.1)), (84, (bo m9))] : EL)) (fun m9 : Bool => ([(1005, some (.box 24 (.d (e_api_Member r2.1)))), (1006, some (.box 27 (.d (e_api_Tariff r2.2.1))))] : OL)) (fun m9 h E' O' hmat => ?_) (fun j10 hjj10 h => ?_)
  · refine seqQ_n ?_
    refine AWp.ghost hmat ?_
    refine AWp.cond rfl (fun hg11 => ?_) (fun hg11 => ?_)
    · replace h := ite_t hg11 h
      refine AWp.seq ?_
      refine rg (c (OpJ.assign (ltN hN rfl) (Opd.bool false)) rfl cn) ?_
      refine seqQ_n ?_
      refine gh [(4, _)] [] hB rfl rfl (by rfl) ?_
      refine AWp.ret ?_
      refine seqQ_r ?_
      obtain rfl := Option.some.inj h
      exact ⟨.inl rfl, _, _, (kp [(4, _)] [] hB rfl rfl (by rfl)), [(bo false)], (Res.tmp (by rfl) (by rfl) Res.nil), rfl, by rfl, by rfl, by rfl⟩
    · replace h := ite_f hg11 h
      refine AWp.skip ?_
      refine seqQ_n ?_
      refine AWp.seq ?_
      obtain ⟨r12, hr12, h⟩ := bindS h
      refine rg (c (lb hN 24 _ _ tyS24 (At.here _) (q 5)) rfl (c (lb hN 27 _ _ tyS27 (At.here _) (q 6)) rfl (c (mv hN (q 7)) rfl (cg (OpJ.callFn hB fnOk13 (invoice_Make_ac r2.1 (9 : Int) r2.2.1 r2.2.2.1 r12 hr12) [] (by kernel_rfl) (ltN hN rfl) (by kernel_rfl) (OpdL.cons (q 86) (OpdL.cons (Opd.int .i64 (9)) (OpdL.cons (q 87) (OpdL.cons (q 88) OpdL.nil))))) rfl (c (mv hN (q 89)) rfl (c (OpJ.extract (by rfl) rfl (ltN hN rfl) (q 85)) rfl (c (OpJ.extract (by rfl) rfl (ltN hN rfl) (q 85)) rfl (cg (OpJ.alloc hB tyZ45 (nm := 1013) (by decide) (ltN hN rfl)) rfl (cg (OpJ.storeB tyS45 (SetAt.here _ _) (by rfl) (by rfl) (by simp) rfl (q 13) (q 90)) rfl (c (OpJ.assign (ltN hN rfl) (q 91)) rfl cn)))))))))) ?_
      refine seqQ_n ?_
      refine gh [(5, _), (6, _), (13, _), (14, _)] [(1005, some _), (1006, some _), (1013, some _)] hB rfl rfl (by rfl) ?_
      refine AWp.seq ?_
      refine AWp.seq ?_
      refine rg (c (mv hN (q 14)) rfl (c (OpJ.neqI (ltN hN rfl) (q 92) (Opd.int .i64 (0))) rfl cn)) ?_
      refine seqQ_n ?_
      refine gh [(5, _), (6, _), (13, _), (14, _), (93, _)] [(1005, some _), (1006, some _), (1013, some _)] hB rfl rfl (by rfl) ?_
      refine AWp.cond rfl (fun hg13 => ?_) (fun hg13 => ?_)
      · replace h := ite_t hg13 h
        refine AWp.seq ?_
        refine AWp.cut h (fun m16 : Bool => ([(4, (bo m16))] : EL)) (fun m16 : Bool => ([] : OL)) (fun m16 h E' O' hmat => ?_) (fun j17 hjj17 h => ?_)
        · refine seqQ_n ?_
          refine AWp.ghost hmat ?_
          refine AWp.ret ?_
          refine seqQ_r ?_
          obtain rfl := Option.some.inj h
          exact ⟨.inl rfl, _, _, (kp [(4, _)] [] hB rfl rfl (by rfl)), [(bo m16)], (Res.tmp (by rfl) (by rfl) Res.nil), rfl, by rfl, by rfl, by rfl⟩
        · rcases Bool.eq_false_or_eq_true (r12.2 == (3 : Int)) with hg18 | hg18
          · replace h := ite_t hg18 h
            obtain ⟨r19, hr19, h⟩ := bindS h
            refine rg (c (mv hN (q 14)) rfl (c (OpJ.eqlI (ltN hN rfl) (q 94) (Opd.int .i64 (3))) rfl (c (OpJ.val (v' := .d (.bool true)) (by rw [hg18]) (mv hN (q 95))) rfl (cg (OpJ.guarded (g := 96) (by rfl) (OpJ.callFn hB fnOk7 (exchangepointlaw41_awake_ac r19 hr19) [] (by kernel_rfl) (ltN hN rfl) (by kernel_rfl) OpdL.nil)) rfl (c (OpJ.pickT (ltN hN rfl) (q 96) (q 97)) rfl (c (OpJ.assign (ltN hN rfl) (q 98)) rfl cn)))))) ?_
            exact hjj17 _ h _ _ (Mat.trans (mp [] [(4, (bo r19))] [] hB) (mp [] _ _ hB))
          · replace h := ite_f hg18 h
            refine rg (c (mv hN (q 14)) rfl (c (OpJ.eqlI (ltN hN rfl) (q 94) (Opd.int .i64 (3))) rfl (c (OpJ.val (v' := .d (.bool false)) (by rw [hg18]) (mv hN (q 95))) rfl (cg (OpJ.skipU (g := 96) (ltN hN rfl) (by rfl)) rfl (c (OpJ.pickF (ltN hN rfl) (q 96) (Opd.bool false)) rfl (c (OpJ.assign (ltN hN rfl) (q 98)) rfl cn)))))) ?_
            exact hjj17 _ h _ _ (Mat.trans (mp [] [(4, (bo false))] [] hB) (mp [] _ _ hB))
      · replace h := ite_f hg13 h
        refine AWp.skip ?_
        refine seqQ_n ?_
        refine AWp.seq ?_
        refine rg (c (OpJ.assign (ltN hN rfl) (Opd.int .i64 (0))) rfl cn) ?_
        refine seqQ_n ?_
        refine gh [(5, _), (6, _), (13, _), (15, _)] [(1005, some _), (1006, some _), (1013, some _)] hB rfl rfl (by rfl) ?_
        refine AWp.seq ?_
        refine AWp.seq ?_
        refine rg (c (ov (.ptr 1013 3 [3]) (fp hN Try.underlying45 3 tyS43 _ (q 13))) rfl (c (lb hN 45 _ _ tyS43 (ad _) (q 99)) rfl (c (OpJ.val (v' := (i6 (r12.1.fLines.length : Int))) (by simp) (OpJ.lenD Try.underlying43 (ltN hN rfl) (q 100))) rfl (c (mv hN (Opd.int .i64 (0))) rfl cn)))) ?_
        refine seqQ_n ?_
        refine gh [(5, _), (6, _), (13, _), (15, _), (100, _), (101, _), (102, _)] [(1005, some _), (1006, some _), (1013, some _)] hB rfl rfl (by rfl) ?_
        refine AWp.block ?_
        obtain ⟨x59, hx60, h⟩ := bindS h
        refine lg (exchangepointlaw41_InvoicePrices_L0 r2 r12) (fun s20 : Int × Int => ([(5, (.ptr 1005 0 [])), (6, (.ptr 1006 0 [])), (13, (.ptr 1013 0 [])), (15, (i6 s20.1)), (100, (qe_api_Line_3 r12.1.fLines)), (101, (i6 (r12.1.fLines.length : Int))), (102, (i6 s20.2))] : EL)) (fun s20 : Int × Int => ([(1005, some (.box 24 (.d (e_api_Member r2.1)))), (1006, some (.box 27 (.d (e_api_Tariff r2.2.1)))), (1013, some (.box 45 (.d (e_api_Invoice r12.1))))] : OL)) (fun (x : (Unit) ⊕ (Int)) e E' O' => match x with | (.inl _p) => e = .ret ∧ Mat B E' O' ([(4, (bo false))] : EL) ([] : OL) | (.inr p46) => e = .exit 0 ∧ Mat B E' O' ([(5, (.ptr 1005 0 [])), (13, (.ptr 1013 0 [])), (15, (i6 p46))] : EL) ([(1005, some (.box 24 (.d (e_api_Member r2.1)))), (1013, some (.box 45 (.d (e_api_Invoice r12.1))))] : OL)) hx60 (mp [] _ _ hB) (fun s20 y h => ?_) (fun e E' O' hR => ?_)
        · unfold exchangepointlaw41_InvoicePrices_L0 at h
          refine AWp.seq ?_
          refine rg (c (OpJ.lss (ltN hN rfl) (q 102) (q 101)) rfl cn) ?_
          refine seqQ_n ?_
          refine gh [(5, _), (6, _), (13, _), (15, _), (100, _), (101, _), (102, _), (103, _)] [(1005, some _), (1006, some _), (1013, some _)] hB rfl rfl (by rfl) ?_
          refine AWp.seq ?_
          refine AWp.cond rfl (fun hg47 => ?_) (fun hg47 => ?_)
          · replace h := ite_t hg47 h
            refine AWp.skip ?_
            refine seqQ_n ?_
            refine AWp.seq ?_
            refine AWp.block ?_
            refine AWp.seq ?_
            obtain ⟨x48, hx48, h⟩ := bindS h
            refine rg (c (mv hN (q 102)) rfl (c (OpJ.indexD Try.underlying43 tyS51 (idx_some hx48).1 (get_map e_api_Line (idx_some hx48).2) (ltN hN rfl) (q 100) (q 102)) rfl (c (OpJ.loadD tyS51 (by rfl) (by rfl) (ltN hN rfl) (q 105)) rfl (cg (OpJ.alloc hB tyZ51 (nm := 1017) (by decide) (ltN hN rfl)) rfl (c (OpJ.assign (ltN hN rfl) (q 104)) rfl (cg (OpJ.storeB tyS51 (SetAt.here _ _) (by rfl) (by rfl) (by simp) rfl (q 17) (q 106)) rfl cn)))))) ?_
            refine seqQ_n ?_
            refine gh [(5, _), (6, _), (13, _), (15, _), (16, _), (17, _), (100, _), (101, _), (102, _)] [(1005, some _), (1006, some _), (1013, some _), (1017, some _)] hB rfl rfl (by rfl) ?_
            refine AWp.seq ?_
            obtain ⟨r49, hr49, h⟩ := bindS h
            refine rg (c (lb hN 27 _ _ tyS27 (At.here _) (q 6)) rfl (c (ov (.ptr 1017 1 [1]) (fp hN Try.underlying51 1 tyS3 _ (q 17))) rfl (c (lb hN 51 _ _ tyS3 (ad _) (q 109)) rfl (cg (OpJ.callFn hB fnOk11 (invoice_Price_ac r2.2.1 x48.fUsed r49 hr49) [] (by kernel_rfl) (ltN hN rfl) (by kernel_rfl) (OpdL.cons (q 108) (OpdL.cons (q 110) OpdL.nil))) rfl (c (mv hN (q 111)) rfl (c (OpJ.extract (by rfl) rfl (ltN hN rfl) (q 107)) rfl (c (OpJ.extract (by rfl) rfl (ltN hN rfl) (q 107)) rfl (c (OpJ.assign (ltN hN rfl) (q 112)) rfl (c (OpJ.assign (ltN hN rfl) (q 113)) rfl cn))))))))) ?_
            refine seqQ_n ?_
            refine gh [(5, _), (6, _), (13, _), (15, _), (16, _), (17, _), (18, _), (19, _), (100, _), (101, _), (102, _)] [(1005, some _), (1006, some _), (1013, some _), (1017, some _)] hB rfl rfl (by rfl) ?_
            refine AWp.seq ?_
            refine AWp.seq ?_
            refine AWp.cut h (fun m53 : Bool => ([(5, (.ptr 1005 0 [])), (6, (.ptr 1006 0 [])), (13, (.ptr 1013 0 [])), (15, (i6 s20.1)), (18, (i6 r49.1)), (100, (qe_api_Line_3 r12.1.fLines)), (101, (i6 (r12.1.fLines.length : Int))), (102, (i6 s20.2)), (137, (bo m53))] : EL)) (fun m53 : Bool => ([(1005, some (.box 24 (.d (e_api_Member r2.1)))), (1006, some (.box 27 (.d (e_api_Tariff r2.2.1)))), (1013, some (.box 45 (.d (e_api_Invoice r12.1))))] : OL)) (fun m53 h E' O' hmat => ?_) (fun j54 hjj54 h => ?_)
            · refine seqQ_n ?_
              refine AWp.ghost hmat ?_
              refine AWp.cond rfl (fun hg55 => ?_) (fun hg55 => ?_)
              · replace h := ite_t hg55 h
                refine AWp.seq ?_
                refine rg (c (OpJ.assign (ltN hN rfl) (Opd.bool false)) rfl cn) ?_
                refine seqQ_n ?_
                refine gh [(4, _)] [] hB rfl rfl (by rfl) ?_
                refine AWp.ret ?_
                refine seqQ_r ?_
                refine blkQ_r ?_
                refine seqQ_r ?_
                obtain rfl := Option.some.inj h
                exact ⟨(fun hc => by cases hc), rfl, (mp [] _ _ hB)⟩
              · replace h := ite_f hg55 h
                refine AWp.skip ?_
                refine seqQ_n ?_
                refine rg (c (mv hN (q 15)) rfl (c (mv hN (q 18)) rfl (c (add6 (ltN hN rfl) (q 138) (q 139)) rfl (c (OpJ.assign (ltN hN rfl) (q 140)) rfl cn)))) ?_
                refine blkQ_n ?_
                refine seqQ_n ?_
                refine gh [(5, _), (6, _), (13, _), (15, _), (100, _), (101, _), (102, _)] [(1005, some _), (1006, some _), (1013, some _)] hB rfl rfl (by rfl) ?_
                refine rg (c (add6 (ltN hN rfl) (q 102) (Opd.int .i64 (1))) rfl (c (mv hN (q 141)) rfl cn)) ?_
                obtain rfl := Option.some.inj h
                exact ⟨rfl, (Mat.trans (mp [] [(5, (.ptr 1005 0 [])), (6, (.ptr 1006 0 [])), (13, (.ptr 1013 0 [])), (15, (i6 (w64 (s20.1 + r49.1)))), (100, (qe_api_Line_3 r12.1.fLines)), (101, (i6 (r12.1.fLines.length : Int))), (102, (i6 (w64 (s20.2 + (1 : Int)))))] [(1005, some (.box 24 (.d (e_api_Member r2.1)))), (1006, some (.box 27 (.d (e_api_Tariff r2.2.1)))), (1013, some (.box 45 (.d (e_api_Invoice r12.1))))] hB) (mp [] _ _ hB))⟩
            · rcases Bool.eq_false_or_eq_true ((r49.2 != (0 : Int)) || (r49.1 != x48.fAmount)) with hg56 | hg56
              · replace h := ite_t hg56 h
                refine dr (c (mv hN (q 19)) rfl (c (OpJ.neqI (ltN hN rfl) (q 114) (Opd.int .i64 (0))) rfl (c (mv hN (q 115)) rfl (c (oq hN 116 (mv hN (q 18)) (OptL.keep (by rfl) OptL.nil) (GuardV.plain _)) rfl (c (oq hN 116 (ov (.ptr 1017 2 [2]) (fp hN Try.underlying51 2 tyS3 _ (q 17))) (OptL.keep (by rfl) OptL.nil) (GuardV.plain _)) rfl (c (oq hN 116 (lb hN 51 _ _ tyS3 (ad _) (q 118)) (OptL.opt OptL.nil) (GuardV.plain _)) rfl (c (oq hN 116 (OpJ.neqI (ltN hN rfl) (q 117) (q 119)) (OptL.opt (OptL.opt OptL.nil)) (GuardV.plain _)) rfl (c (OpJ.pickOr rfl (ltN hN rfl) (q 116) (q 120)) rfl (c (OpJ.val (v' := .d (.bool true)) (by rw [hg56]) (mv hN (q 121))) rfl (cg (OpJ.skipU (g := 122) (ltN hN rfl) (by rfl)) rfl (cg (OpJ.skipU (g := 122) (ltN hN rfl) (by rfl)) rfl (cg (OpJ.skipU (g := 122) (ltN hN rfl) (by rfl)) rfl (cg (OpJ.skipV (g := 125) (ltN hN rfl) (by rfl)) rfl (cg (OpJ.skipV (g := 125) (ltN hN rfl) (by rfl)) rfl (cg (OpJ.skipV (g := 125) (ltN hN rfl) (by rfl)) rfl (cg (OpJ.skipV (g := 125) (ltN hN rfl) (by rfl)) rfl (cg (OpJ.skipV (g := 125) (ltN hN rfl) (by rfl)) rfl (cg (OpJ.skipV (g := 125) (ltN hN rfl) (by rfl)) rfl (cg (OpJ.skipV (g := 125) (ltN hN rfl) (by rfl)) rfl (cg (OpJ.skipV (g := 125) (ltN hN rfl) (by rfl)) rfl (cg (OpJ.skipV (g := 125) (ltN hN rfl) (by rfl)) rfl (cg (OpJ.skipV (g := 125) (ltN hN rfl) (by rfl)) rfl (cg (OpJ.skipU (g := 122) (ltN hN rfl) (by rfl)) rfl (c (OpJ.pickT (ltN hN rfl) (q 122) (Opd.bool true)) rfl cn)))))))))))))))))))))))) (by kernel_rfl) (by kernel_rfl) ?_
                exact hjj54 _ h _ _ (Mat.trans (mp [] [(5, (.ptr 1005 0 [])), (6, (.ptr 1006 0 [])), (13, (.ptr 1013 0 [])), (15, (i6 s20.1)), (18, (i6 r49.1)), (100, (qe_api_Line_3 r12.1.fLines)), (101, (i6 (r12.1.fLines.length : Int))), (102, (i6 s20.2)), (137, (bo true))] [(1005, some (.box 24 (.d (e_api_Member r2.1)))), (1006, some (.box 27 (.d (e_api_Tariff r2.2.1)))), (1013, some (.box 45 (.d (e_api_Invoice r12.1))))] hB) (mp [] _ _ hB))
              · replace h := ite_f hg56 h
                rcases Bool.eq_false_or_eq_true (decide ((0 : Int) < s20.2)) with hg57 | hg57
                · replace h := ite_t hg57 h
                  obtain ⟨x58, hx58, h⟩ := bindS h
                  refine dr (c (mv hN (q 19)) rfl (c (OpJ.neqI (ltN hN rfl) (q 114) (Opd.int .i64 (0))) rfl (c (mv hN (q 115)) rfl (c (oq hN 116 (mv hN (q 18)) (OptL.keep (by rfl) OptL.nil) (GuardV.plain _)) rfl (c (oq hN 116 (ov (.ptr 1017 2 [2]) (fp hN Try.underlying51 2 tyS3 _ (q 17))) (OptL.keep (by rfl) OptL.nil) (GuardV.plain _)) rfl (c (oq hN 116 (lb hN 51 _ _ tyS3 (ad _) (q 118)) (OptL.opt OptL.nil) (GuardV.plain _)) rfl (c (oq hN 116 (OpJ.neqI (ltN hN rfl) (q 117) (q 119)) (OptL.opt (OptL.opt OptL.nil)) (GuardV.plain _)) rfl (c (OpJ.pickOr rfl (ltN hN rfl) (q 116) (q 120)) rfl (c (OpJ.val (v' := .d (.bool false)) (by rw [hg56]) (mv hN (q 121))) rfl (c (OpJ.guarded (g := 122) (by rfl) (mv hN (q 16))) rfl (c (OpJ.guarded (g := 122) (by rfl) (OpJ.gtr (ltN hN rfl) (q 123) (Opd.int .i64 (0)))) rfl (c (OpJ.guarded (g := 122) (by rfl) (OpJ.val (v' := .d (.bool true)) (by rw [hg57]) (mv hN (q 124)))) rfl (c (OpJ.guarded (g := 125) (by rfl) (ov (.ptr 1013 3 [3]) (fp hN Try.underlying45 3 tyS43 _ (q 13)))) rfl (c (OpJ.guarded (g := 125) (by rfl) (lb hN 45 _ _ tyS43 (ad _) (q 126))) rfl (c (OpJ.guarded (g := 125) (by rfl) (mv hN (q 16))) rfl (c (OpJ.guarded (g := 125) (by rfl) (sub6 (ltN hN rfl) (q 128) (Opd.int .i64 (1)))) rfl (c (OpJ.guarded (g := 125) (by rfl) (OpJ.indexD Try.underlying43 tyS51 (idx_some hx58).1 (get_map e_api_Line (idx_some hx58).2) (ltN hN rfl) (q 127) (q 129))) rfl (c (OpJ.guarded (g := 125) (by rfl) (OpJ.fieldD Try.underlying51 (by rfl) (o := 0) (by rfl) tyS3 (by decide) (by rfl) (by rfl) (ltN hN rfl) (q 130))) rfl (c (OpJ.guarded (g := 125) (by rfl) (OpJ.loadD tyS3 (by rfl) (by rfl) (ltN hN rfl) (q 131))) rfl (c (OpJ.guarded (g := 125) (by rfl) (ov (.ptr 1017 0 [0]) (fp hN Try.underlying51 0 tyS3 _ (q 17)))) rfl (c (OpJ.guarded (g := 125) (by rfl) (lb hN 51 _ _ tyS3 (ad _) (q 133))) rfl (c (OpJ.guarded (g := 125) (by rfl) (OpJ.geq (ltN hN rfl) (q 132) (q 134))) rfl (c (OpJ.guarded (g := 122) (by rfl) (OpJ.pickT (ltN hN rfl) (q 125) (q 135))) rfl (c (OpJ.pickF (ltN hN rfl) (q 122) (q 136)) rfl cn)))))))))))))))))))))))) (by kernel_rfl) (by kernel_rfl) ?_
                  exact hjj54 _ h _ _ (Mat.trans (mp [] [(5, (.ptr 1005 0 [])), (6, (.ptr 1006 0 [])), (13, (.ptr 1013 0 [])), (15, (i6 s20.1)), (18, (i6 r49.1)), (100, (qe_api_Line_3 r12.1.fLines)), (101, (i6 (r12.1.fLines.length : Int))), (102, (i6 s20.2)), (137, (bo (decide (x48.fPort ≤ x58.fPort))))] [(1005, some (.box 24 (.d (e_api_Member r2.1)))), (1006, some (.box 27 (.d (e_api_Tariff r2.2.1)))), (1013, some (.box 45 (.d (e_api_Invoice r12.1))))] hB) (mp [] _ _ hB))
                · replace h := ite_f hg57 h
                  refine dr (c (mv hN (q 19)) rfl (c (OpJ.neqI (ltN hN rfl) (q 114) (Opd.int .i64 (0))) rfl (c (mv hN (q 115)) rfl (c (oq hN 116 (mv hN (q 18)) (OptL.keep (by rfl) OptL.nil) (GuardV.plain _)) rfl (c (oq hN 116 (ov (.ptr 1017 2 [2]) (fp hN Try.underlying51 2 tyS3 _ (q 17))) (OptL.keep (by rfl) OptL.nil) (GuardV.plain _)) rfl (c (oq hN 116 (lb hN 51 _ _ tyS3 (ad _) (q 118)) (OptL.opt OptL.nil) (GuardV.plain _)) rfl (c (oq hN 116 (OpJ.neqI (ltN hN rfl) (q 117) (q 119)) (OptL.opt (OptL.opt OptL.nil)) (GuardV.plain _)) rfl (c (OpJ.pickOr rfl (ltN hN rfl) (q 116) (q 120)) rfl (c (OpJ.val (v' := .d (.bool false)) (by rw [hg56]) (mv hN (q 121))) rfl (c (OpJ.guarded (g := 122) (by rfl) (mv hN (q 16))) rfl (c (OpJ.guarded (g := 122) (by rfl) (OpJ.gtr (ltN hN rfl) (q 123) (Opd.int .i64 (0)))) rfl (c (OpJ.guarded (g := 122) (by rfl) (OpJ.val (v' := .d (.bool false)) (by rw [hg57]) (mv hN (q 124)))) rfl (cg (OpJ.skipU (g := 125) (ltN hN rfl) (by rfl)) rfl (cg (OpJ.skipU (g := 125) (ltN hN rfl) (by rfl)) rfl (cg (OpJ.skipU (g := 125) (ltN hN rfl) (by rfl)) rfl (cg (OpJ.skipU (g := 125) (ltN hN rfl) (by rfl)) rfl (cg (OpJ.skipU (g := 125) (ltN hN rfl) (by rfl)) rfl (cg (OpJ.skipU (g := 125) (ltN hN rfl) (by rfl)) rfl (cg (OpJ.skipU (g := 125) (ltN hN rfl) (by rfl)) rfl (cg (OpJ.skipU (g := 125) (ltN hN rfl) (by rfl)) rfl (cg (OpJ.skipU (g := 125) (ltN hN rfl) (by rfl)) rfl (cg (OpJ.skipU (g := 125) (ltN hN rfl) (by rfl)) rfl (c (OpJ.guarded (g := 122) (by rfl) (OpJ.pickF (ltN hN rfl) (q 125) (Opd.bool false))) rfl (c (OpJ.pickF (ltN hN rfl) (q 122) (q 136)) rfl cn)))))))))))))))))))))))) (by kernel_rfl) (by kernel_rfl) ?_
                  exact hjj54 _ h _ _ (Mat.trans (mp [] [(5, (.ptr 1005 0 [])), (6, (.ptr 1006 0 [])), (13, (.ptr 1013 0 [])), (15, (i6 s20.1)), (18, (i6 r49.1)), (100, (qe_api_Line_3 r12.1.fLines)), (101, (i6 (r12.1.fLines.length : Int))), (102, (i6 s20.2)), (137, (bo false))] [(1005, some (.box 24 (.d (e_api_Member r2.1)))), (1006, some (.box 27 (.d (e_api_Tariff r2.2.1)))), (1013, some (.box 45 (.d (e_api_Invoice r12.1))))] hB) (mp [] _ _ hB))
          · replace h := ite_f hg47 h
            refine AWp.exit ?_
            refine seqQ_e ?_
            obtain rfl := Option.some.inj h
            exact ⟨(fun hc => by cases hc), rfl, (mp [] _ _ hB)⟩
        · rcases x59 with _ | p46
          · obtain ⟨rfl, hmat⟩ := hR
            refine blkQ_r ?_
            refine seqQ_r ?_
            obtain rfl := Option.some.inj h
            exact ⟨.inl rfl, _, _, (Mat.trans hmat (mp [] [(4, (bo false))] [] hB)), [(bo false)], (Res.tmp (by rfl) (by rfl) Res.nil), rfl, by rfl, by rfl, by rfl⟩
          · obtain ⟨rfl, hmat⟩ := hR
            refine blkQ_hit ?_
            refine seqQ_n ?_
            refine AWp.ghost hmat ?_
            refine AWp.seq ?_
            refine AWp.cut h (fun m63 : Bool => ([(4, (bo m63))] : EL)) (fun m63 : Bool => ([] : OL)) (fun m63 h E' O' hmat => ?_) (fun j64 hjj64 h => ?_)
            · refine seqQ_n ?_
              refine AWp.ghost hmat ?_
              refine AWp.ret ?_
              obtain rfl := Option.some.inj h
              exact ⟨.inl rfl, _, _, (kp [(4, _)] [] hB rfl rfl (by rfl)), [(bo m63)], (Res.tmp (by rfl) (by rfl) Res.nil), rfl, by rfl, by rfl, by rfl⟩
            · rcases Bool.eq_false_or_eq_true (((((p46 == r12.1.fTotal) && ((r12.1.fLines.length : Int) == (r2.1.fPorts.length : Int))) && (r12.1.fVersion == (1 : Int))) && (r12.1.fMonth == (9 : Int))) && (r12.1.fMember == r2.1.fASN)) with hg65 | hg65
              · replace h := ite_t hg65 h
                obtain ⟨r66, hr66, h⟩ := bindS h
                refine rg (c (mv hN (q 15)) rfl (c (ov (.ptr 1013 4 [4]) (fp hN Try.underlying45 4 tyS3 _ (q 13))) rfl (c (lb hN 45 _ _ tyS3 (ad _) (q 143)) rfl (c (OpJ.eqlI (ltN hN rfl) (q 142) (q 144)) rfl (c (mv hN (q 145)) rfl (c (oq hN 146 (ov (.ptr 1013 3 [3]) (fp hN Try.underlying45 3 tyS43 _ (q 13))) (OptL.keep (by rfl) OptL.nil) (GuardV.plain _)) rfl (c (oq hN 146 (lb hN 45 _ _ tyS43 (ad _) (q 147)) (OptL.opt OptL.nil) (GuardV.plain _)) rfl (c (oq hN 146 (OpJ.val (v' := (i6 (r12.1.fLines.length : Int))) (by simp) (OpJ.lenD Try.underlying43 (ltN hN rfl) (q 148))) (OptL.opt OptL.nil) (GuardV.plain _)) rfl (c (oq hN 146 (ov (.ptr 1005 5 [5]) (fp hN Try.underlying24 5 tyS22 _ (q 5))) (OptL.keep (by rfl) OptL.nil) (GuardV.plain _)) rfl (c (oq hN 146 (lb hN 24 _ _ tyS22 (ad _) (q 150)) (OptL.opt OptL.nil) (GuardV.plain _)) rfl (c (oq hN 146 (OpJ.val (v' := (i6 (r2.1.fPorts.length : Int))) (by simp) (OpJ.lenD Try.underlying22 (ltN hN rfl) (q 151))) (OptL.opt OptL.nil) (GuardV.plain _)) rfl (c (oq hN 146 (OpJ.eqlI (ltN hN rfl) (q 149) (q 152)) (OptL.opt (OptL.opt OptL.nil)) (GuardV.plain _)) rfl (c (OpJ.pickAnd rfl (ltN hN rfl) (q 146) (q 153)) rfl (c (mv hN (q 154)) rfl (c (oq hN 155 (ov (.ptr 1013 2 [2]) (fp hN Try.underlying45 2 tyS3 _ (q 13))) (OptL.keep (by rfl) OptL.nil) (GuardV.plain _)) rfl (c (oq hN 155 (lb hN 45 _ _ tyS3 (ad _) (q 156)) (OptL.opt OptL.nil) (GuardV.plain _)) rfl (c (oq hN 155 (OpJ.eqlI (ltN hN rfl) (q 157) (Opd.int .i64 (1))) (OptL.opt OptL.nil) (GuardV.plain _)) rfl (c (OpJ.pickAnd rfl (ltN hN rfl) (q 155) (q 158)) rfl (c (mv hN (q 159)) rfl (c (oq hN 160 (ov (.ptr 1013 1 [1]) (fp hN Try.underlying45 1 tyS3 _ (q 13))) (OptL.keep (by rfl) OptL.nil) (GuardV.plain _)) rfl (c (oq hN 160 (lb hN 45 _ _ tyS3 (ad _) (q 161)) (OptL.opt OptL.nil) (GuardV.plain _)) rfl (c (oq hN 160 (OpJ.eqlI (ltN hN rfl) (q 162) (Opd.int .i64 (9))) (OptL.opt OptL.nil) (GuardV.plain _)) rfl (c (OpJ.pickAnd rfl (ltN hN rfl) (q 160) (q 163)) rfl (c (mv hN (q 164)) rfl (c (oq hN 165 (ov (.ptr 1013 0 [0]) (fp hN Try.underlying45 0 tyS3 _ (q 13))) (OptL.keep (by rfl) OptL.nil) (GuardV.plain _)) rfl (c (oq hN 165 (lb hN 45 _ _ tyS3 (ad _) (q 166)) (OptL.opt OptL.nil) (GuardV.plain _)) rfl (c (oq hN 165 (ov (.ptr 1005 0 [0]) (fp hN Try.underlying24 0 tyS3 _ (q 5))) (OptL.keep (by rfl) OptL.nil) (GuardV.plain _)) rfl (c (oq hN 165 (lb hN 24 _ _ tyS3 (ad _) (q 168)) (OptL.opt OptL.nil) (GuardV.plain _)) rfl (c (oq hN 165 (OpJ.eqlI (ltN hN rfl) (q 167) (q 169)) (OptL.opt (OptL.opt OptL.nil)) (GuardV.plain _)) rfl (c (OpJ.pickAnd rfl (ltN hN rfl) (q 165) (q 170)) rfl (c (OpJ.val (v' := .d (.bool true)) (by rw [hg65]) (mv hN (q 171))) rfl (cg (OpJ.guarded (g := 172) (by rfl) (OpJ.callFn hB fnOk7 (exchangepointlaw41_awake_ac r66 hr66) [] (by kernel_rfl) (ltN hN rfl) (by kernel_rfl) OpdL.nil)) rfl (c (OpJ.pickT (ltN hN rfl) (q 172) (q 173)) rfl (c (OpJ.assign (ltN hN rfl) (q 174)) rfl cn)))))))))))))))))))))))))))))))))) ?_
                exact hjj64 _ h _ _ (Mat.trans (mp [] [(4, (bo r66))] [] hB) (mp [] _ _ hB))
              · replace h := ite_f hg65 h
                refine rg (c (mv hN (q 15)) rfl (c (ov (.ptr 1013 4 [4]) (fp hN Try.underlying45 4 tyS3 _ (q 13))) rfl (c (lb hN 45 _ _ tyS3 (ad _) (q 143)) rfl (c (OpJ.eqlI (ltN hN rfl) (q 142) (q 144)) rfl (c (mv hN (q 145)) rfl (c (oq hN 146 (ov (.ptr 1013 3 [3]) (fp hN Try.underlying45 3 tyS43 _ (q 13))) (OptL.keep (by rfl) OptL.nil) (GuardV.plain _)) rfl (c (oq hN 146 (lb hN 45 _ _ tyS43 (ad _) (q 147)) (OptL.opt OptL.nil) (GuardV.plain _)) rfl (c (oq hN 146 (OpJ.val (v' := (i6 (r12.1.fLines.length : Int))) (by simp) (OpJ.lenD Try.underlying43 (ltN hN rfl) (q 148))) (OptL.opt OptL.nil) (GuardV.plain _)) rfl (c (oq hN 146 (ov (.ptr 1005 5 [5]) (fp hN Try.underlying24 5 tyS22 _ (q 5))) (OptL.keep (by rfl) OptL.nil) (GuardV.plain _)) rfl (c (oq hN 146 (lb hN 24 _ _ tyS22 (ad _) (q 150)) (OptL.opt OptL.nil) (GuardV.plain _)) rfl (c (oq hN 146 (OpJ.val (v' := (i6 (r2.1.fPorts.length : Int))) (by simp) (OpJ.lenD Try.underlying22 (ltN hN rfl) (q 151))) (OptL.opt OptL.nil) (GuardV.plain _)) rfl (c (oq hN 146 (OpJ.eqlI (ltN hN rfl) (q 149) (q 152)) (OptL.opt (OptL.opt OptL.nil)) (GuardV.plain _)) rfl (c (OpJ.pickAnd rfl (ltN hN rfl) (q 146) (q 153)) rfl (c (mv hN (q 154)) rfl (c (oq hN 155 (ov (.ptr 1013 2 [2]) (fp hN Try.underlying45 2 tyS3 _ (q 13))) (OptL.keep (by rfl) OptL.nil) (GuardV.plain _)) rfl (c (oq hN 155 (lb hN 45 _ _ tyS3 (ad _) (q 156)) (OptL.opt OptL.nil) (GuardV.plain _)) rfl (c (oq hN 155 (OpJ.eqlI (ltN hN rfl) (q 157) (Opd.int .i64 (1))) (OptL.opt OptL.nil) (GuardV.plain _)) rfl (c (OpJ.pickAnd rfl (ltN hN rfl) (q 155) (q 158)) rfl (c (mv hN (q 159)) rfl (c (oq hN 160 (ov (.ptr 1013 1 [1]) (fp hN Try.underlying45 1 tyS3 _ (q 13))) (OptL.keep (by rfl) OptL.nil) (GuardV.plain _)) rfl (c (oq hN 160 (lb hN 45 _ _ tyS3 (ad _) (q 161)) (OptL.opt OptL.nil) (GuardV.plain _)) rfl (c (oq hN 160 (OpJ.eqlI (ltN hN rfl) (q 162) (Opd.int .i64 (9))) (OptL.opt OptL.nil) (GuardV.plain _)) rfl (c (OpJ.pickAnd rfl (ltN hN rfl) (q 160) (q 163)) rfl (c (mv hN (q 164)) rfl (c (oq hN 165 (ov (.ptr 1013 0 [0]) (fp hN Try.underlying45 0 tyS3 _ (q 13))) (OptL.keep (by rfl) OptL.nil) (GuardV.plain _)) rfl (c (oq hN 165 (lb hN 45 _ _ tyS3 (ad _) (q 166)) (OptL.opt OptL.nil) (GuardV.plain _)) rfl (c (oq hN 165 (ov (.ptr 1005 0 [0]) (fp hN Try.underlying24 0 tyS3 _ (q 5))) (OptL.keep (by rfl) OptL.nil) (GuardV.plain _)) rfl (c (oq hN 165 (lb hN 24 _ _ tyS3 (ad _) (q 168)) (OptL.opt OptL.nil) (GuardV.plain _)) rfl (c (oq hN 165 (OpJ.eqlI (ltN hN rfl) (q 167) (q 169)) (OptL.opt (OptL.opt OptL.nil)) (GuardV.plain _)) rfl (c (OpJ.pickAnd rfl (ltN hN rfl) (q 165) (q 170)) rfl (c (OpJ.val (v' := .d (.bool false)) (by rw [hg65]) (mv hN (q 171))) rfl (cg (OpJ.skipU (g := 172) (ltN hN rfl) (by rfl)) rfl (c (OpJ.pickF (ltN hN rfl) (q 172) (Opd.bool false)) rfl (c (OpJ.assign (ltN hN rfl) (q 174)) rfl cn)))))))))))))))))))))))))))))))))) ?_
                exact hjj64 _ h _ _ (Mat.trans (mp [] [(4, (bo false))] [] hB) (mp [] _ _ hB))
  · rcases Bool.eq_false_or_eq_true ((r4.2 != (0 : Int)) || (r5.2 != (0 : Int))) with hg67 | hg67
    · replace h := ite_t hg67 h
      refine rg (c (mv hN (q 10)) rfl (c (OpJ.neqI (ltN hN rfl) (q 42) (Opd.int .i64 (0))) rfl (c (mv hN (q 43)) rfl (c (oq hN 44 (mv hN (q 12)) (OptL.keep (by rfl) OptL.nil) (GuardV.plain _)) rfl (c (oq hN 44 (OpJ.neqI (ltN hN rfl) (q 45) (Opd.int .i64 (0))) (OptL.opt OptL.nil) (GuardV.plain _)) rfl (c (OpJ.pickOr rfl (ltN hN rfl) (q 44) (q 46)) rfl (c (OpJ.val (v' := .d (.bool true)) (by rw [hg67]) (mv hN (q 47))) rfl (cg (OpJ.skipU (g := 48) (ltN hN rfl) (by rfl)) rfl (cg (OpJ.skipU (g := 48) (ltN hN rfl) (by rfl)) rfl (cg (OpJ.skipU (g := 48) (ltN hN rfl) (by rfl)) rfl (cg (OpJ.skipU (g := 48) (ltN hN rfl) (by rfl)) rfl (cg (OpJ.skipU (g := 48) (ltN hN rfl) (by rfl)) rfl (cg (OpJ.skipV (g := 53) (ltN hN rfl) (by rfl)) rfl (cg (OpJ.skipV (g := 53) (ltN hN rfl) (by rfl)) rfl (cg (OpJ.skipV (g := 53) (ltN hN rfl) (by rfl)) rfl (cg (OpJ.skipV (g := 53) (ltN hN rfl) (by rfl)) rfl (cg (OpJ.skipU (g := 48) (ltN hN rfl) (by rfl)) rfl (c (OpJ.pickT (ltN hN rfl) (q 48) (Opd.bool true)) rfl (c (mv hN (q 59)) rfl (cg (OpJ.skipU (g := 60) (ltN hN rfl) (by rfl)) rfl (cg (OpJ.skipU (g := 60) (ltN hN rfl) (by rfl)) rfl (cg (OpJ.skipU (g := 60) (ltN hN rfl) (by rfl)) rfl (cg (OpJ.skipU (g := 60) (ltN hN rfl) (by rfl)) rfl (cg (OpJ.skipU (g := 60) (ltN hN rfl) (by rfl)) rfl (cg (OpJ.skipV (g := 65) (ltN hN rfl) (by rfl)) rfl (cg (OpJ.skipV (g := 65) (ltN hN rfl) (by rfl)) rfl (cg (OpJ.skipV (g := 65) (ltN hN rfl) (by rfl)) rfl (cg (OpJ.skipU (g := 60) (ltN hN rfl) (by rfl)) rfl (c (OpJ.pickT (ltN hN rfl) (q 60) (Opd.bool true)) rfl (c (mv hN (q 70)) rfl (cg (OpJ.skipU (g := 71) (ltN hN rfl) (by rfl)) rfl (cg (OpJ.skipU (g := 71) (ltN hN rfl) (by rfl)) rfl (cg (OpJ.skipU (g := 71) (ltN hN rfl) (by rfl)) rfl (cg (OpJ.skipU (g := 71) (ltN hN rfl) (by rfl)) rfl (cg (OpJ.skipU (g := 71) (ltN hN rfl) (by rfl)) rfl (cg (OpJ.skipV (g := 76) (ltN hN rfl) (by rfl)) rfl (cg (OpJ.skipV (g := 76) (ltN hN rfl) (by rfl)) rfl (cg (OpJ.skipV (g := 76) (ltN hN rfl) (by rfl)) rfl (cg (OpJ.skipV (g := 76) (ltN hN rfl) (by rfl)) rfl (cg (OpJ.skipV (g := 76) (ltN hN rfl) (by rfl)) rfl (cg (OpJ.skipV (g := 76) (ltN hN rfl) (by rfl)) rfl (cg (OpJ.skipU (g := 71) (ltN hN rfl) (by rfl)) rfl (c (OpJ.pickT (ltN hN rfl) (q 71) (Opd.bool true)) rfl cn))))))))))))))))))))))))))))))))))))))))))) ?_
      exact hjj10 _ h _ _ (Mat.trans (mp [] [(5, (.ptr 1005 0 [])), (6, (.ptr 1006 0 [])), (7, (qe_api_Series_4 r2.2.2.1)), (84, (bo true))] [(1005, some (.box 24 (.d (e_api_Member r2.1)))), (1006, some (.box 27 (.d (e_api_Tariff r2.2.1))))] hB) (mp [] _ _ hB))
    · replace h := ite_f hg67 h
      rcases Bool.eq_false_or_eq_true ((decide (r3 ≤ r2.2.1.fIncluded)) && (r4.1 != r2.2.1.fBase)) with hg68 | hg68
      · replace h := ite_t hg68 h
        refine rg (c (mv hN (q 10)) rfl (c (OpJ.neqI (ltN hN rfl) (q 42) (Opd.int .i64 (0))) rfl (c (mv hN (q 43)) rfl (c (oq hN 44 (mv hN (q 12)) (OptL.keep (by rfl) OptL.nil) (GuardV.plain _)) rfl (c (oq hN 44 (OpJ.neqI (ltN hN rfl) (q 45) (Opd.int .i64 (0))) (OptL.opt OptL.nil) (GuardV.plain _)) rfl (c (OpJ.pickOr rfl (ltN hN rfl) (q 44) (q 46)) rfl (c (OpJ.val (v' := .d (.bool false)) (by rw [hg67]) (mv hN (q 47))) rfl (c (OpJ.guarded (g := 48) (by rfl) (mv hN (q 8))) rfl (c (OpJ.guarded (g := 48) (by rfl) (ov (.ptr 1006 1 [1]) (fp hN Try.underlying27 1 tyS3 _ (q 6)))) rfl (c (OpJ.guarded (g := 48) (by rfl) (lb hN 27 _ _ tyS3 (ad _) (q 50))) rfl (c (OpJ.guarded (g := 48) (by rfl) (OpJ.leq (ltN hN rfl) (q 49) (q 51))) rfl (c (OpJ.guarded (g := 48) (by rfl) (mv hN (q 52))) rfl (c (oq hN 53 (mv hN (q 9)) (OptL.keep (by rfl) OptL.nil) (GuardV.plain _)) rfl (c (oq hN 53 (ov (.ptr 1006 0 [0]) (fp hN Try.underlying27 0 tyS3 _ (q 6))) (OptL.keep (by rfl) OptL.nil) (GuardV.plain _)) rfl (c (oq hN 53 (lb hN 27 _ _ tyS3 (ad _) (q 55)) (OptL.opt OptL.nil) (GuardV.plain _)) rfl (c (oq hN 53 (OpJ.neqI (ltN hN rfl) (q 54) (q 56)) (OptL.opt (OptL.opt OptL.nil)) (GuardV.plain _)) rfl (c (OpJ.guarded (g := 48) (by rfl) (OpJ.pickAnd rfl (ltN hN rfl) (q 53) (q 57))) rfl (c (OpJ.pickF (ltN hN rfl) (q 48) (q 58)) rfl (c (OpJ.val (v' := .d (.bool true)) (by rw [hg68]) (mv hN (q 59))) rfl (cg (OpJ.skipU (g := 60) (ltN hN rfl) (by rfl)) rfl (cg (OpJ.skipU (g := 60) (ltN hN rfl) (by rfl)) rfl (cg (OpJ.skipU (g := 60) (ltN hN rfl) (by rfl)) rfl (cg (OpJ.skipU (g := 60) (ltN hN rfl) (by rfl)) rfl (cg (OpJ.skipU (g := 60) (ltN hN rfl) (by rfl)) rfl (cg (OpJ.skipV (g := 65) (ltN hN rfl) (by rfl)) rfl (cg (OpJ.skipV (g := 65) (ltN hN rfl) (by rfl)) rfl (cg (OpJ.skipV (g := 65) (ltN hN rfl) (by rfl)) rfl (cg (OpJ.skipU (g := 60) (ltN hN rfl) (by rfl)) rfl (c (OpJ.pickT (ltN hN rfl) (q 60) (Opd.bool true)) rfl (c (mv hN (q 70)) rfl (cg (OpJ.skipU (g := 71) (ltN hN rfl) (by rfl)) rfl (cg (OpJ.skipU (g := 71) (ltN hN rfl) (by rfl)) rfl (cg (OpJ.skipU (g := 71) (ltN hN rfl) (by rfl)) rfl (cg (OpJ.skipU (g := 71) (ltN hN rfl) (by rfl)) rfl (cg (OpJ.skipU (g := 71) (ltN hN rfl) (by rfl)) rfl (cg (OpJ.skipV (g := 76) (ltN hN rfl) (by rfl)) rfl (cg (OpJ.skipV (g := 76) (ltN hN rfl) (by rfl)) rfl (cg (OpJ.skipV (g := 76) (ltN hN rfl) (by rfl)) rfl (cg (OpJ.skipV (g := 76) (ltN hN rfl) (by rfl)) rfl (cg (OpJ.skipV (g := 76) (ltN hN rfl) (by rfl)) rfl (cg (OpJ.skipV (g := 76) (ltN hN rfl) (by rfl)) rfl (cg (OpJ.skipU (g := 71) (ltN hN rfl) (by rfl)) rfl (c (OpJ.pickT (ltN hN rfl) (q 71) (Opd.bool true)) rfl cn))))))))))))))))))))))))))))))))))))))))))) ?_
        exact hjj10 _ h _ _ (Mat.trans (mp [] [(5, (.ptr 1005 0 [])), (6, (.ptr 1006 0 [])), (7, (qe_api_Series_4 r2.2.2.1)), (84, (bo true))] [(1005, some (.box 24 (.d (e_api_Member r2.1)))), (1006, some (.box 27 (.d (e_api_Tariff r2.2.1))))] hB) (mp [] _ _ hB))
      · replace h := ite_f hg68 h
        rcases Bool.eq_false_or_eq_true ((decide (r3 < r2.2.1.fIncluded)) && (r5.1 != r4.1)) with hg69 | hg69
        · replace h := ite_t hg69 h
          refine rg (c (mv hN (q 10)) rfl (c (OpJ.neqI (ltN hN rfl) (q 42) (Opd.int .i64 (0))) rfl (c (mv hN (q 43)) rfl (c (oq hN 44 (mv hN (q 12)) (OptL.keep (by rfl) OptL.nil) (GuardV.plain _)) rfl (c (oq hN 44 (OpJ.neqI (ltN hN rfl) (q 45) (Opd.int .i64 (0))) (OptL.opt OptL.nil) (GuardV.plain _)) rfl (c (OpJ.pickOr rfl (ltN hN rfl) (q 44) (q 46)) rfl (c (OpJ.val (v' := .d (.bool false)) (by rw [hg67]) (mv hN (q 47))) rfl (c (OpJ.guarded (g := 48) (by rfl) (mv hN (q 8))) rfl (c (OpJ.guarded (g := 48) (by rfl) (ov (.ptr 1006 1 [1]) (fp hN Try.underlying27 1 tyS3 _ (q 6)))) rfl (c (OpJ.guarded (g := 48) (by rfl) (lb hN 27 _ _ tyS3 (ad _) (q 50))) rfl (c (OpJ.guarded (g := 48) (by rfl) (OpJ.leq (ltN hN rfl) (q 49) (q 51))) rfl (c (OpJ.guarded (g := 48) (by rfl) (mv hN (q 52))) rfl (c (oq hN 53 (mv hN (q 9)) (OptL.keep (by rfl) OptL.nil) (GuardV.plain _)) rfl (c (oq hN 53 (ov (.ptr 1006 0 [0]) (fp hN Try.underlying27 0 tyS3 _ (q 6))) (OptL.keep (by rfl) OptL.nil) (GuardV.plain _)) rfl (c (oq hN 53 (lb hN 27 _ _ tyS3 (ad _) (q 55)) (OptL.opt OptL.nil) (GuardV.plain _)) rfl (c (oq hN 53 (OpJ.neqI (ltN hN rfl) (q 54) (q 56)) (OptL.opt (OptL.opt OptL.nil)) (GuardV.plain _)) rfl (c (OpJ.guarded (g := 48) (by rfl) (OpJ.pickAnd rfl (ltN hN rfl) (q 53) (q 57))) rfl (c (OpJ.pickF (ltN hN rfl) (q 48) (q 58)) rfl (c (OpJ.val (v' := .d (.bool false)) (by rw [hg68]) (mv hN (q 59))) rfl (c (OpJ.guarded (g := 60) (by rfl) (mv hN (q 8))) rfl (c (OpJ.guarded (g := 60) (by rfl) (ov (.ptr 1006 1 [1]) (fp hN Try.underlying27 1 tyS3 _ (q 6)))) rfl (c (OpJ.guarded (g := 60) (by rfl) (lb hN 27 _ _ tyS3 (ad _) (q 62))) rfl (c (OpJ.guarded (g := 60) (by rfl) (OpJ.lss (ltN hN rfl) (q 61) (q 63))) rfl (c (OpJ.guarded (g := 60) (by rfl) (mv hN (q 64))) rfl (c (oq hN 65 (mv hN (q 11)) (OptL.keep (by rfl) OptL.nil) (GuardV.plain _)) rfl (c (oq hN 65 (mv hN (q 9)) (OptL.keep (by rfl) OptL.nil) (GuardV.plain _)) rfl (c (oq hN 65 (OpJ.neqI (ltN hN rfl) (q 66) (q 67)) (OptL.opt (OptL.opt OptL.nil)) (GuardV.plain _)) rfl (c (OpJ.guarded (g := 60) (by rfl) (OpJ.pickAnd rfl (ltN hN rfl) (q 65) (q 68))) rfl (c (OpJ.pickF (ltN hN rfl) (q 60) (q 69)) rfl (c (OpJ.val (v' := .d (.bool true)) (by rw [hg69]) (mv hN (q 70))) rfl (cg (OpJ.skipU (g := 71) (ltN hN rfl) (by rfl)) rfl (cg (OpJ.skipU (g := 71) (ltN hN rfl) (by rfl)) rfl (cg (OpJ.skipU (g := 71) (ltN hN rfl) (by rfl)) rfl (cg (OpJ.skipU (g := 71) (ltN hN rfl) (by rfl)) rfl (cg (OpJ.skipU (g := 71) (ltN hN rfl) (by rfl)) rfl (cg (OpJ.skipV (g := 76) (ltN hN rfl) (by rfl)) rfl (cg (OpJ.skipV (g := 76) (ltN hN rfl) (by rfl)) rfl (cg (OpJ.skipV (g := 76) (ltN hN rfl) (by rfl)) rfl (cg (OpJ.skipV (g := 76) (ltN hN rfl) (by rfl)) rfl (cg (OpJ.skipV (g := 76) (ltN hN rfl) (by rfl)) rfl (cg (OpJ.skipV (g := 76) (ltN hN rfl) (by rfl)) rfl (cg (OpJ.skipU (g := 71) (ltN hN rfl) (by rfl)) rfl (c (OpJ.pickT (ltN hN rfl) (q 71) (Opd.bool true)) rfl cn))))))))))))))))))))))))))))))))))))))))))) ?_
          exact hjj10 _ h _ _ (Mat.trans (mp [] [(5, (.ptr 1005 0 [])), (6, (.ptr 1006 0 [])), (7, (qe_api_Series_4 r2.2.2.1)), (84, (bo true))] [(1005, some (.box 24 (.d (e_api_Member r2.1)))), (1006, some (.box 27 (.d (e_api_Tariff r2.2.1))))] hB) (mp [] _ _ hB))
        · replace h := ite_f hg69 h
          refine rg (c (mv hN (q 10)) rfl (c (OpJ.neqI (ltN hN rfl) (q 42) (Opd.int .i64 (0))) rfl (c (mv hN (q 43)) rfl (c (oq hN 44 (mv hN (q 12)) (OptL.keep (by rfl) OptL.nil) (GuardV.plain _)) rfl (c (oq hN 44 (OpJ.neqI (ltN hN rfl) (q 45) (Opd.int .i64 (0))) (OptL.opt OptL.nil) (GuardV.plain _)) rfl (c (OpJ.pickOr rfl (ltN hN rfl) (q 44) (q 46)) rfl (c (OpJ.val (v' := .d (.bool false)) (by rw [hg67]) (mv hN (q 47))) rfl (c (OpJ.guarded (g := 48) (by rfl) (mv hN (q 8))) rfl (c (OpJ.guarded (g := 48) (by rfl) (ov (.ptr 1006 1 [1]) (fp hN Try.underlying27 1 tyS3 _ (q 6)))) rfl (c (OpJ.guarded (g := 48) (by rfl) (lb hN 27 _ _ tyS3 (ad _) (q 50))) rfl (c (OpJ.guarded (g := 48) (by rfl) (OpJ.leq (ltN hN rfl) (q 49) (q 51))) rfl (c (OpJ.guarded (g := 48) (by rfl) (mv hN (q 52))) rfl (c (oq hN 53 (mv hN (q 9)) (OptL.keep (by rfl) OptL.nil) (GuardV.plain _)) rfl (c (oq hN 53 (ov (.ptr 1006 0 [0]) (fp hN Try.underlying27 0 tyS3 _ (q 6))) (OptL.keep (by rfl) OptL.nil) (GuardV.plain _)) rfl (c (oq hN 53 (lb hN 27 _ _ tyS3 (ad _) (q 55)) (OptL.opt OptL.nil) (GuardV.plain _)) rfl (c (oq hN 53 (OpJ.neqI (ltN hN rfl) (q 54) (q 56)) (OptL.opt (OptL.opt OptL.nil)) (GuardV.plain _)) rfl (c (OpJ.guarded (g := 48) (by rfl) (OpJ.pickAnd rfl (ltN hN rfl) (q 53) (q 57))) rfl (c (OpJ.pickF (ltN hN rfl) (q 48) (q 58)) rfl (c (OpJ.val (v' := .d (.bool false)) (by rw [hg68]) (mv hN (q 59))) rfl (c (OpJ.guarded (g := 60) (by rfl) (mv hN (q 8))) rfl (c (OpJ.guarded (g := 60) (by rfl) (ov (.ptr 1006 1 [1]) (fp hN Try.underlying27 1 tyS3 _ (q 6)))) rfl (c (OpJ.guarded (g := 60) (by rfl) (lb hN 27 _ _ tyS3 (ad _) (q 62))) rfl (c (OpJ.guarded (g := 60) (by rfl) (OpJ.lss (ltN hN rfl) (q 61) (q 63))) rfl (c (OpJ.guarded (g := 60) (by rfl) (mv hN (q 64))) rfl (c (oq hN 65 (mv hN (q 11)) (OptL.keep (by rfl) OptL.nil) (GuardV.plain _)) rfl (c (oq hN 65 (mv hN (q 9)) (OptL.keep (by rfl) OptL.nil) (GuardV.plain _)) rfl (c (oq hN 65 (OpJ.neqI (ltN hN rfl) (q 66) (q 67)) (OptL.opt (OptL.opt OptL.nil)) (GuardV.plain _)) rfl (c (OpJ.guarded (g := 60) (by rfl) (OpJ.pickAnd rfl (ltN hN rfl) (q 65) (q 68))) rfl (c (OpJ.pickF (ltN hN rfl) (q 60) (q 69)) rfl (c (OpJ.val (v' := .d (.bool false)) (by rw [hg69]) (mv hN (q 70))) rfl (c (OpJ.guarded (g := 71) (by rfl) (mv hN (q 8))) rfl (c (OpJ.guarded (g := 71) (by rfl) (ov (.ptr 1006 1 [1]) (fp hN Try.underlying27 1 tyS3 _ (q 6)))) rfl (c (OpJ.guarded (g := 71) (by rfl) (lb hN 27 _ _ tyS3 (ad _) (q 73))) rfl (c (OpJ.guarded (g := 71) (by rfl) (OpJ.geq (ltN hN rfl) (q 72) (q 74))) rfl (c (OpJ.guarded (g := 71) (by rfl) (mv hN (q 75))) rfl (c (oq hN 76 (mv hN (q 11)) (OptL.keep (by rfl) OptL.nil) (GuardV.plain _)) rfl (c (oq hN 76 (mv hN (q 9)) (OptL.keep (by rfl) OptL.nil) (GuardV.plain _)) rfl (c (oq hN 76 (sub6 (ltN hN rfl) (q 77) (q 78)) (OptL.opt (OptL.opt OptL.nil)) (GuardV.plain _)) rfl (c (oq hN 76 (ov (.ptr 1006 2 [2]) (fp hN Try.underlying27 2 tyS3 _ (q 6))) (OptL.keep (by rfl) OptL.nil) (GuardV.plain _)) rfl (c (oq hN 76 (lb hN 27 _ _ tyS3 (ad _) (q 80)) (OptL.opt OptL.nil) (GuardV.plain _)) rfl (c (oq hN 76 (OpJ.neqI (ltN hN rfl) (q 79) (q 81)) (OptL.opt (OptL.opt OptL.nil)) (GuardV.plain _)) rfl (c (OpJ.guarded (g := 71) (by rfl) (OpJ.pickAnd rfl (ltN hN rfl) (q 76) (q 82))) rfl (c (OpJ.pickF (ltN hN rfl) (q 71) (q 83)) rfl cn))))))))))))))))))))))))))))))))))))))))))) ?_
          exact hjj10 _ h _ _ (Mat.trans (mp [] [(5, (.ptr 1005 0 [])), (6, (.ptr 1006 0 [])), (7, (qe_api_Series_4 r2.2.2.1)), (84, (bo ((decide (r2.2.1.fIncluded ≤ r3)) && ((w64 (r5.1 - r4.1)) != r2.2.1.fRate))))] [(1005, some (.box 24 (.d (e_api_Member r2.1)))), (1006, some (.box 27 (.d (e_api_Tariff r2.2.1))))] hB) (mp [] _ _ hB))

noncomputable def invoice_sums_invoice_2_L0 (a0 : (List api_Line)) (s1 : Int × Int) : Option (((Int)) ⊕ (Int × Int)) :=
  (if (decide (s1.1 < (a0.length : Int))) = true then
  (idx a0 s1.1).bind fun x8 =>
  some (.inr ((w64 (s1.1 + (1 : Int))), (w64 (s1.2 + x8.fAmount))))
  else
  some (.inl s1.2))
noncomputable def invoice_sums_invoice_2 (a0 : (List api_Line)) (a1 : Int) (a2 : Int) (a3 : Int) : Option (api_Invoice × invoice_sums) :=
  (loop (invoice_sums_invoice_2_L0 a0) ((0 : Int), (0 : Int))).bind fun p6 =>
  some ((api_Invoice.mk a1 a2 a3 a0 p6), (invoice_sums.mk a0))
set_option maxHeartbeats 4000000 in
set_option maxRecDepth 100000 in
theorem invoice_sums_invoice_2_ac (a0 : (List api_Line)) (a1 : Int) (a2 : Int) (a3 : Int) (r : api_Invoice × invoice_sums) (h : invoice_sums_invoice_2 a0 a1 a2 a3 = some r) : AC Try.prog 35 [(.ptr 0 0 []), (.d (.int .i64 a1)), (.d (.int .i64 a2)), (.d (.int .i64 a3))] [(0, (.box 78 (.st [(.d (.list 3 (a0.map e_api_Line)))])))] (.d (e_api_Invoice r.1)) [(0, some (.box 78 (.d (e_invoice_sums r.2))))] := by
  refine AC.of_code2 Try.func35 rfl rfl (Nat.le_of_ble_eq_true (by rfl)) fun B hB hN => ?_
  delta invoice_sums_invoice_2 at h
  refine AWp.seq ?_
  refine rg (cg (OpJ.alloc hB tyZ45 (nm := 1008) (by decide) (ltN hN rfl)) rfl cn) ?_
  refine seqQ_n ?_
  refine gh [(0, _), (1, _), (2, _), (3, _), (8, _)] [(0, some _), (1008, some _)] hB rfl rfl (by rfl) ?_
  refine AWp.seq ?_
  refine rg (c (mv hN (q 1)) rfl (c (mv hN (q 2)) rfl (c (mv hN (q 3)) rfl (c (mv hN (q 0)) rfl (c (OpJ.nilP (ltN hN rfl) (q 15)) rfl (c (ov (.ptr 0 0 [0]) (fp hN Try.underlying78 0 tyS43 _ (q 16))) rfl (c (lb hN 78 _ (qe_api_Line_3 a0) tyS43 (At.st1 (f := (qe_api_Line_3 a0)) (by rfl) (by rfl) (At.here _) (by first | rfl | omega)) (q 17)) rfl (c (OpJ.coe (v := (.st [(i6 a1), (i6 a2), (i6 a3), (qe_api_Line_3 a0), (i6 0)])) (y := (.st [(.int .i64 a1), (.int .i64 a2), (.int .i64 a3), (.list 3 (a0.map e_api_Line)), (.int .i64 0)])) (Co.st (CoL.cons (Co.d _) (CoL.cons (Co.d _) (CoL.cons (Co.d _) (CoL.cons (Co.d _) (CoL.cons (Co.d _) CoL.nil)))))) rfl (OpJ.build (places := [(0, 1), (1, 1), (2, 1), (3, 1), (4, 1)]) ⟨Try.underlying45, fun w => by kernel_rfl⟩ tyZS45 (Opds.cons (q 12) (Opds.cons (q 13) (Opds.cons (q 14) (Opds.cons (q 18) Opds.nil)))) (by kernel_rfl) (r := (.st [(i6 a1), (i6 a2), (i6 a3), (qe_api_Line_3 a0), (i6 0)])) (by rfl) (ltN hN rfl))) rfl (cg (OpJ.alloc hB tyZ45 (nm := 1009) (by decide) (ltN hN rfl)) rfl (cg (OpJ.storeB tyS45 (SetAt.here _ _) (by rfl) (by rfl) (by simp) rfl (q 9) (q 19)) rfl cn)))))))))) ?_
  refine seqQ_n ?_
  refine gh [(0, _), (8, _), (9, _)] [(0, some _), (1008, some _), (1009, some _)] hB rfl rfl (by rfl) ?_
  refine AWp.seq ?_
  refine AWp.seq ?_
  refine rg (c (mv hN (q 0)) rfl (c (OpJ.nilP (ltN hN rfl) (q 20)) rfl (c (ov (.ptr 0 0 [0]) (fp hN Try.underlying78 0 tyS43 _ (q 21))) rfl (c (lb hN 78 _ (qe_api_Line_3 a0) tyS43 (At.st1 (f := (qe_api_Line_3 a0)) (by rfl) (by rfl) (At.here _) (by first | rfl | omega)) (q 22)) rfl (c (OpJ.val (v' := (i6 (a0.length : Int))) (by simp) (OpJ.lenD Try.underlying43 (ltN hN rfl) (q 23))) rfl (c (mv hN (Opd.int .i64 (0))) rfl cn)))))) ?_
  refine seqQ_n ?_
  refine gh [(8, _), (9, _), (23, _), (24, _), (25, _)] [(0, some _), (1008, some _), (1009, some _)] hB rfl rfl (by rfl) ?_
  refine AWp.block ?_
  obtain ⟨p6, hx10, h⟩ := bindS h
  refine lg (invoice_sums_invoice_2_L0 a0) (fun s1 : Int × Int => ([(8, (.ptr 1008 0 [])), (9, (.ptr 1009 0 [])), (23, (qe_api_Line_3 a0)), (24, (i6 (a0.length : Int))), (25, (i6 s1.1))] : EL)) (fun s1 : Int × Int => ([(0, some (.box 78 (.st [(qe_api_Line_3 a0)]))), (1008, some (.box 45 (.st [(i6 0), (i6 0), (i6 0), .nils, (i6 0)]))), (1009, some (.box 45 (.d (.st [(.int .i64 a1), (.int .i64 a2), (.int .i64 a3), (.list 3 (a0.map e_api_Line)), (.int .i64 s1.2)]))))] : OL)) (fun (p6 : (Int)) e E' O' => e = .exit 0 ∧ Mat B E' O' ([(8, (.ptr 1008 0 [])), (9, (.ptr 1009 0 []))] : EL) ([(0, some (.box 78 (.st [(qe_api_Line_3 a0)]))), (1008, some (.box 45 (.st [(i6 0), (i6 0), (i6 0), .nils, (i6 0)]))), (1009, some (.box 45 (.d (.st [(.int .i64 a1), (.int .i64 a2), (.int .i64 a3), (.list 3 (a0.map e_api_Line)), (.int .i64 p6)]))))] : OL)) hx10 (mp [] _ _ hB) (fun s1 y h => ?_) (fun e E' O' hR => ?_)
  · unfold invoice_sums_invoice_2_L0 at h
    refine AWp.seq ?_
    refine rg (c (OpJ.lss (ltN hN rfl) (q 25) (q 24)) rfl cn) ?_
    refine seqQ_n ?_
    refine gh [(8, _), (9, _), (23, _), (24, _), (25, _), (26, _)] [(0, some _), (1008, some _), (1009, some _)] hB rfl rfl (by rfl) ?_
    refine AWp.seq ?_
    refine AWp.cond rfl (fun hg7 => ?_) (fun hg7 => ?_)
    · replace h := ite_t hg7 h
      refine AWp.skip ?_
      refine seqQ_n ?_
      refine AWp.seq ?_
      refine AWp.block ?_
      refine AWp.seq ?_
      obtain ⟨x8, hx8, h⟩ := bindS h
      refine rg (c (OpJ.indexD Try.underlying43 tyS51 (idx_some hx8).1 (get_map e_api_Line (idx_some hx8).2) (ltN hN rfl) (q 23) (q 25)) rfl (c (OpJ.loadD tyS51 (by rfl) (by rfl) (ltN hN rfl) (q 27)) rfl (cg (OpJ.alloc hB tyZ51 (nm := 1011) (by decide) (ltN hN rfl)) rfl (cg (OpJ.storeB tyS51 (SetAt.here _ _) (by rfl) (by rfl) (by simp) rfl (q 11) (q 28)) rfl cn)))) ?_
      refine seqQ_n ?_
      refine gh [(8, _), (9, _), (11, _), (23, _), (24, _), (25, _)] [(0, some _), (1008, some _), (1009, some _), (1011, some _)] hB rfl rfl (by rfl) ?_
      refine rg (c (ov (.ptr 1009 4 [4]) (fp hN Try.underlying45 4 tyS3 _ (q 9))) rfl (c (lb hN 45 _ _ tyS3 (ad _) (q 29)) rfl (c (ov (.ptr 1011 2 [2]) (fp hN Try.underlying51 2 tyS3 _ (q 11))) rfl (c (lb hN 51 _ _ tyS3 (ad _) (q 31)) rfl (c (add6 (ltN hN rfl) (q 30) (q 32)) rfl (c (ov (.ptr 1009 4 [4]) (fp hN Try.underlying45 4 tyS3 _ (q 9))) rfl (cg (OpJ.storeB tyS3 (SetAt.dst1 (by rfl) (by rfl) (SetAt.here _ _) (by rfl) (by rfl) (by first | rfl | omega)) (by rfl) (by rfl) (by simp) rfl (q 34) (q 33)) rfl cn))))))) ?_
      refine blkQ_n ?_
      refine seqQ_n ?_
      refine gh [(8, _), (9, _), (23, _), (24, _), (25, _)] [(0, some _), (1008, some _), (1009, some _)] hB rfl rfl (by rfl) ?_
      refine rg (c (add6 (ltN hN rfl) (q 25) (Opd.int .i64 (1))) rfl (c (mv hN (q 35)) rfl cn)) ?_
      obtain rfl := Option.some.inj h
      exact ⟨rfl, (Mat.trans (mp [] [(8, (.ptr 1008 0 [])), (9, (.ptr 1009 0 [])), (23, (qe_api_Line_3 a0)), (24, (i6 (a0.length : Int))), (25, (i6 (w64 (s1.1 + (1 : Int)))))] [(0, some (.box 78 (.st [(qe_api_Line_3 a0)]))), (1008, some (.box 45 (.st [(i6 0), (i6 0), (i6 0), .nils, (i6 0)]))), (1009, some (.box 45 (.d (.st [(.int .i64 a1), (.int .i64 a2), (.int .i64 a3), (.list 3 (a0.map e_api_Line)), (.int .i64 (w64 (s1.2 + x8.fAmount)))]))))] hB) (mp [] _ _ hB))⟩
    · replace h := ite_f hg7 h
      refine AWp.exit ?_
      refine seqQ_e ?_
      obtain rfl := Option.some.inj h
      exact ⟨(fun hc => by cases hc), rfl, (mp [] _ _ hB)⟩
  · obtain ⟨rfl, hmat⟩ := hR
    refine blkQ_hit ?_
    refine seqQ_n ?_
    refine AWp.ghost hmat ?_
    refine AWp.seq ?_
    refine rg (c (lb hN 45 _ _ tyS45 (At.here _) (q 9)) rfl (cg (OpJ.storeB tyS45 (SetAt.here _ _) (by rfl) (by rfl) (by simp) rfl (q 8) (q 36)) rfl cn)) ?_
    refine seqQ_n ?_
    refine gh [(8, _)] [(0, some _), (1008, some _)] hB rfl rfl (by rfl) ?_
    refine AWp.ret ?_
    obtain rfl := Option.some.inj h
    exact ⟨.inl rfl, _, _, (Mat.trans (Mat.coeP (Ts := []) (Bs := [(0, some (.box 78 (.d (.st [(.list 3 (a0.map e_api_Line))]))))]) TwT.nil (TwB.cons (x := (.st [(qe_api_Line_3 a0)])) (by rfl) (Tw.leaf ⟨_, (Co.st (CoL.cons (Co.d _) CoL.nil)), rfl⟩) TwB.nil)) (mp [] [(8, (.ptr 1008 0 []))] [(0, some (.box 78 (.d (.st [(.list 3 (a0.map e_api_Line))])))), (1008, some (.box 45 (.d (.st [(.int .i64 a1), (.int .i64 a2), (.int .i64 a3), (.list 3 (a0.map e_api_Line)), (.int .i64 p6)]))))] hB)), [(.d (.st [(.int .i64 a1), (.int .i64 a2), (.int .i64 a3), (.list 3 (a0.map e_api_Line)), (.int .i64 p6)]))], (Res.cell (c := (.d (.st [(.int .i64 a1), (.int .i64 a2), (.int .i64 a3), (.list 3 (a0.map e_api_Line)), (.int .i64 p6)]))) (by rfl) (by rfl) tyS45 (by rfl) (by rfl) (by rfl) Res.nil), rfl, by rfl, by rfl, by rfl⟩


end Go.Proofs.Ytimcphncaffenaa
