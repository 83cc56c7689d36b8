/- Printed by gen.py: the Go functions as plain functions, and that the code does what they say. -/
import Derived.Test.YtimcphncaffenaaChecked
import Derived.Test.YtimcphncaffenaaVcY
import Derived.Test.YtimcphncaffenaaVcZ
import Derived.KernelRfl
import Derived.Test.YtimcphncaffenaaFnsC
import Derived.Test.YtimcphncaffenaaExt
import Derived.Test.YtimcphncaffenaaVcV
import Derived.Test.YtimcphncaffenaaVcQ
namespace Go.Proofs.Ytimcphncaffenaa
open Go Go.Vc
noncomputable def exchangepointlaw41_InvoiceMakes_L0 (a1 : (List api_Series)) (s3 : Int) : Option (((Bool) ⊕ (Unit)) ⊕ (Int)) :=
  (if (decide (s3 < (a1.length : Int))) = true then
  (idx a1 s3).bind fun x15 =>
  (if ((decide ((100 : Int) < (x15.fIn.length : Int))) || (decide ((100 : Int) < (x15.fOut.length : Int)))) = true then
  (exchangepointlaw41_awake).bind fun r17 =>
  some (.inl (.inl r17))
  else
  some (.inr (w64 (s3 + (1 : Int)))))
  else
  some (.inl (.inr ())))
noncomputable def exchangepointlaw41_InvoiceMakes_L2 (a4 : Int) (x907 : api_Tariff) (r908 : Int) (r909 : Int) (s910 : Int) : Option (((Unit) ⊕ (Unit)) ⊕ (Int)) :=
  (if (decide (s910 < (([a4, r908, r909] : List Int).length : Int))) = true then
  (idx ([a4, r908, r909] : List Int) s910).bind fun x924 =>
  (invoice_Price x907 x924).bind fun r925 =>
  (exchangepointref41_Price x907 x924).bind fun r926 =>
  (if ((r925.1 != r926.1) || (r925.2 != r926.2)) = true then
  some (.inl (.inl ()))
  else
  some (.inr (w64 (s910 + (1 : Int)))))
  else
  some (.inl (.inr ())))
noncomputable def exchangepointlaw41_InvoiceMakes_L5 (a5 : Int) (x907 : api_Tariff) (x1208 : api_Member) (x1298 : (List api_Series)) (r1299 : Int) (s1300 : Int) : Option (((Unit) ⊕ (Unit)) ⊕ (Int)) :=
  (if (decide (s1300 < (([a5, (w64 ((1 : Int) + r1299))] : List Int).length : Int))) = true then
  (idx ([a5, (w64 ((1 : Int) + r1299))] : List Int) s1300).bind fun x1326 =>
  (invoice_Make x1208 x1326 x907 x1298).bind fun r1327 =>
  (exchangepointref41_Make x1208 x1326 x907 x1298).bind fun r1328 =>
  jn (fun m1331 : Bool =>
  (if m1331 = true then
  some (.inl (.inl ()))
  else
  some (.inr (w64 (s1300 + (1 : Int)))))) (fun j1332 =>
  (if (r1327.2 != r1328.2) = true then
  j1332 true
  else
  (exchangepointref41_Same r1327.1 r1328.1).bind fun r1335 =>
  j1332 (!r1335)))
  else
  some (.inl (.inr ())))
noncomputable def exchangepointlaw41_InvoiceMakes_L4 (a1 : (List api_Series)) (a5 : Int) (r21 : api_Member × api_Tariff × (List api_Series) × exchangepointmill_Deck) (x907 : api_Tariff) (x1208 : api_Member) (s1210 : Int) : Option (((Unit) ⊕ (Unit)) ⊕ (Int)) :=
  (if (decide (s1210 < (([r21.2.2.1, a1, ((r21.2.2.1.take r21.2.2.1.length).drop 1)] : List (List api_Series)).length : Int))) = true then
  (idx ([r21.2.2.1, a1, ((r21.2.2.1.take r21.2.2.1.length).drop 1)] : List (List api_Series)) s1210).bind fun x1298 =>
  (exchangepointmill_Mod a5 (100 : Int)).bind fun r1299 =>
  (loop (exchangepointlaw41_InvoiceMakes_L5 a5 x907 x1208 x1298 r1299) (0 : Int)).bind fun x1336 => match x1336 with
  | (.inl _) =>
    some (.inl (.inl ()))
  | (.inr _) =>
    some (.inr (w64 (s1210 + (1 : Int))))
  else
  some (.inl (.inr ())))
noncomputable def exchangepointlaw41_InvoiceMakes_L3 (a0 : api_Member) (a1 : (List api_Series)) (a5 : Int) (r21 : api_Member × api_Tariff × (List api_Series) × exchangepointmill_Deck) (x907 : api_Tariff) (s934 : Int) : Option (((Unit) ⊕ (Unit)) ⊕ (Int)) :=
  (if (decide (s934 < (([r21.1, a0, (api_Member.mk (101 : Int) ([] : List UInt8) ([] : List UInt8) (0 : Int) (0 : Int) (r21.1.fPorts ++ r21.1.fPorts))] : List api_Member).length : Int))) = true then
  (idx ([r21.1, a0, (api_Member.mk (101 : Int) ([] : List UInt8) ([] : List UInt8) (0 : Int) (0 : Int) (r21.1.fPorts ++ r21.1.fPorts))] : List api_Member) s934).bind fun x1208 =>
  chk ((decide (0 ≤ (1 : Int)) && decide (1 ≤ r21.2.2.1.length) && decide (r21.2.2.1.length ≤ r21.2.2.1.length))) <|
  (loop (exchangepointlaw41_InvoiceMakes_L4 a1 a5 r21 x907 x1208) (0 : Int)).bind fun x1338 => match x1338 with
  | (.inl _) =>
    some (.inl (.inl ()))
  | (.inr _) =>
    some (.inr (w64 (s934 + (1 : Int))))
  else
  some (.inl (.inr ())))
noncomputable def exchangepointlaw41_InvoiceMakes_L1 (a0 : api_Member) (a1 : (List api_Series)) (a2 : api_Tariff) (a4 : Int) (a5 : Int) (r21 : api_Member × api_Tariff × (List api_Series) × exchangepointmill_Deck) (r22 : Int) (s23 : Int) : Option (((Unit) ⊕ (Unit)) ⊕ (Int)) :=
  (if (decide (s23 < (([r21.2.1, a2, (api_Tariff.mk r21.2.1.fBase r21.2.1.fIncluded r22), (api_Tariff.mk (1099511627776 : Int) (0 : Int) (1048576 : Int))] : List api_Tariff).length : Int))) = true then
  (idx ([r21.2.1, a2, (api_Tariff.mk r21.2.1.fBase r21.2.1.fIncluded r22), (api_Tariff.mk (1099511627776 : Int) (0 : Int) (1048576 : Int))] : List api_Tariff) s23).bind fun x907 =>
  (exchangepointmill_Mod a4 (3000 : Int)).bind fun r908 =>
  (exchangepointmill_Mod a4 (2199023255552 : Int)).bind fun r909 =>
  (loop (exchangepointlaw41_InvoiceMakes_L2 a4 x907 r908 r909) (0 : Int)).bind fun x928 => match x928 with
  | (.inl _) =>
    some (.inl (.inl ()))
  | (.inr _) =>
    chk (decide (r21.1.fPorts.length ≤ LIM)) <|
    chk (decide ((r21.1.fPorts ++ r21.1.fPorts).length ≤ LIM)) <|
    (loop (exchangepointlaw41_InvoiceMakes_L3 a0 a1 a5 r21 x907) (0 : Int)).bind fun x1340 => match x1340 with
    | (.inl _) =>
      some (.inl (.inl ()))
    | (.inr _) =>
      some (.inr (w64 (s23 + (1 : Int))))
  else
  some (.inl (.inr ())))
noncomputable def exchangepointlaw41_InvoiceMakes (a0 : api_Member) (a1 : (List api_Series)) (a2 : api_Tariff) (a3 : (List Int)) (a4 : Int) (a5 : Int) : Option (Bool) :=
  (if ((decide ((30 : Int) < (a0.fPorts.length : Int))) || (decide ((20 : Int) < (a1.length : Int)))) = true then
  (exchangepointlaw41_awake).bind fun r2 =>
  some r2
  else
  (loop (exchangepointlaw41_InvoiceMakes_L0 a1) (0 : Int)).bind fun x18 => match x18 with
  | (.inl p12) =>
    some p12
  | (.inr _) =>
    (exchangepointmill_New a3).bind fun r20 =>
    (exchangepointlaw41_bills r20).bind fun r21 =>
    (exchangepointmill_Mod a4 (2097152 : Int)).bind fun r22 =>
    (loop (exchangepointlaw41_InvoiceMakes_L1 a0 a1 a2 a4 a5 r21 r22) (0 : Int)).bind fun x1342 => match x1342 with
    | (.inl _) =>
      some false
    | (.inr _) =>
      (exchangepointlaw41_awake).bind fun r1344 =>
      some r1344)
set_option maxHeartbeats 4000000 in
set_option maxRecDepth 100000 in
theorem exchangepointlaw41_InvoiceMakes_ac (a0 : api_Member) (a1 : (List api_Series)) (a2 : api_Tariff) (a3 : (List Int)) (a4 : Int) (a5 : Int) (r : Bool) (h : exchangepointlaw41_InvoiceMakes a0 a1 a2 a3 a4 a5 = some r) : AC Try.prog 3 [(.d (e_api_Member a0)), (.d (.list 4 (a1.map e_api_Series))), (.d (e_api_Tariff a2)), (.d (.list 1 (a3.map (eI .i64)))), (.d (.int .i64 a4)), (.d (.int .i64 a5))] [] (.d (.bool r)) [] := by
  refine AC.of_code2 Try.func3 rfl rfl (Nat.le_of_ble_eq_true (by rfl)) fun B hB hN => ?_
  delta exchangepointlaw41_InvoiceMakes at h
  refine AWp.seq ?_
  refine AWp.region (oc (OpJ.box hB (nm := 1006) (by decide) (by simp) rfl (ltN hN rfl) (ot 0 (.d (e_api_Member a0))))
  (oc (OpJ.box hB (nm := 1008) (by decide) (by simp) rfl (ltN hN rfl) (ot 2 (.d (e_api_Tariff a2))))
  (oc (OpJ.assign (ltN hN rfl) (Opd.bool false))
  (OpJs.nil)))) (by rfl) (by rfl) ?_
  refine seqQ_n ?_
  refine AWp.ghost (mp [] [(1, (qe_api_Series_4 a1)), (3, (qI_1 a3)), (4, (i6 a4)), (5, (i6 a5)), (6, (.ptr 1006 0 [])), (8, (.ptr 1008 0 []))] [(1006, some (.box 24 (.d (e_api_Member a0)))), (1008, some (.box 27 (.d (e_api_Tariff a2))))] hB) ?_
  refine AWp.seq ?_
  refine AWp.seq ?_
  refine AWp.region (oc (ov (.ptr 1006 5 [5]) (fp hN Try.underlying24 5 tyS22 (.box 24 (.d (e_api_Member a0))) (ot 6 (.ptr 1006 0 []))))
  (oc (lb hN 24 (.d (e_api_Member a0)) (qe_api_Port_10 a0.fPorts) tyS22 (ad (.list 10 (a0.fPorts.map e_api_Port))) (ot 37 (.ptr 1006 5 [5])))
  (oc (OpJ.val (v' := (i6 (a0.fPorts.length : Int))) (by simp) (OpJ.lenD Try.underlying22 (ltN hN rfl) (ot 38 (qe_api_Port_10 a0.fPorts))))
  (oc (OpJ.gtr (ltN hN rfl) (ot 39 (i6 (a0.fPorts.length : Int))) (Opd.int .i64 (30)))
  (oc (mv hN (ot 40 (bo (decide ((30 : Int) < (a0.fPorts.length : Int))))))
  (oc (op hN (qe_api_Series_4 a1) (mv hN (ot 1 (qe_api_Series_4 a1))) (OptL.keep rfl OptL.nil) (GuardV.plain _))
  (oc (op hN (i6 (a1.length : Int)) (OpJ.val (v' := (i6 (a1.length : Int))) (by simp) (OpJ.lenD Try.underlying25 (ltN hN rfl) (ot 42 (qe_api_Series_4 a1)))) (OptL.opt OptL.nil) (GuardV.plain _))
  (oc (op hN (bo (decide ((20 : Int) < (a1.length : Int)))) (OpJ.gtr (ltN hN rfl) (ot 43 (i6 (a1.length : Int))) (Opd.int .i64 (20))) (OptL.opt OptL.nil) (GuardV.plain _))
  (oc (OpJ.pickOr rfl (ltN hN rfl) (ot 41 (bo (decide ((30 : Int) < (a0.fPorts.length : Int))))) (ot 44 (.opt ((decide ((30 : Int) < (a0.fPorts.length : Int))) == false) (bo (decide ((20 : Int) < (a1.length : Int)))))))
  (OpJs.nil)))))))))) (by rfl) (by rfl) ?_
  refine seqQ_n ?_
  refine AWp.ghost (mp [] [(1, (qe_api_Series_4 a1)), (3, (qI_1 a3)), (4, (i6 a4)), (5, (i6 a5)), (6, (.ptr 1006 0 [])), (8, (.ptr 1008 0 [])), (45, (bo ((decide ((30 : Int) < (a0.fPorts.length : Int))) || (decide ((20 : Int) < (a1.length : Int))))))] [(1006, some (.box 24 (.d (e_api_Member a0)))), (1008, some (.box 27 (.d (e_api_Tariff a2))))] hB) ?_
  refine AWp.cond (b := ((decide ((30 : Int) < (a0.fPorts.length : Int))) || (decide ((20 : Int) < (a1.length : Int))))) (by rfl) (fun hg1 => ?_) (fun hg1 => ?_)
  · replace h := ite_t hg1 h
    refine AWp.seq ?_
    obtain ⟨r2, hr2, h⟩ := bindS h
    refine AWp.region (oc (OpJ.callFn hB fnOk7 (exchangepointlaw41_awake_ac  r2 hr2) [] (by kernel_rfl) (ltN hN rfl) (by kernel_rfl) OpdL.nil)
      (oc (OpJ.assign (ltN hN rfl) (ot 46 (bo r2)))
      (OpJs.nil))) (by rfl) (by rfl) ?_
    refine seqQ_n ?_
    refine AWp.ghost (mp [] [(12, (bo r2))] [] hB) ?_
    refine AWp.ret ?_
    refine seqQ_r ?_
    obtain rfl := Option.some.inj h
    exact ⟨.inl rfl, _, _, (mp [] [(12, (bo r2))] [] hB), [(bo r2)], (Res.tmp (by rfl) (by rfl) Res.nil), rfl, by rfl, by rfl, by rfl⟩
  · replace h := ite_f hg1 h
    refine AWp.skip ?_
    refine seqQ_n ?_
    refine AWp.seq ?_
    refine AWp.seq ?_
    refine AWp.region (oc (mv hN (ot 1 (qe_api_Series_4 a1)))
      (oc (OpJ.val (v' := (i6 (a1.length : Int))) (by simp) (OpJ.lenD Try.underlying25 (ltN hN rfl) (ot 47 (qe_api_Series_4 a1))))
      (oc (mv hN (Opd.int .i64 (0)))
      (OpJs.nil)))) (by rfl) (by rfl) ?_
    refine seqQ_n ?_
    refine AWp.ghost (mp [] [(1, (qe_api_Series_4 a1)), (3, (qI_1 a3)), (4, (i6 a4)), (5, (i6 a5)), (6, (.ptr 1006 0 [])), (8, (.ptr 1008 0 [])), (47, (qe_api_Series_4 a1)), (48, (i6 (a1.length : Int))), (49, (i6 0))] [(1006, some (.box 24 (.d (e_api_Member a0)))), (1008, some (.box 27 (.d (e_api_Tariff a2))))] hB) ?_
    refine AWp.block ?_
    obtain ⟨x18, hx19, h⟩ := bindS h
    refine AWp.ghost (mp [] ((fun s3 : Int => ([(1, (qe_api_Series_4 a1)), (3, (qI_1 a3)), (4, (i6 a4)), (5, (i6 a5)), (6, (.ptr 1006 0 [])), (8, (.ptr 1008 0 [])), (47, (qe_api_Series_4 a1)), (48, (i6 (a1.length : Int))), (49, (i6 s3))] : EL)) (0 : Int)) ((fun s3 : Int => ([(1006, some (.box 24 (.d (e_api_Member a0)))), (1008, some (.box 27 (.d (e_api_Tariff a2))))] : OL)) (0 : Int)) hB) ?_
    refine AWp.loopS (exchangepointlaw41_InvoiceMakes_L0 a1) (fun s3 : Int => ([(1, (qe_api_Series_4 a1)), (3, (qI_1 a3)), (4, (i6 a4)), (5, (i6 a5)), (6, (.ptr 1006 0 [])), (8, (.ptr 1008 0 [])), (47, (qe_api_Series_4 a1)), (48, (i6 (a1.length : Int))), (49, (i6 s3))] : EL)) (fun s3 : Int => ([(1006, some (.box 24 (.d (e_api_Member a0)))), (1008, some (.box 27 (.d (e_api_Tariff a2))))] : OL)) (fun (x : (Bool) ⊕ (Unit)) e E' O' => match x with | (.inl p12) => e = .ret ∧ Mat B E' O' ([(12, (bo p12))] : EL) ([] : OL) | (.inr _p) => e = .exit 0 ∧ Mat B E' O' ([(1, (qe_api_Series_4 a1)), (3, (qI_1 a3)), (4, (i6 a4)), (5, (i6 a5)), (6, (.ptr 1006 0 [])), (8, (.ptr 1008 0 []))] : EL) ([(1006, some (.box 24 (.d (e_api_Member a0)))), (1008, some (.box 27 (.d (e_api_Tariff a2))))] : OL)) hx19 (fun s3 y h => ?_) (fun e E' O' hR => ?_)
    · unfold exchangepointlaw41_InvoiceMakes_L0 at h
      show AWp _ _ _ _ ([(1, (qe_api_Series_4 a1)), (3, (qI_1 a3)), (4, (i6 a4)), (5, (i6 a5)), (6, (.ptr 1006 0 [])), (8, (.ptr 1008 0 [])), (47, (qe_api_Series_4 a1)), (48, (i6 (a1.length : Int))), (49, (i6 s3))] : EL) ([(1006, some (.box 24 (.d (e_api_Member a0)))), (1008, some (.box 27 (.d (e_api_Tariff a2))))] : OL)
      refine AWp.seq ?_
      refine AWp.region (oc (OpJ.lss (ltN hN rfl) (ot 49 (i6 s3)) (ot 48 (i6 (a1.length : Int))))
        (OpJs.nil)) (by rfl) (by rfl) ?_
      refine seqQ_n ?_
      refine AWp.ghost (mp [] [(1, (qe_api_Series_4 a1)), (3, (qI_1 a3)), (4, (i6 a4)), (5, (i6 a5)), (6, (.ptr 1006 0 [])), (8, (.ptr 1008 0 [])), (47, (qe_api_Series_4 a1)), (48, (i6 (a1.length : Int))), (49, (i6 s3)), (50, (bo (decide (s3 < (a1.length : Int)))))] [(1006, some (.box 24 (.d (e_api_Member a0)))), (1008, some (.box 27 (.d (e_api_Tariff a2))))] hB) ?_
      refine AWp.seq ?_
      refine AWp.cond (b := (decide (s3 < (a1.length : Int)))) (by rfl) (fun hg14 => ?_) (fun hg14 => ?_)
      · replace h := ite_t hg14 h
        refine AWp.skip ?_
        refine seqQ_n ?_
        refine AWp.seq ?_
        refine AWp.block ?_
        refine AWp.seq ?_
        obtain ⟨x15, hx15, h⟩ := bindS h
        refine AWp.region (oc (OpJ.indexD (el := (e_api_Series x15)) Try.underlying25 tyS31 (idx_some hx15).1 (get_map e_api_Series (idx_some hx15).2) (ltN hN rfl) (ot 47 (qe_api_Series_4 a1)) (ot 49 (i6 s3)))
          (oc (OpJ.loadD tyS31 (by rfl) (by rfl) (ltN hN rfl) (ot 51 (.dptr (e_api_Series x15))))
          (oc (OpJ.alloc hB tyZ31 (nm := 1014) (by decide) (ltN hN rfl))
          (oc (OpJ.storeB (bt := 31) (c := (.st [(i6 0), (i6 0), .nils, .nils])) (v := (.d (e_api_Series x15))) (c' := (.d (e_api_Series x15))) tyS31 (SetAt.here _ _) (by rfl) (by rfl) (by simp) rfl (ot 14 (.ptr 1014 0 [])) (ot 52 (.d (e_api_Series x15))))
          (OpJs.nil))))) (by rfl) (by rfl) ?_
        refine seqQ_n ?_
        refine AWp.ghost (mp [] [(1, (qe_api_Series_4 a1)), (3, (qI_1 a3)), (4, (i6 a4)), (5, (i6 a5)), (6, (.ptr 1006 0 [])), (8, (.ptr 1008 0 [])), (14, (.ptr 1014 0 [])), (47, (qe_api_Series_4 a1)), (48, (i6 (a1.length : Int))), (49, (i6 s3))] [(1006, some (.box 24 (.d (e_api_Member a0)))), (1008, some (.box 27 (.d (e_api_Tariff a2)))), (1014, some (.box 31 (.d (e_api_Series x15))))] hB) ?_
        refine AWp.seq ?_
        refine AWp.region (oc (ov (.ptr 1014 2 [2]) (fp hN Try.underlying31 2 tyS28 (.box 31 (.d (e_api_Series x15))) (ot 14 (.ptr 1014 0 []))))
          (oc (lb hN 31 (.d (e_api_Series x15)) (qI_1 x15.fIn) tyS28 (ad (.list 1 (x15.fIn.map (eI .i64)))) (ot 53 (.ptr 1014 2 [2])))
          (oc (OpJ.val (v' := (i6 (x15.fIn.length : Int))) (by simp) (OpJ.lenD Try.underlying28 (ltN hN rfl) (ot 54 (qI_1 x15.fIn))))
          (oc (OpJ.gtr (ltN hN rfl) (ot 55 (i6 (x15.fIn.length : Int))) (Opd.int .i64 (100)))
          (oc (mv hN (ot 56 (bo (decide ((100 : Int) < (x15.fIn.length : Int))))))
          (oc (op hN (.ptr 1014 3 [3]) (ov (.ptr 1014 3 [3]) (fp hN Try.underlying31 3 tyS28 (.box 31 (.d (e_api_Series x15))) (ot 14 (.ptr 1014 0 [])))) (OptL.keep rfl OptL.nil) (GuardV.plain _))
          (oc (op hN (qI_1 x15.fOut) (lb hN 31 (.d (e_api_Series x15)) (qI_1 x15.fOut) tyS28 (ad (.list 1 (x15.fOut.map (eI .i64)))) (ot 58 (.ptr 1014 3 [3]))) (OptL.opt OptL.nil) (GuardV.plain _))
          (oc (op hN (i6 (x15.fOut.length : Int)) (OpJ.val (v' := (i6 (x15.fOut.length : Int))) (by simp) (OpJ.lenD Try.underlying28 (ltN hN rfl) (ot 59 (qI_1 x15.fOut)))) (OptL.opt OptL.nil) (GuardV.plain _))
          (oc (op hN (bo (decide ((100 : Int) < (x15.fOut.length : Int)))) (OpJ.gtr (ltN hN rfl) (ot 60 (i6 (x15.fOut.length : Int))) (Opd.int .i64 (100))) (OptL.opt OptL.nil) (GuardV.plain _))
          (oc (OpJ.pickOr rfl (ltN hN rfl) (ot 57 (bo (decide ((100 : Int) < (x15.fIn.length : Int))))) (ot 61 (.opt ((decide ((100 : Int) < (x15.fIn.length : Int))) == false) (bo (decide ((100 : Int) < (x15.fOut.length : Int)))))))
          (OpJs.nil))))))))))) (by rfl) (by rfl) ?_
        refine seqQ_n ?_
        refine AWp.ghost (mp [] [(1, (qe_api_Series_4 a1)), (3, (qI_1 a3)), (4, (i6 a4)), (5, (i6 a5)), (6, (.ptr 1006 0 [])), (8, (.ptr 1008 0 [])), (47, (qe_api_Series_4 a1)), (48, (i6 (a1.length : Int))), (49, (i6 s3)), (62, (bo ((decide ((100 : Int) < (x15.fIn.length : Int))) || (decide ((100 : Int) < (x15.fOut.length : Int))))))] [(1006, some (.box 24 (.d (e_api_Member a0)))), (1008, some (.box 27 (.d (e_api_Tariff a2))))] hB) ?_
        refine AWp.cond (b := ((decide ((100 : Int) < (x15.fIn.length : Int))) || (decide ((100 : Int) < (x15.fOut.length : Int))))) (by rfl) (fun hg16 => ?_) (fun hg16 => ?_)
        · replace h := ite_t hg16 h
          refine AWp.seq ?_
          obtain ⟨r17, hr17, h⟩ := bindS h
          refine AWp.region (oc (OpJ.callFn hB fnOk7 (exchangepointlaw41_awake_ac  r17 hr17) [] (by kernel_rfl) (ltN hN rfl) (by kernel_rfl) OpdL.nil)
            (oc (OpJ.assign (ltN hN rfl) (ot 63 (bo r17)))
            (OpJs.nil))) (by rfl) (by rfl) ?_
          refine seqQ_n ?_
          refine AWp.ghost (mp [] [(12, (bo r17))] [] hB) ?_
          refine AWp.ret ?_
          refine blkQ_r ?_
          refine seqQ_r ?_
          obtain rfl := Option.some.inj h
          exact ⟨(fun hc => by cases hc), rfl, (mp [] ((fun p12 : Bool => ([(12, (bo p12))] : EL)) r17) ((fun p12 : Bool => ([] : OL)) r17) hB)⟩
        · replace h := ite_f hg16 h
          refine AWp.skip ?_
          refine blkQ_n ?_
          refine seqQ_n ?_
          refine AWp.region (oc (OpJ.add (ltN hN rfl) (ot 49 (i6 s3)) (Opd.int .i64 (1)))
            (oc (mv hN (ot 64 (i6 (w64 (s3 + (1 : Int))))))
            (OpJs.nil))) (by rfl) (by rfl) ?_
          obtain rfl := Option.some.inj h
          exact ⟨rfl, (Mat.trans (mp [] [(1, (qe_api_Series_4 a1)), (3, (qI_1 a3)), (4, (i6 a4)), (5, (i6 a5)), (6, (.ptr 1006 0 [])), (8, (.ptr 1008 0 [])), (47, (qe_api_Series_4 a1)), (48, (i6 (a1.length : Int))), (49, (i6 (w64 (s3 + (1 : Int)))))] [(1006, some (.box 24 (.d (e_api_Member a0)))), (1008, some (.box 27 (.d (e_api_Tariff a2))))] hB) (mp [] ((fun s3 : Int => ([(1, (qe_api_Series_4 a1)), (3, (qI_1 a3)), (4, (i6 a4)), (5, (i6 a5)), (6, (.ptr 1006 0 [])), (8, (.ptr 1008 0 [])), (47, (qe_api_Series_4 a1)), (48, (i6 (a1.length : Int))), (49, (i6 s3))] : EL)) (w64 (s3 + (1 : Int)))) ((fun s3 : Int => ([(1006, some (.box 24 (.d (e_api_Member a0)))), (1008, some (.box 27 (.d (e_api_Tariff a2))))] : OL)) (w64 (s3 + (1 : Int)))) hB))⟩
      · replace h := ite_f hg14 h
        refine AWp.exit ?_
        refine seqQ_e ?_
        obtain rfl := Option.some.inj h
        exact ⟨(fun hc => by cases hc), rfl, (mp [] ((fun _ : Unit => ([(1, (qe_api_Series_4 a1)), (3, (qI_1 a3)), (4, (i6 a4)), (5, (i6 a5)), (6, (.ptr 1006 0 [])), (8, (.ptr 1008 0 []))] : EL)) ()) ((fun _ : Unit => ([(1006, some (.box 24 (.d (e_api_Member a0)))), (1008, some (.box 27 (.d (e_api_Tariff a2))))] : OL)) ()) hB)⟩
    · rcases x18 with p12 | _
      · obtain ⟨rfl, hmat⟩ := hR
        refine blkQ_r ?_
        refine seqQ_r ?_
        obtain rfl := Option.some.inj h
        exact ⟨.inl rfl, _, _, (Mat.trans hmat (mp [] [(12, (bo p12))] [] hB)), [(bo p12)], (Res.tmp (by rfl) (by rfl) Res.nil), rfl, by rfl, by rfl, by rfl⟩
      · obtain ⟨rfl, hmat⟩ := hR
        refine blkQ_hit ?_
        refine seqQ_n ?_
        refine AWp.ghost hmat ?_
        refine AWp.seq ?_
        obtain ⟨r20, hr20, h⟩ := bindS h
        obtain ⟨r21, hr21, h⟩ := bindS h
        refine AWp.region (oc (mv hN (ot 3 (qI_1 a3)))
          (oc (OpJ.callFn hB fnOk9 (exchangepointmill_New_ac a3 r20 hr20) [(1005, 100200)] (by kernel_rfl) (ltN hN rfl) (by kernel_rfl) (OpdL.cons (ot 66 (qI_1 a3)) OpdL.nil))
          (oc (OpJ.callFn hB fnOk8 (exchangepointlaw41_bills_ac r20 r21 hr21) [(0, 100200)] (by kernel_rfl) (ltN hN rfl) (by kernel_rfl) (OpdL.cons (ot 67 (.ptr 100200 0 [])) OpdL.nil))
          (oc (mv hN (ot 68 (.tup [(.d (e_api_Member r21.1)), (.d (e_api_Tariff r21.2.1)), (qe_api_Series_4 r21.2.2.1)])))
          (oc (OpJ.extract (v := (.d (e_api_Member r21.1))) (by rfl) rfl (ltN hN rfl) (ot 65 (.tup [(.d (e_api_Member r21.1)), (.d (e_api_Tariff r21.2.1)), (qe_api_Series_4 r21.2.2.1)])))
          (oc (OpJ.extract (v := (.d (e_api_Tariff r21.2.1))) (by rfl) rfl (ltN hN rfl) (ot 65 (.tup [(.d (e_api_Member r21.1)), (.d (e_api_Tariff r21.2.1)), (qe_api_Series_4 r21.2.2.1)])))
          (oc (OpJ.extract (v := (qe_api_Series_4 r21.2.2.1)) (by rfl) rfl (ltN hN rfl) (ot 65 (.tup [(.d (e_api_Member r21.1)), (.d (e_api_Tariff r21.2.1)), (qe_api_Series_4 r21.2.2.1)])))
          (oc (OpJ.alloc hB tyZ24 (nm := 1015) (by decide) (ltN hN rfl))
          (oc (OpJ.alloc hB tyZ27 (nm := 1016) (by decide) (ltN hN rfl))
          (oc (OpJ.storeB (bt := 24) (c := (.st [(i6 0), (.d (.str ([] : List UInt8))), (.d (.str ([] : List UInt8))), (i6 0), (i6 0), .nils])) (v := (.d (e_api_Member r21.1))) (c' := (.d (e_api_Member r21.1))) tyS24 (SetAt.here _ _) (by rfl) (by rfl) (by simp) rfl (ot 15 (.ptr 1015 0 [])) (ot 69 (.d (e_api_Member r21.1))))
          (oc (OpJ.storeB (bt := 27) (c := (.d (.st [(.int .i64 0), (.int .i64 0), (.int .i64 0)]))) (v := (.d (e_api_Tariff r21.2.1))) (c' := (.d (e_api_Tariff r21.2.1))) tyS27 (SetAt.here _ _) (by rfl) (by rfl) (by simp) rfl (ot 16 (.ptr 1016 0 [])) (ot 70 (.d (e_api_Tariff r21.2.1))))
          (oc (OpJ.assign (ltN hN rfl) (ot 71 (qe_api_Series_4 r21.2.2.1)))
          (OpJs.nil))))))))))))) (by rfl) (by rfl) ?_
        refine seqQ_n ?_
        refine AWp.ghost (mp [] [(1, (qe_api_Series_4 a1)), (4, (i6 a4)), (5, (i6 a5)), (6, (.ptr 1006 0 [])), (8, (.ptr 1008 0 [])), (15, (.ptr 1015 0 [])), (16, (.ptr 1016 0 [])), (17, (qe_api_Series_4 r21.2.2.1))] [(1006, some (.box 24 (.d (e_api_Member a0)))), (1008, some (.box 27 (.d (e_api_Tariff a2)))), (1015, some (.box 24 (.d (e_api_Member r21.1)))), (1016, some (.box 27 (.d (e_api_Tariff r21.2.1))))] hB) ?_
        refine AWp.seq ?_
        refine AWp.region (oc (lb hN 27 (.d (e_api_Tariff r21.2.1)) (.d (e_api_Tariff r21.2.1)) tyS27 (At.here _) (ot 16 (.ptr 1016 0 [])))
          (oc (OpJ.alloc hB tyZ27 (nm := 1018) (by decide) (ltN hN rfl))
          (oc (OpJ.storeB (bt := 27) (c := (.d (.st [(.int .i64 0), (.int .i64 0), (.int .i64 0)]))) (v := (.d (e_api_Tariff r21.2.1))) (c' := (.d (e_api_Tariff r21.2.1))) tyS27 (SetAt.here _ _) (by rfl) (by rfl) (by simp) rfl (ot 18 (.ptr 1018 0 [])) (ot 72 (.d (e_api_Tariff r21.2.1))))
          (OpJs.nil)))) (by rfl) (by rfl) ?_
        refine seqQ_n ?_
        refine AWp.ghost (mp [] [(1, (qe_api_Series_4 a1)), (4, (i6 a4)), (5, (i6 a5)), (6, (.ptr 1006 0 [])), (8, (.ptr 1008 0 [])), (15, (.ptr 1015 0 [])), (16, (.ptr 1016 0 [])), (17, (qe_api_Series_4 r21.2.2.1)), (18, (.ptr 1018 0 []))] [(1006, some (.box 24 (.d (e_api_Member a0)))), (1008, some (.box 27 (.d (e_api_Tariff a2)))), (1015, some (.box 24 (.d (e_api_Member r21.1)))), (1016, some (.box 27 (.d (e_api_Tariff r21.2.1)))), (1018, some (.box 27 (.d (e_api_Tariff r21.2.1))))] hB) ?_
        refine AWp.seq ?_
        obtain ⟨r22, hr22, h⟩ := bindS h
        refine AWp.region (oc (mv hN (ot 4 (i6 a4)))
          (oc (OpJ.callFn hB fnOk10 (exchangepointmill_Mod_ac a4 (2097152 : Int) r22 hr22) [] (by kernel_rfl) (ltN hN rfl) (by kernel_rfl) (OpdL.cons (ot 73 (i6 a4)) (OpdL.cons (Opd.int .i64 (2097152)) OpdL.nil)))
          (oc (ov (.ptr 1018 2 [2]) (fp hN Try.underlying27 2 tyS3 (.box 27 (.d (e_api_Tariff r21.2.1))) (ot 18 (.ptr 1018 0 []))))
          (oc (OpJ.storeB (bt := 27) (c := (.d (e_api_Tariff r21.2.1))) (v := (i6 r22)) (c' := (.d (.st [(.int .i64 r21.2.1.fBase), (.int .i64 r21.2.1.fIncluded), (.int .i64 r22)]))) tyS3 (SetAt.dst1 (f := (.int .i64 r21.2.1.fRate)) (f' := (.int .i64 r22)) (by rfl) (by rfl) (SetAt.here _ _) (by rfl) (by rfl) (by first | rfl | omega)) (by rfl) (by rfl) (by simp) rfl (ot 75 (.ptr 1018 2 [2])) (ot 74 (i6 r22)))
          (OpJs.nil))))) (by rfl) (by rfl) ?_
        refine seqQ_n ?_
        refine AWp.ghost (mp [] [(1, (qe_api_Series_4 a1)), (4, (i6 a4)), (5, (i6 a5)), (6, (.ptr 1006 0 [])), (8, (.ptr 1008 0 [])), (15, (.ptr 1015 0 [])), (16, (.ptr 1016 0 [])), (17, (qe_api_Series_4 r21.2.2.1)), (18, (.ptr 1018 0 []))] [(1006, some (.box 24 (.d (e_api_Member a0)))), (1008, some (.box 27 (.d (e_api_Tariff a2)))), (1015, some (.box 24 (.d (e_api_Member r21.1)))), (1016, some (.box 27 (.d (e_api_Tariff r21.2.1)))), (1018, some (.box 27 (.d (.st [(.int .i64 r21.2.1.fBase), (.int .i64 r21.2.1.fIncluded), (.int .i64 r22)]))))] hB) ?_
        refine AWp.seq ?_
        refine AWp.seq ?_
        refine AWp.region (oc (lb hN 27 (.d (e_api_Tariff r21.2.1)) (.d (e_api_Tariff r21.2.1)) tyS27 (At.here _) (ot 16 (.ptr 1016 0 [])))
          (oc (lb hN 27 (.d (e_api_Tariff a2)) (.d (e_api_Tariff a2)) tyS27 (At.here _) (ot 8 (.ptr 1008 0 [])))
          (oc (lb hN 27 (.d (.st [(.int .i64 r21.2.1.fBase), (.int .i64 r21.2.1.fIncluded), (.int .i64 r22)])) (.d (.st [(.int .i64 r21.2.1.fBase), (.int .i64 r21.2.1.fIncluded), (.int .i64 r22)])) tyS27 (At.here _) (ot 18 (.ptr 1018 0 [])))
          (oc (OpJ.coe (v := (.st [(i6 (1099511627776 : Int)), (i6 0), (i6 (1048576 : Int))])) (y := (.st [(.int .i64 (1099511627776 : Int)), (.int .i64 0), (.int .i64 (1048576 : Int))])) (Co.st (CoL.cons (Co.d _) (CoL.cons (Co.d _) (CoL.cons (Co.d _) CoL.nil)))) rfl (OpJ.build (places := [(0, 1), (1, 1), (2, 1)]) ⟨Try.underlying27, fun w => by kernel_rfl⟩ tyZS27 (Opds.cons (Opd.int .i64 (1099511627776)) (Opds.cons (Opd.int .i64 (1048576)) Opds.nil)) (by kernel_rfl) (r := (.st [(i6 (1099511627776 : Int)), (i6 0), (i6 (1048576 : Int))])) (by rfl) (ltN hN rfl)))
          (oc (OpJ.buildSlice Try.underlying37 tyS27 tyZD27 (by rfl) (by decide) (by decide) (Opds.cons (ot 76 (.d (e_api_Tariff r21.2.1))) (Opds.cons (ot 77 (.d (e_api_Tariff a2))) (Opds.cons (ot 78 (.d (.st [(.int .i64 r21.2.1.fBase), (.int .i64 r21.2.1.fIncluded), (.int .i64 r22)]))) (Opds.cons (ot 79 (.d (.st [(.int .i64 (1099511627776 : Int)), (.int .i64 0), (.int .i64 (1048576 : Int))]))) Opds.nil)))) (by kernel_rfl) (es := ([(e_api_Tariff r21.2.1), (e_api_Tariff a2), (.st [(.int .i64 r21.2.1.fBase), (.int .i64 r21.2.1.fIncluded), (.int .i64 r22)]), (.st [(.int .i64 (1099511627776 : Int)), (.int .i64 0), (.int .i64 (1048576 : Int))])] : List D)) (by rfl) (by rfl) (by kernel_rfl) (by simp) (ltN hN rfl))
          (oc (OpJ.val (v' := (i6 (([r21.2.1, a2, (api_Tariff.mk r21.2.1.fBase r21.2.1.fIncluded r22), (api_Tariff.mk (1099511627776 : Int) (0 : Int) (1048576 : Int))] : List api_Tariff).length : Int))) (by simp) (OpJ.lenD Try.underlying37 (ltN hN rfl) (ot 80 (qe_api_Tariff_3 ([r21.2.1, a2, (api_Tariff.mk r21.2.1.fBase r21.2.1.fIncluded r22), (api_Tariff.mk (1099511627776 : Int) (0 : Int) (1048576 : Int))] : List api_Tariff)))))
          (oc (mv hN (Opd.int .i64 (0)))
          (OpJs.nil)))))))) (by rfl) (by rfl) ?_
        refine seqQ_n ?_
        refine AWp.ghost (mp [] [(1, (qe_api_Series_4 a1)), (4, (i6 a4)), (5, (i6 a5)), (6, (.ptr 1006 0 [])), (15, (.ptr 1015 0 [])), (17, (qe_api_Series_4 r21.2.2.1)), (80, (qe_api_Tariff_3 ([r21.2.1, a2, (api_Tariff.mk r21.2.1.fBase r21.2.1.fIncluded r22), (api_Tariff.mk (1099511627776 : Int) (0 : Int) (1048576 : Int))] : List api_Tariff))), (81, (i6 (([r21.2.1, a2, (api_Tariff.mk r21.2.1.fBase r21.2.1.fIncluded r22), (api_Tariff.mk (1099511627776 : Int) (0 : Int) (1048576 : Int))] : List api_Tariff).length : Int))), (82, (i6 0))] [(1006, some (.box 24 (.d (e_api_Member a0)))), (1015, some (.box 24 (.d (e_api_Member r21.1))))] hB) ?_
        refine AWp.block ?_
        obtain ⟨x1342, hx1343, h⟩ := bindS h
        refine AWp.ghost (mp [] ((fun s23 : Int => ([(1, (qe_api_Series_4 a1)), (4, (i6 a4)), (5, (i6 a5)), (6, (.ptr 1006 0 [])), (15, (.ptr 1015 0 [])), (17, (qe_api_Series_4 r21.2.2.1)), (80, (qe_api_Tariff_3 ([r21.2.1, a2, (api_Tariff.mk r21.2.1.fBase r21.2.1.fIncluded r22), (api_Tariff.mk (1099511627776 : Int) (0 : Int) (1048576 : Int))] : List api_Tariff))), (81, (i6 (([r21.2.1, a2, (api_Tariff.mk r21.2.1.fBase r21.2.1.fIncluded r22), (api_Tariff.mk (1099511627776 : Int) (0 : Int) (1048576 : Int))] : List api_Tariff).length : Int))), (82, (i6 s23))] : EL)) (0 : Int)) ((fun s23 : Int => ([(1006, some (.box 24 (.d (e_api_Member a0)))), (1015, some (.box 24 (.d (e_api_Member r21.1))))] : OL)) (0 : Int)) hB) ?_
        refine AWp.loopS (exchangepointlaw41_InvoiceMakes_L1 a0 a1 a2 a4 a5 r21 r22) (fun s23 : Int => ([(1, (qe_api_Series_4 a1)), (4, (i6 a4)), (5, (i6 a5)), (6, (.ptr 1006 0 [])), (15, (.ptr 1015 0 [])), (17, (qe_api_Series_4 r21.2.2.1)), (80, (qe_api_Tariff_3 ([r21.2.1, a2, (api_Tariff.mk r21.2.1.fBase r21.2.1.fIncluded r22), (api_Tariff.mk (1099511627776 : Int) (0 : Int) (1048576 : Int))] : List api_Tariff))), (81, (i6 (([r21.2.1, a2, (api_Tariff.mk r21.2.1.fBase r21.2.1.fIncluded r22), (api_Tariff.mk (1099511627776 : Int) (0 : Int) (1048576 : Int))] : List api_Tariff).length : Int))), (82, (i6 s23))] : EL)) (fun s23 : Int => ([(1006, some (.box 24 (.d (e_api_Member a0)))), (1015, some (.box 24 (.d (e_api_Member r21.1))))] : OL)) (fun (x : (Unit) ⊕ (Unit)) e E' O' => match x with | (.inl _p) => e = .ret ∧ Mat B E' O' ([(12, (bo false))] : EL) ([] : OL) | (.inr _p) => e = .exit 2 ∧ Mat B E' O' ([] : EL) ([] : OL)) hx1343 (fun s23 y h => ?_) (fun e E' O' hR => ?_)
        · unfold exchangepointlaw41_InvoiceMakes_L1 at h
          show AWp _ _ _ _ ([(1, (qe_api_Series_4 a1)), (4, (i6 a4)), (5, (i6 a5)), (6, (.ptr 1006 0 [])), (15, (.ptr 1015 0 [])), (17, (qe_api_Series_4 r21.2.2.1)), (80, (qe_api_Tariff_3 ([r21.2.1, a2, (api_Tariff.mk r21.2.1.fBase r21.2.1.fIncluded r22), (api_Tariff.mk (1099511627776 : Int) (0 : Int) (1048576 : Int))] : List api_Tariff))), (81, (i6 (([r21.2.1, a2, (api_Tariff.mk r21.2.1.fBase r21.2.1.fIncluded r22), (api_Tariff.mk (1099511627776 : Int) (0 : Int) (1048576 : Int))] : List api_Tariff).length : Int))), (82, (i6 s23))] : EL) ([(1006, some (.box 24 (.d (e_api_Member a0)))), (1015, some (.box 24 (.d (e_api_Member r21.1))))] : OL)
          refine AWp.seq ?_
          refine AWp.region (oc (OpJ.lss (ltN hN rfl) (ot 82 (i6 s23)) (ot 81 (i6 (([r21.2.1, a2, (api_Tariff.mk r21.2.1.fBase r21.2.1.fIncluded r22), (api_Tariff.mk (1099511627776 : Int) (0 : Int) (1048576 : Int))] : List api_Tariff).length : Int))))
            (OpJs.nil)) (by rfl) (by rfl) ?_
          refine seqQ_n ?_
          refine AWp.ghost (mp [] [(1, (qe_api_Series_4 a1)), (4, (i6 a4)), (5, (i6 a5)), (6, (.ptr 1006 0 [])), (15, (.ptr 1015 0 [])), (17, (qe_api_Series_4 r21.2.2.1)), (80, (qe_api_Tariff_3 ([r21.2.1, a2, (api_Tariff.mk r21.2.1.fBase r21.2.1.fIncluded r22), (api_Tariff.mk (1099511627776 : Int) (0 : Int) (1048576 : Int))] : List api_Tariff))), (81, (i6 (([r21.2.1, a2, (api_Tariff.mk r21.2.1.fBase r21.2.1.fIncluded r22), (api_Tariff.mk (1099511627776 : Int) (0 : Int) (1048576 : Int))] : List api_Tariff).length : Int))), (82, (i6 s23)), (83, (bo (decide (s23 < (([r21.2.1, a2, (api_Tariff.mk r21.2.1.fBase r21.2.1.fIncluded r22), (api_Tariff.mk (1099511627776 : Int) (0 : Int) (1048576 : Int))] : List api_Tariff).length : Int)))))] [(1006, some (.box 24 (.d (e_api_Member a0)))), (1015, some (.box 24 (.d (e_api_Member r21.1))))] hB) ?_
          refine AWp.seq ?_
          refine AWp.cond (b := (decide (s23 < (([r21.2.1, a2, (api_Tariff.mk r21.2.1.fBase r21.2.1.fIncluded r22), (api_Tariff.mk (1099511627776 : Int) (0 : Int) (1048576 : Int))] : List api_Tariff).length : Int)))) (by rfl) (fun hg906 => ?_) (fun hg906 => ?_)
          · replace h := ite_t hg906 h
            refine AWp.skip ?_
            refine seqQ_n ?_
            refine AWp.seq ?_
            refine AWp.block ?_
            refine AWp.seq ?_
            obtain ⟨x907, hx907, h⟩ := bindS h
            refine AWp.region (oc (OpJ.indexD (el := (e_api_Tariff x907)) Try.underlying37 tyS27 (idx_some hx907).1 (get_map e_api_Tariff (idx_some hx907).2) (ltN hN rfl) (ot 80 (qe_api_Tariff_3 ([r21.2.1, a2, (api_Tariff.mk r21.2.1.fBase r21.2.1.fIncluded r22), (api_Tariff.mk (1099511627776 : Int) (0 : Int) (1048576 : Int))] : List api_Tariff))) (ot 82 (i6 s23)))
              (oc (OpJ.loadD tyS27 (by rfl) (by rfl) (ltN hN rfl) (ot 84 (.dptr (e_api_Tariff x907))))
              (oc (OpJ.alloc hB tyZ27 (nm := 1020) (by decide) (ltN hN rfl))
              (oc (OpJ.storeB (bt := 27) (c := (.d (.st [(.int .i64 0), (.int .i64 0), (.int .i64 0)]))) (v := (.d (e_api_Tariff x907))) (c' := (.d (e_api_Tariff x907))) tyS27 (SetAt.here _ _) (by rfl) (by rfl) (by simp) rfl (ot 20 (.ptr 1020 0 [])) (ot 85 (.d (e_api_Tariff x907))))
              (OpJs.nil))))) (by rfl) (by rfl) ?_
            refine seqQ_n ?_
            refine AWp.ghost (mp [] [(1, (qe_api_Series_4 a1)), (4, (i6 a4)), (5, (i6 a5)), (6, (.ptr 1006 0 [])), (15, (.ptr 1015 0 [])), (17, (qe_api_Series_4 r21.2.2.1)), (20, (.ptr 1020 0 [])), (80, (qe_api_Tariff_3 ([r21.2.1, a2, (api_Tariff.mk r21.2.1.fBase r21.2.1.fIncluded r22), (api_Tariff.mk (1099511627776 : Int) (0 : Int) (1048576 : Int))] : List api_Tariff))), (81, (i6 (([r21.2.1, a2, (api_Tariff.mk r21.2.1.fBase r21.2.1.fIncluded r22), (api_Tariff.mk (1099511627776 : Int) (0 : Int) (1048576 : Int))] : List api_Tariff).length : Int))), (82, (i6 s23))] [(1006, some (.box 24 (.d (e_api_Member a0)))), (1015, some (.box 24 (.d (e_api_Member r21.1)))), (1020, some (.box 27 (.d (e_api_Tariff x907))))] hB) ?_
            refine AWp.seq ?_
            refine AWp.seq ?_
            obtain ⟨r908, hr908, h⟩ := bindS h
            obtain ⟨r909, hr909, h⟩ := bindS h
            refine AWp.region (oc (mv hN (ot 4 (i6 a4)))
              (oc (mv hN (ot 4 (i6 a4)))
              (oc (OpJ.callFn hB fnOk10 (exchangepointmill_Mod_ac a4 (3000 : Int) r908 hr908) [] (by kernel_rfl) (ltN hN rfl) (by kernel_rfl) (OpdL.cons (ot 87 (i6 a4)) (OpdL.cons (Opd.int .i64 (3000)) OpdL.nil)))
              (oc (mv hN (ot 4 (i6 a4)))
              (oc (OpJ.callFn hB fnOk10 (exchangepointmill_Mod_ac a4 (2199023255552 : Int) r909 hr909) [] (by kernel_rfl) (ltN hN rfl) (by kernel_rfl) (OpdL.cons (ot 89 (i6 a4)) (OpdL.cons (Opd.int .i64 (2199023255552)) OpdL.nil)))
              (oc (OpJ.buildSlice Try.underlying28 tyS3 tyZD3 (by rfl) (by decide) (by decide) (Opds.cons (ot 86 (i6 a4)) (Opds.cons (ot 88 (i6 r908)) (Opds.cons (ot 90 (i6 r909)) Opds.nil))) (by kernel_rfl) (es := ([(.int .i64 a4), (.int .i64 r908), (.int .i64 r909)] : List D)) (by rfl) (by rfl) (by kernel_rfl) (by simp) (ltN hN rfl))
              (oc (OpJ.val (v' := (i6 (([a4, r908, r909] : List Int).length : Int))) (by simp) (OpJ.lenD Try.underlying28 (ltN hN rfl) (ot 91 (qI_1 ([a4, r908, r909] : List Int)))))
              (oc (mv hN (Opd.int .i64 (0)))
              (OpJs.nil))))))))) (by rfl) (by rfl) ?_
            refine seqQ_n ?_
            refine AWp.ghost (mp [] [(1, (qe_api_Series_4 a1)), (4, (i6 a4)), (5, (i6 a5)), (6, (.ptr 1006 0 [])), (15, (.ptr 1015 0 [])), (17, (qe_api_Series_4 r21.2.2.1)), (20, (.ptr 1020 0 [])), (80, (qe_api_Tariff_3 ([r21.2.1, a2, (api_Tariff.mk r21.2.1.fBase r21.2.1.fIncluded r22), (api_Tariff.mk (1099511627776 : Int) (0 : Int) (1048576 : Int))] : List api_Tariff))), (81, (i6 (([r21.2.1, a2, (api_Tariff.mk r21.2.1.fBase r21.2.1.fIncluded r22), (api_Tariff.mk (1099511627776 : Int) (0 : Int) (1048576 : Int))] : List api_Tariff).length : Int))), (82, (i6 s23)), (91, (qI_1 ([a4, r908, r909] : List Int))), (92, (i6 (([a4, r908, r909] : List Int).length : Int))), (93, (i6 0))] [(1006, some (.box 24 (.d (e_api_Member a0)))), (1015, some (.box 24 (.d (e_api_Member r21.1)))), (1020, some (.box 27 (.d (e_api_Tariff x907))))] hB) ?_
            refine AWp.block ?_
            obtain ⟨x928, hx929, h⟩ := bindS h
            refine AWp.ghost (mp [] ((fun s910 : Int => ([(1, (qe_api_Series_4 a1)), (4, (i6 a4)), (5, (i6 a5)), (6, (.ptr 1006 0 [])), (15, (.ptr 1015 0 [])), (17, (qe_api_Series_4 r21.2.2.1)), (20, (.ptr 1020 0 [])), (80, (qe_api_Tariff_3 ([r21.2.1, a2, (api_Tariff.mk r21.2.1.fBase r21.2.1.fIncluded r22), (api_Tariff.mk (1099511627776 : Int) (0 : Int) (1048576 : Int))] : List api_Tariff))), (81, (i6 (([r21.2.1, a2, (api_Tariff.mk r21.2.1.fBase r21.2.1.fIncluded r22), (api_Tariff.mk (1099511627776 : Int) (0 : Int) (1048576 : Int))] : List api_Tariff).length : Int))), (82, (i6 s23)), (91, (qI_1 ([a4, r908, r909] : List Int))), (92, (i6 (([a4, r908, r909] : List Int).length : Int))), (93, (i6 s910))] : EL)) (0 : Int)) ((fun s910 : Int => ([(1006, some (.box 24 (.d (e_api_Member a0)))), (1015, some (.box 24 (.d (e_api_Member r21.1)))), (1020, some (.box 27 (.d (e_api_Tariff x907))))] : OL)) (0 : Int)) hB) ?_
            refine AWp.loopS (exchangepointlaw41_InvoiceMakes_L2 a4 x907 r908 r909) (fun s910 : Int => ([(1, (qe_api_Series_4 a1)), (4, (i6 a4)), (5, (i6 a5)), (6, (.ptr 1006 0 [])), (15, (.ptr 1015 0 [])), (17, (qe_api_Series_4 r21.2.2.1)), (20, (.ptr 1020 0 [])), (80, (qe_api_Tariff_3 ([r21.2.1, a2, (api_Tariff.mk r21.2.1.fBase r21.2.1.fIncluded r22), (api_Tariff.mk (1099511627776 : Int) (0 : Int) (1048576 : Int))] : List api_Tariff))), (81, (i6 (([r21.2.1, a2, (api_Tariff.mk r21.2.1.fBase r21.2.1.fIncluded r22), (api_Tariff.mk (1099511627776 : Int) (0 : Int) (1048576 : Int))] : List api_Tariff).length : Int))), (82, (i6 s23)), (91, (qI_1 ([a4, r908, r909] : List Int))), (92, (i6 (([a4, r908, r909] : List Int).length : Int))), (93, (i6 s910))] : EL)) (fun s910 : Int => ([(1006, some (.box 24 (.d (e_api_Member a0)))), (1015, some (.box 24 (.d (e_api_Member r21.1)))), (1020, some (.box 27 (.d (e_api_Tariff x907))))] : OL)) (fun (x : (Unit) ⊕ (Unit)) e E' O' => match x with | (.inl _p) => e = .ret ∧ Mat B E' O' ([(12, (bo false))] : EL) ([] : OL) | (.inr _p) => e = .exit 4 ∧ Mat B E' O' ([(1, (qe_api_Series_4 a1)), (4, (i6 a4)), (5, (i6 a5)), (6, (.ptr 1006 0 [])), (15, (.ptr 1015 0 [])), (17, (qe_api_Series_4 r21.2.2.1)), (20, (.ptr 1020 0 [])), (80, (qe_api_Tariff_3 ([r21.2.1, a2, (api_Tariff.mk r21.2.1.fBase r21.2.1.fIncluded r22), (api_Tariff.mk (1099511627776 : Int) (0 : Int) (1048576 : Int))] : List api_Tariff))), (81, (i6 (([r21.2.1, a2, (api_Tariff.mk r21.2.1.fBase r21.2.1.fIncluded r22), (api_Tariff.mk (1099511627776 : Int) (0 : Int) (1048576 : Int))] : List api_Tariff).length : Int))), (82, (i6 s23))] : EL) ([(1006, some (.box 24 (.d (e_api_Member a0)))), (1015, some (.box 24 (.d (e_api_Member r21.1)))), (1020, some (.box 27 (.d (e_api_Tariff x907))))] : OL)) hx929 (fun s910 y h => ?_) (fun e E' O' hR => ?_)
            · unfold exchangepointlaw41_InvoiceMakes_L2 at h
              show AWp _ _ _ _ ([(1, (qe_api_Series_4 a1)), (4, (i6 a4)), (5, (i6 a5)), (6, (.ptr 1006 0 [])), (15, (.ptr 1015 0 [])), (17, (qe_api_Series_4 r21.2.2.1)), (20, (.ptr 1020 0 [])), (80, (qe_api_Tariff_3 ([r21.2.1, a2, (api_Tariff.mk r21.2.1.fBase r21.2.1.fIncluded r22), (api_Tariff.mk (1099511627776 : Int) (0 : Int) (1048576 : Int))] : List api_Tariff))), (81, (i6 (([r21.2.1, a2, (api_Tariff.mk r21.2.1.fBase r21.2.1.fIncluded r22), (api_Tariff.mk (1099511627776 : Int) (0 : Int) (1048576 : Int))] : List api_Tariff).length : Int))), (82, (i6 s23)), (91, (qI_1 ([a4, r908, r909] : List Int))), (92, (i6 (([a4, r908, r909] : List Int).length : Int))), (93, (i6 s910))] : EL) ([(1006, some (.box 24 (.d (e_api_Member a0)))), (1015, some (.box 24 (.d (e_api_Member r21.1)))), (1020, some (.box 27 (.d (e_api_Tariff x907))))] : OL)
              refine AWp.seq ?_
              refine AWp.region (oc (OpJ.lss (ltN hN rfl) (ot 93 (i6 s910)) (ot 92 (i6 (([a4, r908, r909] : List Int).length : Int))))
                (OpJs.nil)) (by rfl) (by rfl) ?_
              refine seqQ_n ?_
              refine AWp.ghost (mp [] [(1, (qe_api_Series_4 a1)), (4, (i6 a4)), (5, (i6 a5)), (6, (.ptr 1006 0 [])), (15, (.ptr 1015 0 [])), (17, (qe_api_Series_4 r21.2.2.1)), (20, (.ptr 1020 0 [])), (80, (qe_api_Tariff_3 ([r21.2.1, a2, (api_Tariff.mk r21.2.1.fBase r21.2.1.fIncluded r22), (api_Tariff.mk (1099511627776 : Int) (0 : Int) (1048576 : Int))] : List api_Tariff))), (81, (i6 (([r21.2.1, a2, (api_Tariff.mk r21.2.1.fBase r21.2.1.fIncluded r22), (api_Tariff.mk (1099511627776 : Int) (0 : Int) (1048576 : Int))] : List api_Tariff).length : Int))), (82, (i6 s23)), (91, (qI_1 ([a4, r908, r909] : List Int))), (92, (i6 (([a4, r908, r909] : List Int).length : Int))), (93, (i6 s910)), (94, (bo (decide (s910 < (([a4, r908, r909] : List Int).length : Int)))))] [(1006, some (.box 24 (.d (e_api_Member a0)))), (1015, some (.box 24 (.d (e_api_Member r21.1)))), (1020, some (.box 27 (.d (e_api_Tariff x907))))] hB) ?_
              refine AWp.seq ?_
              refine AWp.cond (b := (decide (s910 < (([a4, r908, r909] : List Int).length : Int)))) (by rfl) (fun hg923 => ?_) (fun hg923 => ?_)
              · replace h := ite_t hg923 h
                refine AWp.skip ?_
                refine seqQ_n ?_
                refine AWp.seq ?_
                refine AWp.block ?_
                refine AWp.seq ?_
                obtain ⟨x924, hx924, h⟩ := bindS h
                refine AWp.region (oc (OpJ.indexD (el := (.int .i64 x924)) Try.underlying28 tyS3 (idx_some hx924).1 (get_map (eI .i64) (idx_some hx924).2) (ltN hN rfl) (ot 91 (qI_1 ([a4, r908, r909] : List Int))) (ot 93 (i6 s910)))
                  (oc (OpJ.loadD tyS3 (by rfl) (by rfl) (ltN hN rfl) (ot 95 (.dptr (.int .i64 x924))))
                  (oc (OpJ.assign (ltN hN rfl) (ot 96 (i6 x924)))
                  (OpJs.nil)))) (by rfl) (by rfl) ?_
                refine seqQ_n ?_
                refine AWp.ghost (mp [] [(1, (qe_api_Series_4 a1)), (4, (i6 a4)), (5, (i6 a5)), (6, (.ptr 1006 0 [])), (15, (.ptr 1015 0 [])), (17, (qe_api_Series_4 r21.2.2.1)), (20, (.ptr 1020 0 [])), (22, (i6 x924)), (80, (qe_api_Tariff_3 ([r21.2.1, a2, (api_Tariff.mk r21.2.1.fBase r21.2.1.fIncluded r22), (api_Tariff.mk (1099511627776 : Int) (0 : Int) (1048576 : Int))] : List api_Tariff))), (81, (i6 (([r21.2.1, a2, (api_Tariff.mk r21.2.1.fBase r21.2.1.fIncluded r22), (api_Tariff.mk (1099511627776 : Int) (0 : Int) (1048576 : Int))] : List api_Tariff).length : Int))), (82, (i6 s23)), (91, (qI_1 ([a4, r908, r909] : List Int))), (92, (i6 (([a4, r908, r909] : List Int).length : Int))), (93, (i6 s910))] [(1006, some (.box 24 (.d (e_api_Member a0)))), (1015, some (.box 24 (.d (e_api_Member r21.1)))), (1020, some (.box 27 (.d (e_api_Tariff x907))))] hB) ?_
                refine AWp.seq ?_
                obtain ⟨r925, hr925, h⟩ := bindS h
                refine AWp.region (oc (lb hN 27 (.d (e_api_Tariff x907)) (.d (e_api_Tariff x907)) tyS27 (At.here _) (ot 20 (.ptr 1020 0 [])))
                  (oc (mv hN (ot 22 (i6 x924)))
                  (oc (OpJ.callFn hB fnOk11 (invoice_Price_ac x907 x924 r925 hr925) [] (by kernel_rfl) (ltN hN rfl) (by kernel_rfl) (OpdL.cons (ot 98 (.d (e_api_Tariff x907))) (OpdL.cons (ot 99 (i6 x924)) OpdL.nil)))
                  (oc (mv hN (ot 100 (.tup [(i6 r925.1), (i6 r925.2)])))
                  (oc (OpJ.extract (v := (i6 r925.1)) (by rfl) rfl (ltN hN rfl) (ot 97 (.tup [(i6 r925.1), (i6 r925.2)])))
                  (oc (OpJ.extract (v := (i6 r925.2)) (by rfl) rfl (ltN hN rfl) (ot 97 (.tup [(i6 r925.1), (i6 r925.2)])))
                  (oc (OpJ.assign (ltN hN rfl) (ot 101 (i6 r925.1)))
                  (oc (OpJ.assign (ltN hN rfl) (ot 102 (i6 r925.2)))
                  (OpJs.nil))))))))) (by rfl) (by rfl) ?_
                refine seqQ_n ?_
                refine AWp.ghost (mp [] [(1, (qe_api_Series_4 a1)), (4, (i6 a4)), (5, (i6 a5)), (6, (.ptr 1006 0 [])), (15, (.ptr 1015 0 [])), (17, (qe_api_Series_4 r21.2.2.1)), (20, (.ptr 1020 0 [])), (22, (i6 x924)), (23, (i6 r925.1)), (24, (i6 r925.2)), (80, (qe_api_Tariff_3 ([r21.2.1, a2, (api_Tariff.mk r21.2.1.fBase r21.2.1.fIncluded r22), (api_Tariff.mk (1099511627776 : Int) (0 : Int) (1048576 : Int))] : List api_Tariff))), (81, (i6 (([r21.2.1, a2, (api_Tariff.mk r21.2.1.fBase r21.2.1.fIncluded r22), (api_Tariff.mk (1099511627776 : Int) (0 : Int) (1048576 : Int))] : List api_Tariff).length : Int))), (82, (i6 s23)), (91, (qI_1 ([a4, r908, r909] : List Int))), (92, (i6 (([a4, r908, r909] : List Int).length : Int))), (93, (i6 s910))] [(1006, some (.box 24 (.d (e_api_Member a0)))), (1015, some (.box 24 (.d (e_api_Member r21.1)))), (1020, some (.box 27 (.d (e_api_Tariff x907))))] hB) ?_
                refine AWp.seq ?_
                obtain ⟨r926, hr926, h⟩ := bindS h
                refine AWp.region (oc (lb hN 27 (.d (e_api_Tariff x907)) (.d (e_api_Tariff x907)) tyS27 (At.here _) (ot 20 (.ptr 1020 0 [])))
                  (oc (mv hN (ot 22 (i6 x924)))
                  (oc (OpJ.callFn hB fnOk12 (exchangepointref41_Price_ac x907 x924 r926 hr926) [] (by kernel_rfl) (ltN hN rfl) (by kernel_rfl) (OpdL.cons (ot 104 (.d (e_api_Tariff x907))) (OpdL.cons (ot 105 (i6 x924)) OpdL.nil)))
                  (oc (mv hN (ot 106 (.tup [(i6 r926.1), (i6 r926.2)])))
                  (oc (OpJ.extract (v := (i6 r926.1)) (by rfl) rfl (ltN hN rfl) (ot 103 (.tup [(i6 r926.1), (i6 r926.2)])))
                  (oc (OpJ.extract (v := (i6 r926.2)) (by rfl) rfl (ltN hN rfl) (ot 103 (.tup [(i6 r926.1), (i6 r926.2)])))
                  (oc (OpJ.assign (ltN hN rfl) (ot 107 (i6 r926.1)))
                  (oc (OpJ.assign (ltN hN rfl) (ot 108 (i6 r926.2)))
                  (OpJs.nil))))))))) (by rfl) (by rfl) ?_
                refine seqQ_n ?_
                refine AWp.ghost (mp [] [(1, (qe_api_Series_4 a1)), (4, (i6 a4)), (5, (i6 a5)), (6, (.ptr 1006 0 [])), (15, (.ptr 1015 0 [])), (17, (qe_api_Series_4 r21.2.2.1)), (20, (.ptr 1020 0 [])), (23, (i6 r925.1)), (24, (i6 r925.2)), (25, (i6 r926.1)), (26, (i6 r926.2)), (80, (qe_api_Tariff_3 ([r21.2.1, a2, (api_Tariff.mk r21.2.1.fBase r21.2.1.fIncluded r22), (api_Tariff.mk (1099511627776 : Int) (0 : Int) (1048576 : Int))] : List api_Tariff))), (81, (i6 (([r21.2.1, a2, (api_Tariff.mk r21.2.1.fBase r21.2.1.fIncluded r22), (api_Tariff.mk (1099511627776 : Int) (0 : Int) (1048576 : Int))] : List api_Tariff).length : Int))), (82, (i6 s23)), (91, (qI_1 ([a4, r908, r909] : List Int))), (92, (i6 (([a4, r908, r909] : List Int).length : Int))), (93, (i6 s910))] [(1006, some (.box 24 (.d (e_api_Member a0)))), (1015, some (.box 24 (.d (e_api_Member r21.1)))), (1020, some (.box 27 (.d (e_api_Tariff x907))))] hB) ?_
                refine AWp.seq ?_
                refine AWp.region (oc (mv hN (ot 23 (i6 r925.1)))
                  (oc (mv hN (ot 25 (i6 r926.1)))
                  (oc (OpJ.neqI (ltN hN rfl) (ot 109 (i6 r925.1)) (ot 110 (i6 r926.1)))
                  (oc (mv hN (ot 111 (bo (r925.1 != r926.1))))
                  (oc (op hN (i6 r925.2) (mv hN (ot 24 (i6 r925.2))) (OptL.keep rfl OptL.nil) (GuardV.plain _))
                  (oc (op hN (i6 r926.2) (mv hN (ot 26 (i6 r926.2))) (OptL.keep rfl OptL.nil) (GuardV.plain _))
                  (oc (op hN (bo (r925.2 != r926.2)) (OpJ.neqI (ltN hN rfl) (ot 113 (i6 r925.2)) (ot 114 (i6 r926.2))) (OptL.opt (OptL.opt OptL.nil)) (GuardV.plain _))
                  (oc (OpJ.pickOr rfl (ltN hN rfl) (ot 112 (bo (r925.1 != r926.1))) (ot 115 (.opt ((r925.1 != r926.1) == false) (bo (r925.2 != r926.2)))))
                  (OpJs.nil))))))))) (by rfl) (by rfl) ?_
                refine seqQ_n ?_
                refine AWp.ghost (mp [] [(1, (qe_api_Series_4 a1)), (4, (i6 a4)), (5, (i6 a5)), (6, (.ptr 1006 0 [])), (15, (.ptr 1015 0 [])), (17, (qe_api_Series_4 r21.2.2.1)), (20, (.ptr 1020 0 [])), (80, (qe_api_Tariff_3 ([r21.2.1, a2, (api_Tariff.mk r21.2.1.fBase r21.2.1.fIncluded r22), (api_Tariff.mk (1099511627776 : Int) (0 : Int) (1048576 : Int))] : List api_Tariff))), (81, (i6 (([r21.2.1, a2, (api_Tariff.mk r21.2.1.fBase r21.2.1.fIncluded r22), (api_Tariff.mk (1099511627776 : Int) (0 : Int) (1048576 : Int))] : List api_Tariff).length : Int))), (82, (i6 s23)), (91, (qI_1 ([a4, r908, r909] : List Int))), (92, (i6 (([a4, r908, r909] : List Int).length : Int))), (93, (i6 s910)), (116, (bo ((r925.1 != r926.1) || (r925.2 != r926.2))))] [(1006, some (.box 24 (.d (e_api_Member a0)))), (1015, some (.box 24 (.d (e_api_Member r21.1)))), (1020, some (.box 27 (.d (e_api_Tariff x907))))] hB) ?_
                refine AWp.cond (b := ((r925.1 != r926.1) || (r925.2 != r926.2))) (by rfl) (fun hg927 => ?_) (fun hg927 => ?_)
                · replace h := ite_t hg927 h
                  refine AWp.seq ?_
                  refine AWp.region (oc (OpJ.assign (ltN hN rfl) (Opd.bool false))
                    (OpJs.nil)) (by rfl) (by rfl) ?_
                  refine seqQ_n ?_
                  refine AWp.ghost (mp [] [(12, (bo false))] [] hB) ?_
                  refine AWp.ret ?_
                  refine blkQ_r ?_
                  refine seqQ_r ?_
                  obtain rfl := Option.some.inj h
                  exact ⟨(fun hc => by cases hc), rfl, (mp [] ((fun _ : Unit => ([(12, (bo false))] : EL)) ()) ((fun _ : Unit => ([] : OL)) ()) hB)⟩
                · replace h := ite_f hg927 h
                  refine AWp.skip ?_
                  refine blkQ_n ?_
                  refine seqQ_n ?_
                  refine AWp.region (oc (OpJ.add (ltN hN rfl) (ot 93 (i6 s910)) (Opd.int .i64 (1)))
                    (oc (mv hN (ot 117 (i6 (w64 (s910 + (1 : Int))))))
                    (OpJs.nil))) (by rfl) (by rfl) ?_
                  obtain rfl := Option.some.inj h
                  exact ⟨rfl, (Mat.trans (mp [] [(1, (qe_api_Series_4 a1)), (4, (i6 a4)), (5, (i6 a5)), (6, (.ptr 1006 0 [])), (15, (.ptr 1015 0 [])), (17, (qe_api_Series_4 r21.2.2.1)), (20, (.ptr 1020 0 [])), (80, (qe_api_Tariff_3 ([r21.2.1, a2, (api_Tariff.mk r21.2.1.fBase r21.2.1.fIncluded r22), (api_Tariff.mk (1099511627776 : Int) (0 : Int) (1048576 : Int))] : List api_Tariff))), (81, (i6 (([r21.2.1, a2, (api_Tariff.mk r21.2.1.fBase r21.2.1.fIncluded r22), (api_Tariff.mk (1099511627776 : Int) (0 : Int) (1048576 : Int))] : List api_Tariff).length : Int))), (82, (i6 s23)), (91, (qI_1 ([a4, r908, r909] : List Int))), (92, (i6 (([a4, r908, r909] : List Int).length : Int))), (93, (i6 (w64 (s910 + (1 : Int)))))] [(1006, some (.box 24 (.d (e_api_Member a0)))), (1015, some (.box 24 (.d (e_api_Member r21.1)))), (1020, some (.box 27 (.d (e_api_Tariff x907))))] hB) (mp [] ((fun s910 : Int => ([(1, (qe_api_Series_4 a1)), (4, (i6 a4)), (5, (i6 a5)), (6, (.ptr 1006 0 [])), (15, (.ptr 1015 0 [])), (17, (qe_api_Series_4 r21.2.2.1)), (20, (.ptr 1020 0 [])), (80, (qe_api_Tariff_3 ([r21.2.1, a2, (api_Tariff.mk r21.2.1.fBase r21.2.1.fIncluded r22), (api_Tariff.mk (1099511627776 : Int) (0 : Int) (1048576 : Int))] : List api_Tariff))), (81, (i6 (([r21.2.1, a2, (api_Tariff.mk r21.2.1.fBase r21.2.1.fIncluded r22), (api_Tariff.mk (1099511627776 : Int) (0 : Int) (1048576 : Int))] : List api_Tariff).length : Int))), (82, (i6 s23)), (91, (qI_1 ([a4, r908, r909] : List Int))), (92, (i6 (([a4, r908, r909] : List Int).length : Int))), (93, (i6 s910))] : EL)) (w64 (s910 + (1 : Int)))) ((fun s910 : Int => ([(1006, some (.box 24 (.d (e_api_Member a0)))), (1015, some (.box 24 (.d (e_api_Member r21.1)))), (1020, some (.box 27 (.d (e_api_Tariff x907))))] : OL)) (w64 (s910 + (1 : Int)))) hB))⟩
              · replace h := ite_f hg923 h
                refine AWp.exit ?_
                refine seqQ_e ?_
                obtain rfl := Option.some.inj h
                exact ⟨(fun hc => by cases hc), rfl, (mp [] ((fun _ : Unit => ([(1, (qe_api_Series_4 a1)), (4, (i6 a4)), (5, (i6 a5)), (6, (.ptr 1006 0 [])), (15, (.ptr 1015 0 [])), (17, (qe_api_Series_4 r21.2.2.1)), (20, (.ptr 1020 0 [])), (80, (qe_api_Tariff_3 ([r21.2.1, a2, (api_Tariff.mk r21.2.1.fBase r21.2.1.fIncluded r22), (api_Tariff.mk (1099511627776 : Int) (0 : Int) (1048576 : Int))] : List api_Tariff))), (81, (i6 (([r21.2.1, a2, (api_Tariff.mk r21.2.1.fBase r21.2.1.fIncluded r22), (api_Tariff.mk (1099511627776 : Int) (0 : Int) (1048576 : Int))] : List api_Tariff).length : Int))), (82, (i6 s23))] : EL)) ()) ((fun _ : Unit => ([(1006, some (.box 24 (.d (e_api_Member a0)))), (1015, some (.box 24 (.d (e_api_Member r21.1)))), (1020, some (.box 27 (.d (e_api_Tariff x907))))] : OL)) ()) hB)⟩
            · rcases x928 with _ | _
              · obtain ⟨rfl, hmat⟩ := hR
                refine blkQ_r ?_
                refine seqQ_r ?_
                refine blkQ_r ?_
                refine seqQ_r ?_
                obtain rfl := Option.some.inj h
                exact ⟨(fun hc => by cases hc), rfl, (Mat.trans hmat (mp [] ((fun _ : Unit => ([(12, (bo false))] : EL)) ()) ((fun _ : Unit => ([] : OL)) ()) hB))⟩
              · obtain ⟨rfl, hmat⟩ := hR
                refine blkQ_hit ?_
                refine seqQ_n ?_
                refine AWp.ghost hmat ?_
                refine AWp.seq ?_
                obtain ⟨hc932, h⟩ := chk_some h
                obtain ⟨hc933, h⟩ := chk_some h
                refine AWp.draws (by kernel_rfl) (oc (lb hN 24 (.d (e_api_Member r21.1)) (.d (e_api_Member r21.1)) tyS24 (At.here _) (ot 15 (.ptr 1015 0 [])))
                  (oc (lb hN 24 (.d (e_api_Member a0)) (.d (e_api_Member a0)) tyS24 (At.here _) (ot 6 (.ptr 1006 0 [])))
                  (oc (ov (.ptr 1015 5 [5]) (fp hN Try.underlying24 5 tyS22 (.box 24 (.d (e_api_Member r21.1))) (ot 15 (.ptr 1015 0 []))))
                  (oc (lb hN 24 (.d (e_api_Member r21.1)) (qe_api_Port_10 r21.1.fPorts) tyS22 (ad (.list 10 (r21.1.fPorts.map e_api_Port))) (ot 120 (.ptr 1015 5 [5])))
                  (oc (OpJ.appendN hB Try.underlying22 tyE68 (nm := 1122) (by decide) (ys := r21.1.fPorts.map e_api_Port) (len := r21.1.fPorts.length) (by simp) (map_sz (f := e_api_Port) (fun _ => rfl)) (by rw [List.length_map]; exact lim_mulN hc932 (by decide)) (by rw [List.length_map]; exact lim_leN hc932) (ltN hN rfl) Opd.nils (ot 121 (qe_api_Port_10 r21.1.fPorts)))
                  (oc (ov (.ptr 1015 5 [5]) (fp hN Try.underlying24 5 tyS22 (.box 24 (.d (e_api_Member r21.1))) (ot 15 (.ptr 1015 0 []))))
                  (oc (lb hN 24 (.d (e_api_Member r21.1)) (qe_api_Port_10 r21.1.fPorts) tyS22 (ad (.list 10 (r21.1.fPorts.map e_api_Port))) (ot 123 (.ptr 1015 5 [5])))
                  (oc (OpJ.frz (OpJ.append hB Try.underlying22 tyE68 (nm := 1125) (by decide) (es := r21.1.fPorts.map e_api_Port) (ys := r21.1.fPorts.map e_api_Port) (es' := (r21.1.fPorts ++ r21.1.fPorts).map e_api_Port) (len := (r21.1.fPorts ++ r21.1.fPorts).length) (by simp) (by simp) (map_sz (f := e_api_Port) (fun _ => rfl)) (by rw [List.length_map]; exact lim_mulN hc933 (by decide)) (by rw [List.length_map]; exact lim_leN hc933) (ltN hN rfl) (by simp) (ot 122 (.sref 1122 10 0 r21.1.fPorts.length)) (ot 124 (qe_api_Port_10 r21.1.fPorts))) (by simp))
                  (oc (OpJ.coe (v := (.st [(i6 (101 : Int)), (.d (.str ([] : List UInt8))), (.d (.str ([] : List UInt8))), (i6 0), (i6 0), (qe_api_Port_10 (r21.1.fPorts ++ r21.1.fPorts))])) (y := (.st [(.int .i64 (101 : Int)), (.str ([] : List UInt8)), (.str ([] : List UInt8)), (.int .i64 0), (.int .i64 0), (.list 10 ((r21.1.fPorts ++ r21.1.fPorts).map e_api_Port))])) (Co.st (CoL.cons (Co.d _) (CoL.cons (Co.d _) (CoL.cons (Co.d _) (CoL.cons (Co.d _) (CoL.cons (Co.d _) (CoL.cons (Co.d _) CoL.nil))))))) rfl (OpJ.build (places := [(0, 1), (1, 1), (2, 1), (3, 1), (4, 1), (5, 1)]) ⟨Try.underlying24, fun w => by kernel_rfl⟩ tyZS24 (Opds.cons (Opd.int .i64 (101)) (Opds.cons (ot 125 (qe_api_Port_10 (r21.1.fPorts ++ r21.1.fPorts))) Opds.nil)) (by kernel_rfl) (r := (.st [(i6 (101 : Int)), (.d (.str ([] : List UInt8))), (.d (.str ([] : List UInt8))), (i6 0), (i6 0), (qe_api_Port_10 (r21.1.fPorts ++ r21.1.fPorts))])) (by rfl) (ltN hN rfl)))
                  (oc (OpJ.buildSlice Try.underlying41 tyS24 tyZD24 (by rfl) (by decide) (by decide) (Opds.cons (ot 118 (.d (e_api_Member r21.1))) (Opds.cons (ot 119 (.d (e_api_Member a0))) (Opds.cons (ot 126 (.d (.st [(.int .i64 (101 : Int)), (.str ([] : List UInt8)), (.str ([] : List UInt8)), (.int .i64 0), (.int .i64 0), (.list 10 ((r21.1.fPorts ++ r21.1.fPorts).map e_api_Port))]))) Opds.nil))) (by kernel_rfl) (es := ([(e_api_Member r21.1), (e_api_Member a0), (.st [(.int .i64 (101 : Int)), (.str ([] : List UInt8)), (.str ([] : List UInt8)), (.int .i64 0), (.int .i64 0), (.list 10 ((r21.1.fPorts ++ r21.1.fPorts).map e_api_Port))])] : List D)) (by rfl) (by rfl) (by kernel_rfl) (by simp) (ltN hN rfl))
                  (oc (OpJ.val (v' := (i6 (([r21.1, a0, (api_Member.mk (101 : Int) ([] : List UInt8) ([] : List UInt8) (0 : Int) (0 : Int) (r21.1.fPorts ++ r21.1.fPorts))] : List api_Member).length : Int))) (by simp) (OpJ.lenD Try.underlying41 (ltN hN rfl) (ot 127 (qe_api_Member_6 ([r21.1, a0, (api_Member.mk (101 : Int) ([] : List UInt8) ([] : List UInt8) (0 : Int) (0 : Int) (r21.1.fPorts ++ r21.1.fPorts))] : List api_Member)))))
                  (oc (mv hN (Opd.int .i64 (0)))
                  (OpJs.nil))))))))))))) (by kernel_rfl) (by rfl) (by rfl) ?_
                refine seqQ_n ?_
                refine AWp.ghost (mp [] [(1, (qe_api_Series_4 a1)), (4, (i6 a4)), (5, (i6 a5)), (6, (.ptr 1006 0 [])), (15, (.ptr 1015 0 [])), (17, (qe_api_Series_4 r21.2.2.1)), (20, (.ptr 1020 0 [])), (80, (qe_api_Tariff_3 ([r21.2.1, a2, (api_Tariff.mk r21.2.1.fBase r21.2.1.fIncluded r22), (api_Tariff.mk (1099511627776 : Int) (0 : Int) (1048576 : Int))] : List api_Tariff))), (81, (i6 (([r21.2.1, a2, (api_Tariff.mk r21.2.1.fBase r21.2.1.fIncluded r22), (api_Tariff.mk (1099511627776 : Int) (0 : Int) (1048576 : Int))] : List api_Tariff).length : Int))), (82, (i6 s23)), (127, (qe_api_Member_6 ([r21.1, a0, (api_Member.mk (101 : Int) ([] : List UInt8) ([] : List UInt8) (0 : Int) (0 : Int) (r21.1.fPorts ++ r21.1.fPorts))] : List api_Member))), (128, (i6 (([r21.1, a0, (api_Member.mk (101 : Int) ([] : List UInt8) ([] : List UInt8) (0 : Int) (0 : Int) (r21.1.fPorts ++ r21.1.fPorts))] : List api_Member).length : Int))), (129, (i6 0))] [(1006, some (.box 24 (.d (e_api_Member a0)))), (1015, some (.box 24 (.d (e_api_Member r21.1)))), (1020, some (.box 27 (.d (e_api_Tariff x907))))] hB) ?_
                refine AWp.block ?_
                obtain ⟨x1340, hx1341, h⟩ := bindS h
                refine AWp.ghost (mp [] ((fun s934 : Int => ([(1, (qe_api_Series_4 a1)), (4, (i6 a4)), (5, (i6 a5)), (6, (.ptr 1006 0 [])), (15, (.ptr 1015 0 [])), (17, (qe_api_Series_4 r21.2.2.1)), (20, (.ptr 1020 0 [])), (80, (qe_api_Tariff_3 ([r21.2.1, a2, (api_Tariff.mk r21.2.1.fBase r21.2.1.fIncluded r22), (api_Tariff.mk (1099511627776 : Int) (0 : Int) (1048576 : Int))] : List api_Tariff))), (81, (i6 (([r21.2.1, a2, (api_Tariff.mk r21.2.1.fBase r21.2.1.fIncluded r22), (api_Tariff.mk (1099511627776 : Int) (0 : Int) (1048576 : Int))] : List api_Tariff).length : Int))), (82, (i6 s23)), (127, (qe_api_Member_6 ([r21.1, a0, (api_Member.mk (101 : Int) ([] : List UInt8) ([] : List UInt8) (0 : Int) (0 : Int) (r21.1.fPorts ++ r21.1.fPorts))] : List api_Member))), (128, (i6 (([r21.1, a0, (api_Member.mk (101 : Int) ([] : List UInt8) ([] : List UInt8) (0 : Int) (0 : Int) (r21.1.fPorts ++ r21.1.fPorts))] : List api_Member).length : Int))), (129, (i6 s934))] : EL)) (0 : Int)) ((fun s934 : Int => ([(1006, some (.box 24 (.d (e_api_Member a0)))), (1015, some (.box 24 (.d (e_api_Member r21.1)))), (1020, some (.box 27 (.d (e_api_Tariff x907))))] : OL)) (0 : Int)) hB) ?_
                refine AWp.loopS (exchangepointlaw41_InvoiceMakes_L3 a0 a1 a5 r21 x907) (fun s934 : Int => ([(1, (qe_api_Series_4 a1)), (4, (i6 a4)), (5, (i6 a5)), (6, (.ptr 1006 0 [])), (15, (.ptr 1015 0 [])), (17, (qe_api_Series_4 r21.2.2.1)), (20, (.ptr 1020 0 [])), (80, (qe_api_Tariff_3 ([r21.2.1, a2, (api_Tariff.mk r21.2.1.fBase r21.2.1.fIncluded r22), (api_Tariff.mk (1099511627776 : Int) (0 : Int) (1048576 : Int))] : List api_Tariff))), (81, (i6 (([r21.2.1, a2, (api_Tariff.mk r21.2.1.fBase r21.2.1.fIncluded r22), (api_Tariff.mk (1099511627776 : Int) (0 : Int) (1048576 : Int))] : List api_Tariff).length : Int))), (82, (i6 s23)), (127, (qe_api_Member_6 ([r21.1, a0, (api_Member.mk (101 : Int) ([] : List UInt8) ([] : List UInt8) (0 : Int) (0 : Int) (r21.1.fPorts ++ r21.1.fPorts))] : List api_Member))), (128, (i6 (([r21.1, a0, (api_Member.mk (101 : Int) ([] : List UInt8) ([] : List UInt8) (0 : Int) (0 : Int) (r21.1.fPorts ++ r21.1.fPorts))] : List api_Member).length : Int))), (129, (i6 s934))] : EL)) (fun s934 : Int => ([(1006, some (.box 24 (.d (e_api_Member a0)))), (1015, some (.box 24 (.d (e_api_Member r21.1)))), (1020, some (.box 27 (.d (e_api_Tariff x907))))] : OL)) (fun (x : (Unit) ⊕ (Unit)) e E' O' => match x with | (.inl _p) => e = .ret ∧ Mat B E' O' ([(12, (bo false))] : EL) ([] : OL) | (.inr _p) => e = .exit 6 ∧ Mat B E' O' ([(1, (qe_api_Series_4 a1)), (4, (i6 a4)), (5, (i6 a5)), (6, (.ptr 1006 0 [])), (15, (.ptr 1015 0 [])), (17, (qe_api_Series_4 r21.2.2.1)), (80, (qe_api_Tariff_3 ([r21.2.1, a2, (api_Tariff.mk r21.2.1.fBase r21.2.1.fIncluded r22), (api_Tariff.mk (1099511627776 : Int) (0 : Int) (1048576 : Int))] : List api_Tariff))), (81, (i6 (([r21.2.1, a2, (api_Tariff.mk r21.2.1.fBase r21.2.1.fIncluded r22), (api_Tariff.mk (1099511627776 : Int) (0 : Int) (1048576 : Int))] : List api_Tariff).length : Int))), (82, (i6 s23))] : EL) ([(1006, some (.box 24 (.d (e_api_Member a0)))), (1015, some (.box 24 (.d (e_api_Member r21.1))))] : OL)) hx1341 (fun s934 y h => ?_) (fun e E' O' hR => ?_)
                · unfold exchangepointlaw41_InvoiceMakes_L3 at h
                  show AWp _ _ _ _ ([(1, (qe_api_Series_4 a1)), (4, (i6 a4)), (5, (i6 a5)), (6, (.ptr 1006 0 [])), (15, (.ptr 1015 0 [])), (17, (qe_api_Series_4 r21.2.2.1)), (20, (.ptr 1020 0 [])), (80, (qe_api_Tariff_3 ([r21.2.1, a2, (api_Tariff.mk r21.2.1.fBase r21.2.1.fIncluded r22), (api_Tariff.mk (1099511627776 : Int) (0 : Int) (1048576 : Int))] : List api_Tariff))), (81, (i6 (([r21.2.1, a2, (api_Tariff.mk r21.2.1.fBase r21.2.1.fIncluded r22), (api_Tariff.mk (1099511627776 : Int) (0 : Int) (1048576 : Int))] : List api_Tariff).length : Int))), (82, (i6 s23)), (127, (qe_api_Member_6 ([r21.1, a0, (api_Member.mk (101 : Int) ([] : List UInt8) ([] : List UInt8) (0 : Int) (0 : Int) (r21.1.fPorts ++ r21.1.fPorts))] : List api_Member))), (128, (i6 (([r21.1, a0, (api_Member.mk (101 : Int) ([] : List UInt8) ([] : List UInt8) (0 : Int) (0 : Int) (r21.1.fPorts ++ r21.1.fPorts))] : List api_Member).length : Int))), (129, (i6 s934))] : EL) ([(1006, some (.box 24 (.d (e_api_Member a0)))), (1015, some (.box 24 (.d (e_api_Member r21.1)))), (1020, some (.box 27 (.d (e_api_Tariff x907))))] : OL)
                  refine AWp.seq ?_
                  refine AWp.region (oc (OpJ.lss (ltN hN rfl) (ot 129 (i6 s934)) (ot 128 (i6 (([r21.1, a0, (api_Member.mk (101 : Int) ([] : List UInt8) ([] : List UInt8) (0 : Int) (0 : Int) (r21.1.fPorts ++ r21.1.fPorts))] : List api_Member).length : Int))))
                    (OpJs.nil)) (by rfl) (by rfl) ?_
                  refine seqQ_n ?_
                  refine AWp.ghost (mp [] [(1, (qe_api_Series_4 a1)), (4, (i6 a4)), (5, (i6 a5)), (6, (.ptr 1006 0 [])), (15, (.ptr 1015 0 [])), (17, (qe_api_Series_4 r21.2.2.1)), (20, (.ptr 1020 0 [])), (80, (qe_api_Tariff_3 ([r21.2.1, a2, (api_Tariff.mk r21.2.1.fBase r21.2.1.fIncluded r22), (api_Tariff.mk (1099511627776 : Int) (0 : Int) (1048576 : Int))] : List api_Tariff))), (81, (i6 (([r21.2.1, a2, (api_Tariff.mk r21.2.1.fBase r21.2.1.fIncluded r22), (api_Tariff.mk (1099511627776 : Int) (0 : Int) (1048576 : Int))] : List api_Tariff).length : Int))), (82, (i6 s23)), (127, (qe_api_Member_6 ([r21.1, a0, (api_Member.mk (101 : Int) ([] : List UInt8) ([] : List UInt8) (0 : Int) (0 : Int) (r21.1.fPorts ++ r21.1.fPorts))] : List api_Member))), (128, (i6 (([r21.1, a0, (api_Member.mk (101 : Int) ([] : List UInt8) ([] : List UInt8) (0 : Int) (0 : Int) (r21.1.fPorts ++ r21.1.fPorts))] : List api_Member).length : Int))), (129, (i6 s934)), (130, (bo (decide (s934 < (([r21.1, a0, (api_Member.mk (101 : Int) ([] : List UInt8) ([] : List UInt8) (0 : Int) (0 : Int) (r21.1.fPorts ++ r21.1.fPorts))] : List api_Member).length : Int)))))] [(1006, some (.box 24 (.d (e_api_Member a0)))), (1015, some (.box 24 (.d (e_api_Member r21.1)))), (1020, some (.box 27 (.d (e_api_Tariff x907))))] hB) ?_
                  refine AWp.seq ?_
                  refine AWp.cond (b := (decide (s934 < (([r21.1, a0, (api_Member.mk (101 : Int) ([] : List UInt8) ([] : List UInt8) (0 : Int) (0 : Int) (r21.1.fPorts ++ r21.1.fPorts))] : List api_Member).length : Int)))) (by rfl) (fun hg1207 => ?_) (fun hg1207 => ?_)
                  · replace h := ite_t hg1207 h
                    refine AWp.skip ?_
                    refine seqQ_n ?_
                    refine AWp.seq ?_
                    refine AWp.block ?_
                    refine AWp.seq ?_
                    obtain ⟨x1208, hx1208, h⟩ := bindS h
                    refine AWp.region (oc (OpJ.indexD (el := (e_api_Member x1208)) Try.underlying41 tyS24 (idx_some hx1208).1 (get_map e_api_Member (idx_some hx1208).2) (ltN hN rfl) (ot 127 (qe_api_Member_6 ([r21.1, a0, (api_Member.mk (101 : Int) ([] : List UInt8) ([] : List UInt8) (0 : Int) (0 : Int) (r21.1.fPorts ++ r21.1.fPorts))] : List api_Member))) (ot 129 (i6 s934)))
                      (oc (OpJ.loadD tyS24 (by rfl) (by rfl) (ltN hN rfl) (ot 131 (.dptr (e_api_Member x1208))))
                      (oc (OpJ.alloc hB tyZ24 (nm := 1028) (by decide) (ltN hN rfl))
                      (oc (OpJ.storeB (bt := 24) (c := (.st [(i6 0), (.d (.str ([] : List UInt8))), (.d (.str ([] : List UInt8))), (i6 0), (i6 0), .nils])) (v := (.d (e_api_Member x1208))) (c' := (.d (e_api_Member x1208))) tyS24 (SetAt.here _ _) (by rfl) (by rfl) (by simp) rfl (ot 28 (.ptr 1028 0 [])) (ot 132 (.d (e_api_Member x1208))))
                      (OpJs.nil))))) (by rfl) (by rfl) ?_
                    refine seqQ_n ?_
                    refine AWp.ghost (mp [] [(1, (qe_api_Series_4 a1)), (4, (i6 a4)), (5, (i6 a5)), (6, (.ptr 1006 0 [])), (15, (.ptr 1015 0 [])), (17, (qe_api_Series_4 r21.2.2.1)), (20, (.ptr 1020 0 [])), (28, (.ptr 1028 0 [])), (80, (qe_api_Tariff_3 ([r21.2.1, a2, (api_Tariff.mk r21.2.1.fBase r21.2.1.fIncluded r22), (api_Tariff.mk (1099511627776 : Int) (0 : Int) (1048576 : Int))] : List api_Tariff))), (81, (i6 (([r21.2.1, a2, (api_Tariff.mk r21.2.1.fBase r21.2.1.fIncluded r22), (api_Tariff.mk (1099511627776 : Int) (0 : Int) (1048576 : Int))] : List api_Tariff).length : Int))), (82, (i6 s23)), (127, (qe_api_Member_6 ([r21.1, a0, (api_Member.mk (101 : Int) ([] : List UInt8) ([] : List UInt8) (0 : Int) (0 : Int) (r21.1.fPorts ++ r21.1.fPorts))] : List api_Member))), (128, (i6 (([r21.1, a0, (api_Member.mk (101 : Int) ([] : List UInt8) ([] : List UInt8) (0 : Int) (0 : Int) (r21.1.fPorts ++ r21.1.fPorts))] : List api_Member).length : Int))), (129, (i6 s934))] [(1006, some (.box 24 (.d (e_api_Member a0)))), (1015, some (.box 24 (.d (e_api_Member r21.1)))), (1020, some (.box 27 (.d (e_api_Tariff x907)))), (1028, some (.box 24 (.d (e_api_Member x1208))))] hB) ?_
                    refine AWp.seq ?_
                    obtain ⟨hc1209, h⟩ := chk_some h
                    refine AWp.region (oc (mv hN (ot 17 (qe_api_Series_4 r21.2.2.1)))
                      (oc (mv hN (ot 1 (qe_api_Series_4 a1)))
                      (oc (mv hN (ot 17 (qe_api_Series_4 r21.2.2.1)))
                      (oc (OpJ.cutD Try.underlying25 tyS31 (es := r21.2.2.1.map e_api_Series) (es' := ((r21.2.2.1.take r21.2.2.1.length).drop 1).map e_api_Series) (l := 1) (h := r21.2.2.1.length) (.inr ⟨_, _, _, rfl, (Opd.int .i64 (1)), (of_decide_eq_true (and_l2 (and_l2 hc1209))), rfl⟩) (.inl ⟨rfl, by simp, rfl⟩) (of_decide_eq_true (and_r2 (and_l2 hc1209))) (by first | (simp; done) | simpa using (of_decide_eq_true (and_r2 hc1209))) (by first | rw [List.map_drop, List.map_take] | simp [List.map_take, List.map_drop]) (ltN hN rfl) (ot 135 (qe_api_Series_4 r21.2.2.1)))
                      (oc (OpJ.buildSlice Try.underlying42 tyS25 tyZD25 (by rfl) (by decide) (by decide) (Opds.cons (ot 133 (qe_api_Series_4 r21.2.2.1)) (Opds.cons (ot 134 (qe_api_Series_4 a1)) (Opds.cons (ot 136 (qe_api_Series_4 ((r21.2.2.1.take r21.2.2.1.length).drop 1))) Opds.nil))) (by kernel_rfl) (es := ([(.list 4 (r21.2.2.1.map e_api_Series)), (.list 4 (a1.map e_api_Series)), (.list 4 (((r21.2.2.1.take r21.2.2.1.length).drop 1).map e_api_Series))] : List D)) (by rfl) (by rfl) (by kernel_rfl) (by simp) (ltN hN rfl))
                      (oc (OpJ.val (v' := (i6 (([r21.2.2.1, a1, ((r21.2.2.1.take r21.2.2.1.length).drop 1)] : List (List api_Series)).length : Int))) (by simp) (OpJ.lenD Try.underlying42 (ltN hN rfl) (ot 137 (.d (.list 1 (([r21.2.2.1, a1, ((r21.2.2.1.take r21.2.2.1.length).drop 1)] : List (List api_Series)).map e_LeapiSeries))))))
                      (oc (mv hN (Opd.int .i64 (0)))
                      (OpJs.nil)))))))) (by rfl) (by rfl) ?_
                    refine seqQ_n ?_
                    refine AWp.ghost (mp [] [(1, (qe_api_Series_4 a1)), (4, (i6 a4)), (5, (i6 a5)), (6, (.ptr 1006 0 [])), (15, (.ptr 1015 0 [])), (17, (qe_api_Series_4 r21.2.2.1)), (20, (.ptr 1020 0 [])), (28, (.ptr 1028 0 [])), (80, (qe_api_Tariff_3 ([r21.2.1, a2, (api_Tariff.mk r21.2.1.fBase r21.2.1.fIncluded r22), (api_Tariff.mk (1099511627776 : Int) (0 : Int) (1048576 : Int))] : List api_Tariff))), (81, (i6 (([r21.2.1, a2, (api_Tariff.mk r21.2.1.fBase r21.2.1.fIncluded r22), (api_Tariff.mk (1099511627776 : Int) (0 : Int) (1048576 : Int))] : List api_Tariff).length : Int))), (82, (i6 s23)), (127, (qe_api_Member_6 ([r21.1, a0, (api_Member.mk (101 : Int) ([] : List UInt8) ([] : List UInt8) (0 : Int) (0 : Int) (r21.1.fPorts ++ r21.1.fPorts))] : List api_Member))), (128, (i6 (([r21.1, a0, (api_Member.mk (101 : Int) ([] : List UInt8) ([] : List UInt8) (0 : Int) (0 : Int) (r21.1.fPorts ++ r21.1.fPorts))] : List api_Member).length : Int))), (129, (i6 s934)), (137, (.d (.list 1 (([r21.2.2.1, a1, ((r21.2.2.1.take r21.2.2.1.length).drop 1)] : List (List api_Series)).map e_LeapiSeries)))), (138, (i6 (([r21.2.2.1, a1, ((r21.2.2.1.take r21.2.2.1.length).drop 1)] : List (List api_Series)).length : Int))), (139, (i6 0))] [(1006, some (.box 24 (.d (e_api_Member a0)))), (1015, some (.box 24 (.d (e_api_Member r21.1)))), (1020, some (.box 27 (.d (e_api_Tariff x907)))), (1028, some (.box 24 (.d (e_api_Member x1208))))] hB) ?_
                    refine AWp.block ?_
                    obtain ⟨x1338, hx1339, h⟩ := bindS h
                    refine AWp.ghost (mp [] ((fun s1210 : Int => ([(1, (qe_api_Series_4 a1)), (4, (i6 a4)), (5, (i6 a5)), (6, (.ptr 1006 0 [])), (15, (.ptr 1015 0 [])), (17, (qe_api_Series_4 r21.2.2.1)), (20, (.ptr 1020 0 [])), (28, (.ptr 1028 0 [])), (80, (qe_api_Tariff_3 ([r21.2.1, a2, (api_Tariff.mk r21.2.1.fBase r21.2.1.fIncluded r22), (api_Tariff.mk (1099511627776 : Int) (0 : Int) (1048576 : Int))] : List api_Tariff))), (81, (i6 (([r21.2.1, a2, (api_Tariff.mk r21.2.1.fBase r21.2.1.fIncluded r22), (api_Tariff.mk (1099511627776 : Int) (0 : Int) (1048576 : Int))] : List api_Tariff).length : Int))), (82, (i6 s23)), (127, (qe_api_Member_6 ([r21.1, a0, (api_Member.mk (101 : Int) ([] : List UInt8) ([] : List UInt8) (0 : Int) (0 : Int) (r21.1.fPorts ++ r21.1.fPorts))] : List api_Member))), (128, (i6 (([r21.1, a0, (api_Member.mk (101 : Int) ([] : List UInt8) ([] : List UInt8) (0 : Int) (0 : Int) (r21.1.fPorts ++ r21.1.fPorts))] : List api_Member).length : Int))), (129, (i6 s934)), (137, (.d (.list 1 (([r21.2.2.1, a1, ((r21.2.2.1.take r21.2.2.1.length).drop 1)] : List (List api_Series)).map e_LeapiSeries)))), (138, (i6 (([r21.2.2.1, a1, ((r21.2.2.1.take r21.2.2.1.length).drop 1)] : List (List api_Series)).length : Int))), (139, (i6 s1210))] : EL)) (0 : Int)) ((fun s1210 : Int => ([(1006, some (.box 24 (.d (e_api_Member a0)))), (1015, some (.box 24 (.d (e_api_Member r21.1)))), (1020, some (.box 27 (.d (e_api_Tariff x907)))), (1028, some (.box 24 (.d (e_api_Member x1208))))] : OL)) (0 : Int)) hB) ?_
                    refine AWp.loopS (exchangepointlaw41_InvoiceMakes_L4 a1 a5 r21 x907 x1208) (fun s1210 : Int => ([(1, (qe_api_Series_4 a1)), (4, (i6 a4)), (5, (i6 a5)), (6, (.ptr 1006 0 [])), (15, (.ptr 1015 0 [])), (17, (qe_api_Series_4 r21.2.2.1)), (20, (.ptr 1020 0 [])), (28, (.ptr 1028 0 [])), (80, (qe_api_Tariff_3 ([r21.2.1, a2, (api_Tariff.mk r21.2.1.fBase r21.2.1.fIncluded r22), (api_Tariff.mk (1099511627776 : Int) (0 : Int) (1048576 : Int))] : List api_Tariff))), (81, (i6 (([r21.2.1, a2, (api_Tariff.mk r21.2.1.fBase r21.2.1.fIncluded r22), (api_Tariff.mk (1099511627776 : Int) (0 : Int) (1048576 : Int))] : List api_Tariff).length : Int))), (82, (i6 s23)), (127, (qe_api_Member_6 ([r21.1, a0, (api_Member.mk (101 : Int) ([] : List UInt8) ([] : List UInt8) (0 : Int) (0 : Int) (r21.1.fPorts ++ r21.1.fPorts))] : List api_Member))), (128, (i6 (([r21.1, a0, (api_Member.mk (101 : Int) ([] : List UInt8) ([] : List UInt8) (0 : Int) (0 : Int) (r21.1.fPorts ++ r21.1.fPorts))] : List api_Member).length : Int))), (129, (i6 s934)), (137, (.d (.list 1 (([r21.2.2.1, a1, ((r21.2.2.1.take r21.2.2.1.length).drop 1)] : List (List api_Series)).map e_LeapiSeries)))), (138, (i6 (([r21.2.2.1, a1, ((r21.2.2.1.take r21.2.2.1.length).drop 1)] : List (List api_Series)).length : Int))), (139, (i6 s1210))] : EL)) (fun s1210 : Int => ([(1006, some (.box 24 (.d (e_api_Member a0)))), (1015, some (.box 24 (.d (e_api_Member r21.1)))), (1020, some (.box 27 (.d (e_api_Tariff x907)))), (1028, some (.box 24 (.d (e_api_Member x1208))))] : OL)) (fun (x : (Unit) ⊕ (Unit)) e E' O' => match x with | (.inl _p) => e = .ret ∧ Mat B E' O' ([(12, (bo false))] : EL) ([] : OL) | (.inr _p) => e = .exit 8 ∧ Mat B E' O' ([(1, (qe_api_Series_4 a1)), (4, (i6 a4)), (5, (i6 a5)), (6, (.ptr 1006 0 [])), (15, (.ptr 1015 0 [])), (17, (qe_api_Series_4 r21.2.2.1)), (20, (.ptr 1020 0 [])), (80, (qe_api_Tariff_3 ([r21.2.1, a2, (api_Tariff.mk r21.2.1.fBase r21.2.1.fIncluded r22), (api_Tariff.mk (1099511627776 : Int) (0 : Int) (1048576 : Int))] : List api_Tariff))), (81, (i6 (([r21.2.1, a2, (api_Tariff.mk r21.2.1.fBase r21.2.1.fIncluded r22), (api_Tariff.mk (1099511627776 : Int) (0 : Int) (1048576 : Int))] : List api_Tariff).length : Int))), (82, (i6 s23)), (127, (qe_api_Member_6 ([r21.1, a0, (api_Member.mk (101 : Int) ([] : List UInt8) ([] : List UInt8) (0 : Int) (0 : Int) (r21.1.fPorts ++ r21.1.fPorts))] : List api_Member))), (128, (i6 (([r21.1, a0, (api_Member.mk (101 : Int) ([] : List UInt8) ([] : List UInt8) (0 : Int) (0 : Int) (r21.1.fPorts ++ r21.1.fPorts))] : List api_Member).length : Int))), (129, (i6 s934))] : EL) ([(1006, some (.box 24 (.d (e_api_Member a0)))), (1015, some (.box 24 (.d (e_api_Member r21.1)))), (1020, some (.box 27 (.d (e_api_Tariff x907))))] : OL)) hx1339 (fun s1210 y h => ?_) (fun e E' O' hR => ?_)
                    · unfold exchangepointlaw41_InvoiceMakes_L4 at h
                      show AWp _ _ _ _ ([(1, (qe_api_Series_4 a1)), (4, (i6 a4)), (5, (i6 a5)), (6, (.ptr 1006 0 [])), (15, (.ptr 1015 0 [])), (17, (qe_api_Series_4 r21.2.2.1)), (20, (.ptr 1020 0 [])), (28, (.ptr 1028 0 [])), (80, (qe_api_Tariff_3 ([r21.2.1, a2, (api_Tariff.mk r21.2.1.fBase r21.2.1.fIncluded r22), (api_Tariff.mk (1099511627776 : Int) (0 : Int) (1048576 : Int))] : List api_Tariff))), (81, (i6 (([r21.2.1, a2, (api_Tariff.mk r21.2.1.fBase r21.2.1.fIncluded r22), (api_Tariff.mk (1099511627776 : Int) (0 : Int) (1048576 : Int))] : List api_Tariff).length : Int))), (82, (i6 s23)), (127, (qe_api_Member_6 ([r21.1, a0, (api_Member.mk (101 : Int) ([] : List UInt8) ([] : List UInt8) (0 : Int) (0 : Int) (r21.1.fPorts ++ r21.1.fPorts))] : List api_Member))), (128, (i6 (([r21.1, a0, (api_Member.mk (101 : Int) ([] : List UInt8) ([] : List UInt8) (0 : Int) (0 : Int) (r21.1.fPorts ++ r21.1.fPorts))] : List api_Member).length : Int))), (129, (i6 s934)), (137, (.d (.list 1 (([r21.2.2.1, a1, ((r21.2.2.1.take r21.2.2.1.length).drop 1)] : List (List api_Series)).map e_LeapiSeries)))), (138, (i6 (([r21.2.2.1, a1, ((r21.2.2.1.take r21.2.2.1.length).drop 1)] : List (List api_Series)).length : Int))), (139, (i6 s1210))] : EL) ([(1006, some (.box 24 (.d (e_api_Member a0)))), (1015, some (.box 24 (.d (e_api_Member r21.1)))), (1020, some (.box 27 (.d (e_api_Tariff x907)))), (1028, some (.box 24 (.d (e_api_Member x1208))))] : OL)
                      refine AWp.seq ?_
                      refine AWp.region (oc (OpJ.lss (ltN hN rfl) (ot 139 (i6 s1210)) (ot 138 (i6 (([r21.2.2.1, a1, ((r21.2.2.1.take r21.2.2.1.length).drop 1)] : List (List api_Series)).length : Int))))
                        (OpJs.nil)) (by rfl) (by rfl) ?_
                      refine seqQ_n ?_
                      refine AWp.ghost (mp [] [(1, (qe_api_Series_4 a1)), (4, (i6 a4)), (5, (i6 a5)), (6, (.ptr 1006 0 [])), (15, (.ptr 1015 0 [])), (17, (qe_api_Series_4 r21.2.2.1)), (20, (.ptr 1020 0 [])), (28, (.ptr 1028 0 [])), (80, (qe_api_Tariff_3 ([r21.2.1, a2, (api_Tariff.mk r21.2.1.fBase r21.2.1.fIncluded r22), (api_Tariff.mk (1099511627776 : Int) (0 : Int) (1048576 : Int))] : List api_Tariff))), (81, (i6 (([r21.2.1, a2, (api_Tariff.mk r21.2.1.fBase r21.2.1.fIncluded r22), (api_Tariff.mk (1099511627776 : Int) (0 : Int) (1048576 : Int))] : List api_Tariff).length : Int))), (82, (i6 s23)), (127, (qe_api_Member_6 ([r21.1, a0, (api_Member.mk (101 : Int) ([] : List UInt8) ([] : List UInt8) (0 : Int) (0 : Int) (r21.1.fPorts ++ r21.1.fPorts))] : List api_Member))), (128, (i6 (([r21.1, a0, (api_Member.mk (101 : Int) ([] : List UInt8) ([] : List UInt8) (0 : Int) (0 : Int) (r21.1.fPorts ++ r21.1.fPorts))] : List api_Member).length : Int))), (129, (i6 s934)), (137, (.d (.list 1 (([r21.2.2.1, a1, ((r21.2.2.1.take r21.2.2.1.length).drop 1)] : List (List api_Series)).map e_LeapiSeries)))), (138, (i6 (([r21.2.2.1, a1, ((r21.2.2.1.take r21.2.2.1.length).drop 1)] : List (List api_Series)).length : Int))), (139, (i6 s1210)), (140, (bo (decide (s1210 < (([r21.2.2.1, a1, ((r21.2.2.1.take r21.2.2.1.length).drop 1)] : List (List api_Series)).length : Int)))))] [(1006, some (.box 24 (.d (e_api_Member a0)))), (1015, some (.box 24 (.d (e_api_Member r21.1)))), (1020, some (.box 27 (.d (e_api_Tariff x907)))), (1028, some (.box 24 (.d (e_api_Member x1208))))] hB) ?_
                      refine AWp.seq ?_
                      refine AWp.cond (b := (decide (s1210 < (([r21.2.2.1, a1, ((r21.2.2.1.take r21.2.2.1.length).drop 1)] : List (List api_Series)).length : Int)))) (by rfl) (fun hg1297 => ?_) (fun hg1297 => ?_)
                      · replace h := ite_t hg1297 h
                        refine AWp.skip ?_
                        refine seqQ_n ?_
                        refine AWp.seq ?_
                        refine AWp.block ?_
                        refine AWp.seq ?_
                        obtain ⟨x1298, hx1298, h⟩ := bindS h
                        refine AWp.region (oc (OpJ.indexD (el := (.list 4 (x1298.map e_api_Series))) Try.underlying42 tyS25 (idx_some hx1298).1 (get_map e_LeapiSeries (idx_some hx1298).2) (ltN hN rfl) (ot 137 (.d (.list 1 (([r21.2.2.1, a1, ((r21.2.2.1.take r21.2.2.1.length).drop 1)] : List (List api_Series)).map e_LeapiSeries)))) (ot 139 (i6 s1210)))
                          (oc (OpJ.loadD tyS25 (by rfl) (by rfl) (ltN hN rfl) (ot 141 (.dptr (.list 4 (x1298.map e_api_Series)))))
                          (oc (OpJ.assign (ltN hN rfl) (ot 142 (qe_api_Series_4 x1298)))
                          (OpJs.nil)))) (by rfl) (by rfl) ?_
                        refine seqQ_n ?_
                        refine AWp.ghost (mp [] [(1, (qe_api_Series_4 a1)), (4, (i6 a4)), (5, (i6 a5)), (6, (.ptr 1006 0 [])), (15, (.ptr 1015 0 [])), (17, (qe_api_Series_4 r21.2.2.1)), (20, (.ptr 1020 0 [])), (28, (.ptr 1028 0 [])), (30, (qe_api_Series_4 x1298)), (80, (qe_api_Tariff_3 ([r21.2.1, a2, (api_Tariff.mk r21.2.1.fBase r21.2.1.fIncluded r22), (api_Tariff.mk (1099511627776 : Int) (0 : Int) (1048576 : Int))] : List api_Tariff))), (81, (i6 (([r21.2.1, a2, (api_Tariff.mk r21.2.1.fBase r21.2.1.fIncluded r22), (api_Tariff.mk (1099511627776 : Int) (0 : Int) (1048576 : Int))] : List api_Tariff).length : Int))), (82, (i6 s23)), (127, (qe_api_Member_6 ([r21.1, a0, (api_Member.mk (101 : Int) ([] : List UInt8) ([] : List UInt8) (0 : Int) (0 : Int) (r21.1.fPorts ++ r21.1.fPorts))] : List api_Member))), (128, (i6 (([r21.1, a0, (api_Member.mk (101 : Int) ([] : List UInt8) ([] : List UInt8) (0 : Int) (0 : Int) (r21.1.fPorts ++ r21.1.fPorts))] : List api_Member).length : Int))), (129, (i6 s934)), (137, (.d (.list 1 (([r21.2.2.1, a1, ((r21.2.2.1.take r21.2.2.1.length).drop 1)] : List (List api_Series)).map e_LeapiSeries)))), (138, (i6 (([r21.2.2.1, a1, ((r21.2.2.1.take r21.2.2.1.length).drop 1)] : List (List api_Series)).length : Int))), (139, (i6 s1210))] [(1006, some (.box 24 (.d (e_api_Member a0)))), (1015, some (.box 24 (.d (e_api_Member r21.1)))), (1020, some (.box 27 (.d (e_api_Tariff x907)))), (1028, some (.box 24 (.d (e_api_Member x1208))))] hB) ?_
                        refine AWp.seq ?_
                        obtain ⟨r1299, hr1299, h⟩ := bindS h
                        refine AWp.region (oc (mv hN (ot 5 (i6 a5)))
                          (oc (mv hN (ot 5 (i6 a5)))
                          (oc (OpJ.callFn hB fnOk10 (exchangepointmill_Mod_ac a5 (100 : Int) r1299 hr1299) [] (by kernel_rfl) (ltN hN rfl) (by kernel_rfl) (OpdL.cons (ot 144 (i6 a5)) (OpdL.cons (Opd.int .i64 (100)) OpdL.nil)))
                          (oc (OpJ.add (ltN hN rfl) (Opd.int .i64 (1)) (ot 145 (i6 r1299)))
                          (oc (OpJ.buildSlice Try.underlying28 tyS3 tyZD3 (by rfl) (by decide) (by decide) (Opds.cons (ot 143 (i6 a5)) (Opds.cons (ot 146 (i6 (w64 ((1 : Int) + r1299)))) Opds.nil)) (by kernel_rfl) (es := ([(.int .i64 a5), (.int .i64 (w64 ((1 : Int) + r1299)))] : List D)) (by rfl) (by rfl) (by kernel_rfl) (by simp) (ltN hN rfl))
                          (oc (OpJ.val (v' := (i6 (([a5, (w64 ((1 : Int) + r1299))] : List Int).length : Int))) (by simp) (OpJ.lenD Try.underlying28 (ltN hN rfl) (ot 147 (qI_1 ([a5, (w64 ((1 : Int) + r1299))] : List Int)))))
                          (oc (mv hN (Opd.int .i64 (0)))
                          (OpJs.nil)))))))) (by rfl) (by rfl) ?_
                        refine seqQ_n ?_
                        refine AWp.ghost (mp [] [(1, (qe_api_Series_4 a1)), (4, (i6 a4)), (5, (i6 a5)), (6, (.ptr 1006 0 [])), (15, (.ptr 1015 0 [])), (17, (qe_api_Series_4 r21.2.2.1)), (20, (.ptr 1020 0 [])), (28, (.ptr 1028 0 [])), (30, (qe_api_Series_4 x1298)), (80, (qe_api_Tariff_3 ([r21.2.1, a2, (api_Tariff.mk r21.2.1.fBase r21.2.1.fIncluded r22), (api_Tariff.mk (1099511627776 : Int) (0 : Int) (1048576 : Int))] : List api_Tariff))), (81, (i6 (([r21.2.1, a2, (api_Tariff.mk r21.2.1.fBase r21.2.1.fIncluded r22), (api_Tariff.mk (1099511627776 : Int) (0 : Int) (1048576 : Int))] : List api_Tariff).length : Int))), (82, (i6 s23)), (127, (qe_api_Member_6 ([r21.1, a0, (api_Member.mk (101 : Int) ([] : List UInt8) ([] : List UInt8) (0 : Int) (0 : Int) (r21.1.fPorts ++ r21.1.fPorts))] : List api_Member))), (128, (i6 (([r21.1, a0, (api_Member.mk (101 : Int) ([] : List UInt8) ([] : List UInt8) (0 : Int) (0 : Int) (r21.1.fPorts ++ r21.1.fPorts))] : List api_Member).length : Int))), (129, (i6 s934)), (137, (.d (.list 1 (([r21.2.2.1, a1, ((r21.2.2.1.take r21.2.2.1.length).drop 1)] : List (List api_Series)).map e_LeapiSeries)))), (138, (i6 (([r21.2.2.1, a1, ((r21.2.2.1.take r21.2.2.1.length).drop 1)] : List (List api_Series)).length : Int))), (139, (i6 s1210)), (147, (qI_1 ([a5, (w64 ((1 : Int) + r1299))] : List Int))), (148, (i6 (([a5, (w64 ((1 : Int) + r1299))] : List Int).length : Int))), (149, (i6 0))] [(1006, some (.box 24 (.d (e_api_Member a0)))), (1015, some (.box 24 (.d (e_api_Member r21.1)))), (1020, some (.box 27 (.d (e_api_Tariff x907)))), (1028, some (.box 24 (.d (e_api_Member x1208))))] hB) ?_
                        refine AWp.block ?_
                        obtain ⟨x1336, hx1337, h⟩ := bindS h
                        refine AWp.ghost (mp [] ((fun s1300 : Int => ([(1, (qe_api_Series_4 a1)), (4, (i6 a4)), (5, (i6 a5)), (6, (.ptr 1006 0 [])), (15, (.ptr 1015 0 [])), (17, (qe_api_Series_4 r21.2.2.1)), (20, (.ptr 1020 0 [])), (28, (.ptr 1028 0 [])), (30, (qe_api_Series_4 x1298)), (80, (qe_api_Tariff_3 ([r21.2.1, a2, (api_Tariff.mk r21.2.1.fBase r21.2.1.fIncluded r22), (api_Tariff.mk (1099511627776 : Int) (0 : Int) (1048576 : Int))] : List api_Tariff))), (81, (i6 (([r21.2.1, a2, (api_Tariff.mk r21.2.1.fBase r21.2.1.fIncluded r22), (api_Tariff.mk (1099511627776 : Int) (0 : Int) (1048576 : Int))] : List api_Tariff).length : Int))), (82, (i6 s23)), (127, (qe_api_Member_6 ([r21.1, a0, (api_Member.mk (101 : Int) ([] : List UInt8) ([] : List UInt8) (0 : Int) (0 : Int) (r21.1.fPorts ++ r21.1.fPorts))] : List api_Member))), (128, (i6 (([r21.1, a0, (api_Member.mk (101 : Int) ([] : List UInt8) ([] : List UInt8) (0 : Int) (0 : Int) (r21.1.fPorts ++ r21.1.fPorts))] : List api_Member).length : Int))), (129, (i6 s934)), (137, (.d (.list 1 (([r21.2.2.1, a1, ((r21.2.2.1.take r21.2.2.1.length).drop 1)] : List (List api_Series)).map e_LeapiSeries)))), (138, (i6 (([r21.2.2.1, a1, ((r21.2.2.1.take r21.2.2.1.length).drop 1)] : List (List api_Series)).length : Int))), (139, (i6 s1210)), (147, (qI_1 ([a5, (w64 ((1 : Int) + r1299))] : List Int))), (148, (i6 (([a5, (w64 ((1 : Int) + r1299))] : List Int).length : Int))), (149, (i6 s1300))] : EL)) (0 : Int)) ((fun s1300 : Int => ([(1006, some (.box 24 (.d (e_api_Member a0)))), (1015, some (.box 24 (.d (e_api_Member r21.1)))), (1020, some (.box 27 (.d (e_api_Tariff x907)))), (1028, some (.box 24 (.d (e_api_Member x1208))))] : OL)) (0 : Int)) hB) ?_
                        refine AWp.loopS (exchangepointlaw41_InvoiceMakes_L5 a5 x907 x1208 x1298 r1299) (fun s1300 : Int => ([(1, (qe_api_Series_4 a1)), (4, (i6 a4)), (5, (i6 a5)), (6, (.ptr 1006 0 [])), (15, (.ptr 1015 0 [])), (17, (qe_api_Series_4 r21.2.2.1)), (20, (.ptr 1020 0 [])), (28, (.ptr 1028 0 [])), (30, (qe_api_Series_4 x1298)), (80, (qe_api_Tariff_3 ([r21.2.1, a2, (api_Tariff.mk r21.2.1.fBase r21.2.1.fIncluded r22), (api_Tariff.mk (1099511627776 : Int) (0 : Int) (1048576 : Int))] : List api_Tariff))), (81, (i6 (([r21.2.1, a2, (api_Tariff.mk r21.2.1.fBase r21.2.1.fIncluded r22), (api_Tariff.mk (1099511627776 : Int) (0 : Int) (1048576 : Int))] : List api_Tariff).length : Int))), (82, (i6 s23)), (127, (qe_api_Member_6 ([r21.1, a0, (api_Member.mk (101 : Int) ([] : List UInt8) ([] : List UInt8) (0 : Int) (0 : Int) (r21.1.fPorts ++ r21.1.fPorts))] : List api_Member))), (128, (i6 (([r21.1, a0, (api_Member.mk (101 : Int) ([] : List UInt8) ([] : List UInt8) (0 : Int) (0 : Int) (r21.1.fPorts ++ r21.1.fPorts))] : List api_Member).length : Int))), (129, (i6 s934)), (137, (.d (.list 1 (([r21.2.2.1, a1, ((r21.2.2.1.take r21.2.2.1.length).drop 1)] : List (List api_Series)).map e_LeapiSeries)))), (138, (i6 (([r21.2.2.1, a1, ((r21.2.2.1.take r21.2.2.1.length).drop 1)] : List (List api_Series)).length : Int))), (139, (i6 s1210)), (147, (qI_1 ([a5, (w64 ((1 : Int) + r1299))] : List Int))), (148, (i6 (([a5, (w64 ((1 : Int) + r1299))] : List Int).length : Int))), (149, (i6 s1300))] : EL)) (fun s1300 : Int => ([(1006, some (.box 24 (.d (e_api_Member a0)))), (1015, some (.box 24 (.d (e_api_Member r21.1)))), (1020, some (.box 27 (.d (e_api_Tariff x907)))), (1028, some (.box 24 (.d (e_api_Member x1208))))] : OL)) (fun (x : (Unit) ⊕ (Unit)) e E' O' => match x with | (.inl _p) => e = .ret ∧ Mat B E' O' ([(12, (bo false))] : EL) ([] : OL) | (.inr _p) => e = .exit 10 ∧ Mat B E' O' ([(1, (qe_api_Series_4 a1)), (4, (i6 a4)), (5, (i6 a5)), (6, (.ptr 1006 0 [])), (15, (.ptr 1015 0 [])), (17, (qe_api_Series_4 r21.2.2.1)), (20, (.ptr 1020 0 [])), (28, (.ptr 1028 0 [])), (80, (qe_api_Tariff_3 ([r21.2.1, a2, (api_Tariff.mk r21.2.1.fBase r21.2.1.fIncluded r22), (api_Tariff.mk (1099511627776 : Int) (0 : Int) (1048576 : Int))] : List api_Tariff))), (81, (i6 (([r21.2.1, a2, (api_Tariff.mk r21.2.1.fBase r21.2.1.fIncluded r22), (api_Tariff.mk (1099511627776 : Int) (0 : Int) (1048576 : Int))] : List api_Tariff).length : Int))), (82, (i6 s23)), (127, (qe_api_Member_6 ([r21.1, a0, (api_Member.mk (101 : Int) ([] : List UInt8) ([] : List UInt8) (0 : Int) (0 : Int) (r21.1.fPorts ++ r21.1.fPorts))] : List api_Member))), (128, (i6 (([r21.1, a0, (api_Member.mk (101 : Int) ([] : List UInt8) ([] : List UInt8) (0 : Int) (0 : Int) (r21.1.fPorts ++ r21.1.fPorts))] : List api_Member).length : Int))), (129, (i6 s934)), (137, (.d (.list 1 (([r21.2.2.1, a1, ((r21.2.2.1.take r21.2.2.1.length).drop 1)] : List (List api_Series)).map e_LeapiSeries)))), (138, (i6 (([r21.2.2.1, a1, ((r21.2.2.1.take r21.2.2.1.length).drop 1)] : List (List api_Series)).length : Int))), (139, (i6 s1210))] : EL) ([(1006, some (.box 24 (.d (e_api_Member a0)))), (1015, some (.box 24 (.d (e_api_Member r21.1)))), (1020, some (.box 27 (.d (e_api_Tariff x907)))), (1028, some (.box 24 (.d (e_api_Member x1208))))] : OL)) hx1337 (fun s1300 y h => ?_) (fun e E' O' hR => ?_)
                        · unfold exchangepointlaw41_InvoiceMakes_L5 at h
                          show AWp _ _ _ _ ([(1, (qe_api_Series_4 a1)), (4, (i6 a4)), (5, (i6 a5)), (6, (.ptr 1006 0 [])), (15, (.ptr 1015 0 [])), (17, (qe_api_Series_4 r21.2.2.1)), (20, (.ptr 1020 0 [])), (28, (.ptr 1028 0 [])), (30, (qe_api_Series_4 x1298)), (80, (qe_api_Tariff_3 ([r21.2.1, a2, (api_Tariff.mk r21.2.1.fBase r21.2.1.fIncluded r22), (api_Tariff.mk (1099511627776 : Int) (0 : Int) (1048576 : Int))] : List api_Tariff))), (81, (i6 (([r21.2.1, a2, (api_Tariff.mk r21.2.1.fBase r21.2.1.fIncluded r22), (api_Tariff.mk (1099511627776 : Int) (0 : Int) (1048576 : Int))] : List api_Tariff).length : Int))), (82, (i6 s23)), (127, (qe_api_Member_6 ([r21.1, a0, (api_Member.mk (101 : Int) ([] : List UInt8) ([] : List UInt8) (0 : Int) (0 : Int) (r21.1.fPorts ++ r21.1.fPorts))] : List api_Member))), (128, (i6 (([r21.1, a0, (api_Member.mk (101 : Int) ([] : List UInt8) ([] : List UInt8) (0 : Int) (0 : Int) (r21.1.fPorts ++ r21.1.fPorts))] : List api_Member).length : Int))), (129, (i6 s934)), (137, (.d (.list 1 (([r21.2.2.1, a1, ((r21.2.2.1.take r21.2.2.1.length).drop 1)] : List (List api_Series)).map e_LeapiSeries)))), (138, (i6 (([r21.2.2.1, a1, ((r21.2.2.1.take r21.2.2.1.length).drop 1)] : List (List api_Series)).length : Int))), (139, (i6 s1210)), (147, (qI_1 ([a5, (w64 ((1 : Int) + r1299))] : List Int))), (148, (i6 (([a5, (w64 ((1 : Int) + r1299))] : List Int).length : Int))), (149, (i6 s1300))] : EL) ([(1006, some (.box 24 (.d (e_api_Member a0)))), (1015, some (.box 24 (.d (e_api_Member r21.1)))), (1020, some (.box 27 (.d (e_api_Tariff x907)))), (1028, some (.box 24 (.d (e_api_Member x1208))))] : OL)
                          refine AWp.seq ?_
                          refine AWp.region (oc (OpJ.lss (ltN hN rfl) (ot 149 (i6 s1300)) (ot 148 (i6 (([a5, (w64 ((1 : Int) + r1299))] : List Int).length : Int))))
                            (OpJs.nil)) (by rfl) (by rfl) ?_
                          refine seqQ_n ?_
                          refine AWp.ghost (mp [] [(1, (qe_api_Series_4 a1)), (4, (i6 a4)), (5, (i6 a5)), (6, (.ptr 1006 0 [])), (15, (.ptr 1015 0 [])), (17, (qe_api_Series_4 r21.2.2.1)), (20, (.ptr 1020 0 [])), (28, (.ptr 1028 0 [])), (30, (qe_api_Series_4 x1298)), (80, (qe_api_Tariff_3 ([r21.2.1, a2, (api_Tariff.mk r21.2.1.fBase r21.2.1.fIncluded r22), (api_Tariff.mk (1099511627776 : Int) (0 : Int) (1048576 : Int))] : List api_Tariff))), (81, (i6 (([r21.2.1, a2, (api_Tariff.mk r21.2.1.fBase r21.2.1.fIncluded r22), (api_Tariff.mk (1099511627776 : Int) (0 : Int) (1048576 : Int))] : List api_Tariff).length : Int))), (82, (i6 s23)), (127, (qe_api_Member_6 ([r21.1, a0, (api_Member.mk (101 : Int) ([] : List UInt8) ([] : List UInt8) (0 : Int) (0 : Int) (r21.1.fPorts ++ r21.1.fPorts))] : List api_Member))), (128, (i6 (([r21.1, a0, (api_Member.mk (101 : Int) ([] : List UInt8) ([] : List UInt8) (0 : Int) (0 : Int) (r21.1.fPorts ++ r21.1.fPorts))] : List api_Member).length : Int))), (129, (i6 s934)), (137, (.d (.list 1 (([r21.2.2.1, a1, ((r21.2.2.1.take r21.2.2.1.length).drop 1)] : List (List api_Series)).map e_LeapiSeries)))), (138, (i6 (([r21.2.2.1, a1, ((r21.2.2.1.take r21.2.2.1.length).drop 1)] : List (List api_Series)).length : Int))), (139, (i6 s1210)), (147, (qI_1 ([a5, (w64 ((1 : Int) + r1299))] : List Int))), (148, (i6 (([a5, (w64 ((1 : Int) + r1299))] : List Int).length : Int))), (149, (i6 s1300)), (150, (bo (decide (s1300 < (([a5, (w64 ((1 : Int) + r1299))] : List Int).length : Int)))))] [(1006, some (.box 24 (.d (e_api_Member a0)))), (1015, some (.box 24 (.d (e_api_Member r21.1)))), (1020, some (.box 27 (.d (e_api_Tariff x907)))), (1028, some (.box 24 (.d (e_api_Member x1208))))] hB) ?_
                          refine AWp.seq ?_
                          refine AWp.cond (b := (decide (s1300 < (([a5, (w64 ((1 : Int) + r1299))] : List Int).length : Int)))) (by rfl) (fun hg1325 => ?_) (fun hg1325 => ?_)
                          · replace h := ite_t hg1325 h
                            refine AWp.skip ?_
                            refine seqQ_n ?_
                            refine AWp.seq ?_
                            refine AWp.block ?_
                            refine AWp.seq ?_
                            obtain ⟨x1326, hx1326, h⟩ := bindS h
                            refine AWp.region (oc (OpJ.indexD (el := (.int .i64 x1326)) Try.underlying28 tyS3 (idx_some hx1326).1 (get_map (eI .i64) (idx_some hx1326).2) (ltN hN rfl) (ot 147 (qI_1 ([a5, (w64 ((1 : Int) + r1299))] : List Int))) (ot 149 (i6 s1300)))
                              (oc (OpJ.loadD tyS3 (by rfl) (by rfl) (ltN hN rfl) (ot 151 (.dptr (.int .i64 x1326))))
                              (oc (OpJ.assign (ltN hN rfl) (ot 152 (i6 x1326)))
                              (OpJs.nil)))) (by rfl) (by rfl) ?_
                            refine seqQ_n ?_
                            refine AWp.ghost (mp [] [(1, (qe_api_Series_4 a1)), (4, (i6 a4)), (5, (i6 a5)), (6, (.ptr 1006 0 [])), (15, (.ptr 1015 0 [])), (17, (qe_api_Series_4 r21.2.2.1)), (20, (.ptr 1020 0 [])), (28, (.ptr 1028 0 [])), (30, (qe_api_Series_4 x1298)), (32, (i6 x1326)), (80, (qe_api_Tariff_3 ([r21.2.1, a2, (api_Tariff.mk r21.2.1.fBase r21.2.1.fIncluded r22), (api_Tariff.mk (1099511627776 : Int) (0 : Int) (1048576 : Int))] : List api_Tariff))), (81, (i6 (([r21.2.1, a2, (api_Tariff.mk r21.2.1.fBase r21.2.1.fIncluded r22), (api_Tariff.mk (1099511627776 : Int) (0 : Int) (1048576 : Int))] : List api_Tariff).length : Int))), (82, (i6 s23)), (127, (qe_api_Member_6 ([r21.1, a0, (api_Member.mk (101 : Int) ([] : List UInt8) ([] : List UInt8) (0 : Int) (0 : Int) (r21.1.fPorts ++ r21.1.fPorts))] : List api_Member))), (128, (i6 (([r21.1, a0, (api_Member.mk (101 : Int) ([] : List UInt8) ([] : List UInt8) (0 : Int) (0 : Int) (r21.1.fPorts ++ r21.1.fPorts))] : List api_Member).length : Int))), (129, (i6 s934)), (137, (.d (.list 1 (([r21.2.2.1, a1, ((r21.2.2.1.take r21.2.2.1.length).drop 1)] : List (List api_Series)).map e_LeapiSeries)))), (138, (i6 (([r21.2.2.1, a1, ((r21.2.2.1.take r21.2.2.1.length).drop 1)] : List (List api_Series)).length : Int))), (139, (i6 s1210)), (147, (qI_1 ([a5, (w64 ((1 : Int) + r1299))] : List Int))), (148, (i6 (([a5, (w64 ((1 : Int) + r1299))] : List Int).length : Int))), (149, (i6 s1300))] [(1006, some (.box 24 (.d (e_api_Member a0)))), (1015, some (.box 24 (.d (e_api_Member r21.1)))), (1020, some (.box 27 (.d (e_api_Tariff x907)))), (1028, some (.box 24 (.d (e_api_Member x1208))))] hB) ?_
                            refine AWp.seq ?_
                            obtain ⟨r1327, hr1327, h⟩ := bindS h
                            refine AWp.region (oc (lb hN 24 (.d (e_api_Member x1208)) (.d (e_api_Member x1208)) tyS24 (At.here _) (ot 28 (.ptr 1028 0 [])))
                              (oc (mv hN (ot 32 (i6 x1326)))
                              (oc (lb hN 27 (.d (e_api_Tariff x907)) (.d (e_api_Tariff x907)) tyS27 (At.here _) (ot 20 (.ptr 1020 0 [])))
                              (oc (mv hN (ot 30 (qe_api_Series_4 x1298)))
                              (oc (OpJ.callFn hB fnOk13 (invoice_Make_ac x1208 x1326 x907 x1298 r1327 hr1327) [] (by kernel_rfl) (ltN hN rfl) (by kernel_rfl) (OpdL.cons (ot 154 (.d (e_api_Member x1208))) (OpdL.cons (ot 155 (i6 x1326)) (OpdL.cons (ot 156 (.d (e_api_Tariff x907))) (OpdL.cons (ot 157 (qe_api_Series_4 x1298)) OpdL.nil)))))
                              (oc (mv hN (ot 158 (.tup [(.d (e_api_Invoice r1327.1)), (i6 r1327.2)])))
                              (oc (OpJ.extract (v := (.d (e_api_Invoice r1327.1))) (by rfl) rfl (ltN hN rfl) (ot 153 (.tup [(.d (e_api_Invoice r1327.1)), (i6 r1327.2)])))
                              (oc (OpJ.extract (v := (i6 r1327.2)) (by rfl) rfl (ltN hN rfl) (ot 153 (.tup [(.d (e_api_Invoice r1327.1)), (i6 r1327.2)])))
                              (oc (OpJ.alloc hB tyZ45 (nm := 1033) (by decide) (ltN hN rfl))
                              (oc (OpJ.storeB (bt := 45) (c := (.st [(i6 0), (i6 0), (i6 0), .nils, (i6 0)])) (v := (.d (e_api_Invoice r1327.1))) (c' := (.d (e_api_Invoice r1327.1))) tyS45 (SetAt.here _ _) (by rfl) (by rfl) (by simp) rfl (ot 33 (.ptr 1033 0 [])) (ot 159 (.d (e_api_Invoice r1327.1))))
                              (oc (OpJ.assign (ltN hN rfl) (ot 160 (i6 r1327.2)))
                              (OpJs.nil)))))))))))) (by rfl) (by rfl) ?_
                            refine seqQ_n ?_
                            refine AWp.ghost (mp [] [(1, (qe_api_Series_4 a1)), (4, (i6 a4)), (5, (i6 a5)), (6, (.ptr 1006 0 [])), (15, (.ptr 1015 0 [])), (17, (qe_api_Series_4 r21.2.2.1)), (20, (.ptr 1020 0 [])), (28, (.ptr 1028 0 [])), (30, (qe_api_Series_4 x1298)), (32, (i6 x1326)), (33, (.ptr 1033 0 [])), (34, (i6 r1327.2)), (80, (qe_api_Tariff_3 ([r21.2.1, a2, (api_Tariff.mk r21.2.1.fBase r21.2.1.fIncluded r22), (api_Tariff.mk (1099511627776 : Int) (0 : Int) (1048576 : Int))] : List api_Tariff))), (81, (i6 (([r21.2.1, a2, (api_Tariff.mk r21.2.1.fBase r21.2.1.fIncluded r22), (api_Tariff.mk (1099511627776 : Int) (0 : Int) (1048576 : Int))] : List api_Tariff).length : Int))), (82, (i6 s23)), (127, (qe_api_Member_6 ([r21.1, a0, (api_Member.mk (101 : Int) ([] : List UInt8) ([] : List UInt8) (0 : Int) (0 : Int) (r21.1.fPorts ++ r21.1.fPorts))] : List api_Member))), (128, (i6 (([r21.1, a0, (api_Member.mk (101 : Int) ([] : List UInt8) ([] : List UInt8) (0 : Int) (0 : Int) (r21.1.fPorts ++ r21.1.fPorts))] : List api_Member).length : Int))), (129, (i6 s934)), (137, (.d (.list 1 (([r21.2.2.1, a1, ((r21.2.2.1.take r21.2.2.1.length).drop 1)] : List (List api_Series)).map e_LeapiSeries)))), (138, (i6 (([r21.2.2.1, a1, ((r21.2.2.1.take r21.2.2.1.length).drop 1)] : List (List api_Series)).length : Int))), (139, (i6 s1210)), (147, (qI_1 ([a5, (w64 ((1 : Int) + r1299))] : List Int))), (148, (i6 (([a5, (w64 ((1 : Int) + r1299))] : List Int).length : Int))), (149, (i6 s1300))] [(1006, some (.box 24 (.d (e_api_Member a0)))), (1015, some (.box 24 (.d (e_api_Member r21.1)))), (1020, some (.box 27 (.d (e_api_Tariff x907)))), (1028, some (.box 24 (.d (e_api_Member x1208)))), (1033, some (.box 45 (.d (e_api_Invoice r1327.1))))] hB) ?_
                            refine AWp.seq ?_
                            obtain ⟨r1328, hr1328, h⟩ := bindS h
                            refine AWp.region (oc (lb hN 24 (.d (e_api_Member x1208)) (.d (e_api_Member x1208)) tyS24 (At.here _) (ot 28 (.ptr 1028 0 [])))
                              (oc (mv hN (ot 32 (i6 x1326)))
                              (oc (lb hN 27 (.d (e_api_Tariff x907)) (.d (e_api_Tariff x907)) tyS27 (At.here _) (ot 20 (.ptr 1020 0 [])))
                              (oc (mv hN (ot 30 (qe_api_Series_4 x1298)))
                              (oc (OpJ.callFn hB fnOk14 (exchangepointref41_Make_ac x1208 x1326 x907 x1298 r1328 hr1328) [] (by kernel_rfl) (ltN hN rfl) (by kernel_rfl) (OpdL.cons (ot 162 (.d (e_api_Member x1208))) (OpdL.cons (ot 163 (i6 x1326)) (OpdL.cons (ot 164 (.d (e_api_Tariff x907))) (OpdL.cons (ot 165 (qe_api_Series_4 x1298)) OpdL.nil)))))
                              (oc (mv hN (ot 166 (.tup [(.d (e_api_Invoice r1328.1)), (i6 r1328.2)])))
                              (oc (OpJ.extract (v := (.d (e_api_Invoice r1328.1))) (by rfl) rfl (ltN hN rfl) (ot 161 (.tup [(.d (e_api_Invoice r1328.1)), (i6 r1328.2)])))
                              (oc (OpJ.extract (v := (i6 r1328.2)) (by rfl) rfl (ltN hN rfl) (ot 161 (.tup [(.d (e_api_Invoice r1328.1)), (i6 r1328.2)])))
                              (oc (OpJ.alloc hB tyZ45 (nm := 1035) (by decide) (ltN hN rfl))
                              (oc (OpJ.storeB (bt := 45) (c := (.st [(i6 0), (i6 0), (i6 0), .nils, (i6 0)])) (v := (.d (e_api_Invoice r1328.1))) (c' := (.d (e_api_Invoice r1328.1))) tyS45 (SetAt.here _ _) (by rfl) (by rfl) (by simp) rfl (ot 35 (.ptr 1035 0 [])) (ot 167 (.d (e_api_Invoice r1328.1))))
                              (oc (OpJ.assign (ltN hN rfl) (ot 168 (i6 r1328.2)))
                              (OpJs.nil)))))))))))) (by rfl) (by rfl) ?_
                            refine seqQ_n ?_
                            refine AWp.ghost (mp [] [(1, (qe_api_Series_4 a1)), (4, (i6 a4)), (5, (i6 a5)), (6, (.ptr 1006 0 [])), (15, (.ptr 1015 0 [])), (17, (qe_api_Series_4 r21.2.2.1)), (20, (.ptr 1020 0 [])), (28, (.ptr 1028 0 [])), (30, (qe_api_Series_4 x1298)), (33, (.ptr 1033 0 [])), (34, (i6 r1327.2)), (35, (.ptr 1035 0 [])), (36, (i6 r1328.2)), (80, (qe_api_Tariff_3 ([r21.2.1, a2, (api_Tariff.mk r21.2.1.fBase r21.2.1.fIncluded r22), (api_Tariff.mk (1099511627776 : Int) (0 : Int) (1048576 : Int))] : List api_Tariff))), (81, (i6 (([r21.2.1, a2, (api_Tariff.mk r21.2.1.fBase r21.2.1.fIncluded r22), (api_Tariff.mk (1099511627776 : Int) (0 : Int) (1048576 : Int))] : List api_Tariff).length : Int))), (82, (i6 s23)), (127, (qe_api_Member_6 ([r21.1, a0, (api_Member.mk (101 : Int) ([] : List UInt8) ([] : List UInt8) (0 : Int) (0 : Int) (r21.1.fPorts ++ r21.1.fPorts))] : List api_Member))), (128, (i6 (([r21.1, a0, (api_Member.mk (101 : Int) ([] : List UInt8) ([] : List UInt8) (0 : Int) (0 : Int) (r21.1.fPorts ++ r21.1.fPorts))] : List api_Member).length : Int))), (129, (i6 s934)), (137, (.d (.list 1 (([r21.2.2.1, a1, ((r21.2.2.1.take r21.2.2.1.length).drop 1)] : List (List api_Series)).map e_LeapiSeries)))), (138, (i6 (([r21.2.2.1, a1, ((r21.2.2.1.take r21.2.2.1.length).drop 1)] : List (List api_Series)).length : Int))), (139, (i6 s1210)), (147, (qI_1 ([a5, (w64 ((1 : Int) + r1299))] : List Int))), (148, (i6 (([a5, (w64 ((1 : Int) + r1299))] : List Int).length : Int))), (149, (i6 s1300))] [(1006, some (.box 24 (.d (e_api_Member a0)))), (1015, some (.box 24 (.d (e_api_Member r21.1)))), (1020, some (.box 27 (.d (e_api_Tariff x907)))), (1028, some (.box 24 (.d (e_api_Member x1208)))), (1033, some (.box 45 (.d (e_api_Invoice r1327.1)))), (1035, some (.box 45 (.d (e_api_Invoice r1328.1))))] hB) ?_
                            refine AWp.seq ?_
                            refine AWp.cut h (fun m1331 : Bool => ([(1, (qe_api_Series_4 a1)), (4, (i6 a4)), (5, (i6 a5)), (6, (.ptr 1006 0 [])), (15, (.ptr 1015 0 [])), (17, (qe_api_Series_4 r21.2.2.1)), (20, (.ptr 1020 0 [])), (28, (.ptr 1028 0 [])), (30, (qe_api_Series_4 x1298)), (80, (qe_api_Tariff_3 ([r21.2.1, a2, (api_Tariff.mk r21.2.1.fBase r21.2.1.fIncluded r22), (api_Tariff.mk (1099511627776 : Int) (0 : Int) (1048576 : Int))] : List api_Tariff))), (81, (i6 (([r21.2.1, a2, (api_Tariff.mk r21.2.1.fBase r21.2.1.fIncluded r22), (api_Tariff.mk (1099511627776 : Int) (0 : Int) (1048576 : Int))] : List api_Tariff).length : Int))), (82, (i6 s23)), (127, (qe_api_Member_6 ([r21.1, a0, (api_Member.mk (101 : Int) ([] : List UInt8) ([] : List UInt8) (0 : Int) (0 : Int) (r21.1.fPorts ++ r21.1.fPorts))] : List api_Member))), (128, (i6 (([r21.1, a0, (api_Member.mk (101 : Int) ([] : List UInt8) ([] : List UInt8) (0 : Int) (0 : Int) (r21.1.fPorts ++ r21.1.fPorts))] : List api_Member).length : Int))), (129, (i6 s934)), (137, (.d (.list 1 (([r21.2.2.1, a1, ((r21.2.2.1.take r21.2.2.1.length).drop 1)] : List (List api_Series)).map e_LeapiSeries)))), (138, (i6 (([r21.2.2.1, a1, ((r21.2.2.1.take r21.2.2.1.length).drop 1)] : List (List api_Series)).length : Int))), (139, (i6 s1210)), (147, (qI_1 ([a5, (w64 ((1 : Int) + r1299))] : List Int))), (148, (i6 (([a5, (w64 ((1 : Int) + r1299))] : List Int).length : Int))), (149, (i6 s1300)), (177, (bo m1331))] : EL)) (fun m1331 : Bool => ([(1006, some (.box 24 (.d (e_api_Member a0)))), (1015, some (.box 24 (.d (e_api_Member r21.1)))), (1020, some (.box 27 (.d (e_api_Tariff x907)))), (1028, some (.box 24 (.d (e_api_Member x1208))))] : OL)) (fun m1331 h E' O' hmat => ?_) (fun j1332 hjj1332 h => ?_)
                            · refine seqQ_n ?_
                              refine AWp.ghost hmat ?_
                              refine AWp.cond (b := m1331) (by rfl) (fun hg1333 => ?_) (fun hg1333 => ?_)
                              · replace h := ite_t hg1333 h
                                refine AWp.seq ?_
                                refine AWp.region (oc (OpJ.assign (ltN hN rfl) (Opd.bool false))
                                  (OpJs.nil)) (by rfl) (by rfl) ?_
                                refine seqQ_n ?_
                                refine AWp.ghost (mp [] [(12, (bo false))] [] hB) ?_
                                refine AWp.ret ?_
                                refine blkQ_r ?_
                                refine seqQ_r ?_
                                obtain rfl := Option.some.inj h
                                exact ⟨(fun hc => by cases hc), rfl, (mp [] ((fun _ : Unit => ([(12, (bo false))] : EL)) ()) ((fun _ : Unit => ([] : OL)) ()) hB)⟩
                              · replace h := ite_f hg1333 h
                                refine AWp.skip ?_
                                refine blkQ_n ?_
                                refine seqQ_n ?_
                                refine AWp.region (oc (OpJ.add (ltN hN rfl) (ot 149 (i6 s1300)) (Opd.int .i64 (1)))
                                  (oc (mv hN (ot 178 (i6 (w64 (s1300 + (1 : Int))))))
                                  (OpJs.nil))) (by rfl) (by rfl) ?_
                                obtain rfl := Option.some.inj h
                                exact ⟨rfl, (Mat.trans (mp [] [(1, (qe_api_Series_4 a1)), (4, (i6 a4)), (5, (i6 a5)), (6, (.ptr 1006 0 [])), (15, (.ptr 1015 0 [])), (17, (qe_api_Series_4 r21.2.2.1)), (20, (.ptr 1020 0 [])), (28, (.ptr 1028 0 [])), (30, (qe_api_Series_4 x1298)), (80, (qe_api_Tariff_3 ([r21.2.1, a2, (api_Tariff.mk r21.2.1.fBase r21.2.1.fIncluded r22), (api_Tariff.mk (1099511627776 : Int) (0 : Int) (1048576 : Int))] : List api_Tariff))), (81, (i6 (([r21.2.1, a2, (api_Tariff.mk r21.2.1.fBase r21.2.1.fIncluded r22), (api_Tariff.mk (1099511627776 : Int) (0 : Int) (1048576 : Int))] : List api_Tariff).length : Int))), (82, (i6 s23)), (127, (qe_api_Member_6 ([r21.1, a0, (api_Member.mk (101 : Int) ([] : List UInt8) ([] : List UInt8) (0 : Int) (0 : Int) (r21.1.fPorts ++ r21.1.fPorts))] : List api_Member))), (128, (i6 (([r21.1, a0, (api_Member.mk (101 : Int) ([] : List UInt8) ([] : List UInt8) (0 : Int) (0 : Int) (r21.1.fPorts ++ r21.1.fPorts))] : List api_Member).length : Int))), (129, (i6 s934)), (137, (.d (.list 1 (([r21.2.2.1, a1, ((r21.2.2.1.take r21.2.2.1.length).drop 1)] : List (List api_Series)).map e_LeapiSeries)))), (138, (i6 (([r21.2.2.1, a1, ((r21.2.2.1.take r21.2.2.1.length).drop 1)] : List (List api_Series)).length : Int))), (139, (i6 s1210)), (147, (qI_1 ([a5, (w64 ((1 : Int) + r1299))] : List Int))), (148, (i6 (([a5, (w64 ((1 : Int) + r1299))] : List Int).length : Int))), (149, (i6 (w64 (s1300 + (1 : Int)))))] [(1006, some (.box 24 (.d (e_api_Member a0)))), (1015, some (.box 24 (.d (e_api_Member r21.1)))), (1020, some (.box 27 (.d (e_api_Tariff x907)))), (1028, some (.box 24 (.d (e_api_Member x1208))))] hB) (mp [] ((fun s1300 : Int => ([(1, (qe_api_Series_4 a1)), (4, (i6 a4)), (5, (i6 a5)), (6, (.ptr 1006 0 [])), (15, (.ptr 1015 0 [])), (17, (qe_api_Series_4 r21.2.2.1)), (20, (.ptr 1020 0 [])), (28, (.ptr 1028 0 [])), (30, (qe_api_Series_4 x1298)), (80, (qe_api_Tariff_3 ([r21.2.1, a2, (api_Tariff.mk r21.2.1.fBase r21.2.1.fIncluded r22), (api_Tariff.mk (1099511627776 : Int) (0 : Int) (1048576 : Int))] : List api_Tariff))), (81, (i6 (([r21.2.1, a2, (api_Tariff.mk r21.2.1.fBase r21.2.1.fIncluded r22), (api_Tariff.mk (1099511627776 : Int) (0 : Int) (1048576 : Int))] : List api_Tariff).length : Int))), (82, (i6 s23)), (127, (qe_api_Member_6 ([r21.1, a0, (api_Member.mk (101 : Int) ([] : List UInt8) ([] : List UInt8) (0 : Int) (0 : Int) (r21.1.fPorts ++ r21.1.fPorts))] : List api_Member))), (128, (i6 (([r21.1, a0, (api_Member.mk (101 : Int) ([] : List UInt8) ([] : List UInt8) (0 : Int) (0 : Int) (r21.1.fPorts ++ r21.1.fPorts))] : List api_Member).length : Int))), (129, (i6 s934)), (137, (.d (.list 1 (([r21.2.2.1, a1, ((r21.2.2.1.take r21.2.2.1.length).drop 1)] : List (List api_Series)).map e_LeapiSeries)))), (138, (i6 (([r21.2.2.1, a1, ((r21.2.2.1.take r21.2.2.1.length).drop 1)] : List (List api_Series)).length : Int))), (139, (i6 s1210)), (147, (qI_1 ([a5, (w64 ((1 : Int) + r1299))] : List Int))), (148, (i6 (([a5, (w64 ((1 : Int) + r1299))] : List Int).length : Int))), (149, (i6 s1300))] : EL)) (w64 (s1300 + (1 : Int)))) ((fun s1300 : Int => ([(1006, some (.box 24 (.d (e_api_Member a0)))), (1015, some (.box 24 (.d (e_api_Member r21.1)))), (1020, some (.box 27 (.d (e_api_Tariff x907)))), (1028, some (.box 24 (.d (e_api_Member x1208))))] : OL)) (w64 (s1300 + (1 : Int)))) hB))⟩
                            · rcases Bool.eq_false_or_eq_true (r1327.2 != r1328.2) with hg1334 | hg1334
                              · replace h := ite_t hg1334 h
                                refine AWp.region (oc (mv hN (ot 34 (i6 r1327.2)))
                                  (oc (mv hN (ot 36 (i6 r1328.2)))
                                  (oc (OpJ.neqI (ltN hN rfl) (ot 169 (i6 r1327.2)) (ot 170 (i6 r1328.2)))
                                  (oc (OpJ.val (v' := .d (.bool true)) (by rw [hg1334]) (mv hN (ot 171 (bo (r1327.2 != r1328.2)))))
                                  (oc (OpJ.skipU (ltN hN rfl) (by rfl))
                                  (oc (OpJ.skipU (ltN hN rfl) (by rfl))
                                  (oc (OpJ.skipU (ltN hN rfl) (by rfl))
                                  (oc (OpJ.skipU (ltN hN rfl) (by rfl))
                                  (oc (OpJ.pickT (ltN hN rfl) (ot 172 (bo true)) (Opd.bool true))
                                  (OpJs.nil)))))))))) (by rfl) (by rfl) ?_
                                exact hjj1332 _ h _ _ (Mat.trans (mp [] [(1, (qe_api_Series_4 a1)), (4, (i6 a4)), (5, (i6 a5)), (6, (.ptr 1006 0 [])), (15, (.ptr 1015 0 [])), (17, (qe_api_Series_4 r21.2.2.1)), (20, (.ptr 1020 0 [])), (28, (.ptr 1028 0 [])), (30, (qe_api_Series_4 x1298)), (80, (qe_api_Tariff_3 ([r21.2.1, a2, (api_Tariff.mk r21.2.1.fBase r21.2.1.fIncluded r22), (api_Tariff.mk (1099511627776 : Int) (0 : Int) (1048576 : Int))] : List api_Tariff))), (81, (i6 (([r21.2.1, a2, (api_Tariff.mk r21.2.1.fBase r21.2.1.fIncluded r22), (api_Tariff.mk (1099511627776 : Int) (0 : Int) (1048576 : Int))] : List api_Tariff).length : Int))), (82, (i6 s23)), (127, (qe_api_Member_6 ([r21.1, a0, (api_Member.mk (101 : Int) ([] : List UInt8) ([] : List UInt8) (0 : Int) (0 : Int) (r21.1.fPorts ++ r21.1.fPorts))] : List api_Member))), (128, (i6 (([r21.1, a0, (api_Member.mk (101 : Int) ([] : List UInt8) ([] : List UInt8) (0 : Int) (0 : Int) (r21.1.fPorts ++ r21.1.fPorts))] : List api_Member).length : Int))), (129, (i6 s934)), (137, (.d (.list 1 (([r21.2.2.1, a1, ((r21.2.2.1.take r21.2.2.1.length).drop 1)] : List (List api_Series)).map e_LeapiSeries)))), (138, (i6 (([r21.2.2.1, a1, ((r21.2.2.1.take r21.2.2.1.length).drop 1)] : List (List api_Series)).length : Int))), (139, (i6 s1210)), (147, (qI_1 ([a5, (w64 ((1 : Int) + r1299))] : List Int))), (148, (i6 (([a5, (w64 ((1 : Int) + r1299))] : List Int).length : Int))), (149, (i6 s1300)), (177, (bo true))] [(1006, some (.box 24 (.d (e_api_Member a0)))), (1015, some (.box 24 (.d (e_api_Member r21.1)))), (1020, some (.box 27 (.d (e_api_Tariff x907)))), (1028, some (.box 24 (.d (e_api_Member x1208))))] hB) (mp [] ((fun m1331 : Bool => ([(1, (qe_api_Series_4 a1)), (4, (i6 a4)), (5, (i6 a5)), (6, (.ptr 1006 0 [])), (15, (.ptr 1015 0 [])), (17, (qe_api_Series_4 r21.2.2.1)), (20, (.ptr 1020 0 [])), (28, (.ptr 1028 0 [])), (30, (qe_api_Series_4 x1298)), (80, (qe_api_Tariff_3 ([r21.2.1, a2, (api_Tariff.mk r21.2.1.fBase r21.2.1.fIncluded r22), (api_Tariff.mk (1099511627776 : Int) (0 : Int) (1048576 : Int))] : List api_Tariff))), (81, (i6 (([r21.2.1, a2, (api_Tariff.mk r21.2.1.fBase r21.2.1.fIncluded r22), (api_Tariff.mk (1099511627776 : Int) (0 : Int) (1048576 : Int))] : List api_Tariff).length : Int))), (82, (i6 s23)), (127, (qe_api_Member_6 ([r21.1, a0, (api_Member.mk (101 : Int) ([] : List UInt8) ([] : List UInt8) (0 : Int) (0 : Int) (r21.1.fPorts ++ r21.1.fPorts))] : List api_Member))), (128, (i6 (([r21.1, a0, (api_Member.mk (101 : Int) ([] : List UInt8) ([] : List UInt8) (0 : Int) (0 : Int) (r21.1.fPorts ++ r21.1.fPorts))] : List api_Member).length : Int))), (129, (i6 s934)), (137, (.d (.list 1 (([r21.2.2.1, a1, ((r21.2.2.1.take r21.2.2.1.length).drop 1)] : List (List api_Series)).map e_LeapiSeries)))), (138, (i6 (([r21.2.2.1, a1, ((r21.2.2.1.take r21.2.2.1.length).drop 1)] : List (List api_Series)).length : Int))), (139, (i6 s1210)), (147, (qI_1 ([a5, (w64 ((1 : Int) + r1299))] : List Int))), (148, (i6 (([a5, (w64 ((1 : Int) + r1299))] : List Int).length : Int))), (149, (i6 s1300)), (177, (bo m1331))] : EL)) true) ((fun m1331 : Bool => ([(1006, some (.box 24 (.d (e_api_Member a0)))), (1015, some (.box 24 (.d (e_api_Member r21.1)))), (1020, some (.box 27 (.d (e_api_Tariff x907)))), (1028, some (.box 24 (.d (e_api_Member x1208))))] : OL)) true) hB))
                              · replace h := ite_f hg1334 h
                                obtain ⟨r1335, hr1335, h⟩ := bindS h
                                refine AWp.region (oc (mv hN (ot 34 (i6 r1327.2)))
                                  (oc (mv hN (ot 36 (i6 r1328.2)))
                                  (oc (OpJ.neqI (ltN hN rfl) (ot 169 (i6 r1327.2)) (ot 170 (i6 r1328.2)))
                                  (oc (OpJ.val (v' := .d (.bool false)) (by rw [hg1334]) (mv hN (ot 171 (bo (r1327.2 != r1328.2)))))
                                  (oc (OpJ.guarded (by rfl) (lb hN 45 (.d (e_api_Invoice r1327.1)) (.d (e_api_Invoice r1327.1)) tyS45 (At.here _) (ot 33 (.ptr 1033 0 []))))
                                  (oc (OpJ.guarded (by rfl) (lb hN 45 (.d (e_api_Invoice r1328.1)) (.d (e_api_Invoice r1328.1)) tyS45 (At.here _) (ot 35 (.ptr 1035 0 []))))
                                  (oc (OpJ.guarded (by rfl) (OpJ.callFn hB fnOk15 (exchangepointref41_Same_ac r1327.1 r1328.1 r1335 hr1335) [] (by kernel_rfl) (ltN hN rfl) (by kernel_rfl) (OpdL.cons (ot 173 (.d (e_api_Invoice r1327.1))) (OpdL.cons (ot 174 (.d (e_api_Invoice r1328.1))) OpdL.nil))))
                                  (oc (OpJ.guarded (by rfl) (OpJ.not (ltN hN rfl) (ot 175 (bo r1335))))
                                  (oc (OpJ.pickF (ltN hN rfl) (ot 172 (bo false)) (ot 176 (bo (!r1335))))
                                  (OpJs.nil)))))))))) (by rfl) (by rfl) ?_
                                exact hjj1332 _ h _ _ (Mat.trans (mp [] [(1, (qe_api_Series_4 a1)), (4, (i6 a4)), (5, (i6 a5)), (6, (.ptr 1006 0 [])), (15, (.ptr 1015 0 [])), (17, (qe_api_Series_4 r21.2.2.1)), (20, (.ptr 1020 0 [])), (28, (.ptr 1028 0 [])), (30, (qe_api_Series_4 x1298)), (80, (qe_api_Tariff_3 ([r21.2.1, a2, (api_Tariff.mk r21.2.1.fBase r21.2.1.fIncluded r22), (api_Tariff.mk (1099511627776 : Int) (0 : Int) (1048576 : Int))] : List api_Tariff))), (81, (i6 (([r21.2.1, a2, (api_Tariff.mk r21.2.1.fBase r21.2.1.fIncluded r22), (api_Tariff.mk (1099511627776 : Int) (0 : Int) (1048576 : Int))] : List api_Tariff).length : Int))), (82, (i6 s23)), (127, (qe_api_Member_6 ([r21.1, a0, (api_Member.mk (101 : Int) ([] : List UInt8) ([] : List UInt8) (0 : Int) (0 : Int) (r21.1.fPorts ++ r21.1.fPorts))] : List api_Member))), (128, (i6 (([r21.1, a0, (api_Member.mk (101 : Int) ([] : List UInt8) ([] : List UInt8) (0 : Int) (0 : Int) (r21.1.fPorts ++ r21.1.fPorts))] : List api_Member).length : Int))), (129, (i6 s934)), (137, (.d (.list 1 (([r21.2.2.1, a1, ((r21.2.2.1.take r21.2.2.1.length).drop 1)] : List (List api_Series)).map e_LeapiSeries)))), (138, (i6 (([r21.2.2.1, a1, ((r21.2.2.1.take r21.2.2.1.length).drop 1)] : List (List api_Series)).length : Int))), (139, (i6 s1210)), (147, (qI_1 ([a5, (w64 ((1 : Int) + r1299))] : List Int))), (148, (i6 (([a5, (w64 ((1 : Int) + r1299))] : List Int).length : Int))), (149, (i6 s1300)), (177, (bo (!r1335)))] [(1006, some (.box 24 (.d (e_api_Member a0)))), (1015, some (.box 24 (.d (e_api_Member r21.1)))), (1020, some (.box 27 (.d (e_api_Tariff x907)))), (1028, some (.box 24 (.d (e_api_Member x1208))))] hB) (mp [] ((fun m1331 : Bool => ([(1, (qe_api_Series_4 a1)), (4, (i6 a4)), (5, (i6 a5)), (6, (.ptr 1006 0 [])), (15, (.ptr 1015 0 [])), (17, (qe_api_Series_4 r21.2.2.1)), (20, (.ptr 1020 0 [])), (28, (.ptr 1028 0 [])), (30, (qe_api_Series_4 x1298)), (80, (qe_api_Tariff_3 ([r21.2.1, a2, (api_Tariff.mk r21.2.1.fBase r21.2.1.fIncluded r22), (api_Tariff.mk (1099511627776 : Int) (0 : Int) (1048576 : Int))] : List api_Tariff))), (81, (i6 (([r21.2.1, a2, (api_Tariff.mk r21.2.1.fBase r21.2.1.fIncluded r22), (api_Tariff.mk (1099511627776 : Int) (0 : Int) (1048576 : Int))] : List api_Tariff).length : Int))), (82, (i6 s23)), (127, (qe_api_Member_6 ([r21.1, a0, (api_Member.mk (101 : Int) ([] : List UInt8) ([] : List UInt8) (0 : Int) (0 : Int) (r21.1.fPorts ++ r21.1.fPorts))] : List api_Member))), (128, (i6 (([r21.1, a0, (api_Member.mk (101 : Int) ([] : List UInt8) ([] : List UInt8) (0 : Int) (0 : Int) (r21.1.fPorts ++ r21.1.fPorts))] : List api_Member).length : Int))), (129, (i6 s934)), (137, (.d (.list 1 (([r21.2.2.1, a1, ((r21.2.2.1.take r21.2.2.1.length).drop 1)] : List (List api_Series)).map e_LeapiSeries)))), (138, (i6 (([r21.2.2.1, a1, ((r21.2.2.1.take r21.2.2.1.length).drop 1)] : List (List api_Series)).length : Int))), (139, (i6 s1210)), (147, (qI_1 ([a5, (w64 ((1 : Int) + r1299))] : List Int))), (148, (i6 (([a5, (w64 ((1 : Int) + r1299))] : List Int).length : Int))), (149, (i6 s1300)), (177, (bo m1331))] : EL)) (!r1335)) ((fun m1331 : Bool => ([(1006, some (.box 24 (.d (e_api_Member a0)))), (1015, some (.box 24 (.d (e_api_Member r21.1)))), (1020, some (.box 27 (.d (e_api_Tariff x907)))), (1028, some (.box 24 (.d (e_api_Member x1208))))] : OL)) (!r1335)) hB))
                          · replace h := ite_f hg1325 h
                            refine AWp.exit ?_
                            refine seqQ_e ?_
                            obtain rfl := Option.some.inj h
                            exact ⟨(fun hc => by cases hc), rfl, (mp [] ((fun _ : Unit => ([(1, (qe_api_Series_4 a1)), (4, (i6 a4)), (5, (i6 a5)), (6, (.ptr 1006 0 [])), (15, (.ptr 1015 0 [])), (17, (qe_api_Series_4 r21.2.2.1)), (20, (.ptr 1020 0 [])), (28, (.ptr 1028 0 [])), (80, (qe_api_Tariff_3 ([r21.2.1, a2, (api_Tariff.mk r21.2.1.fBase r21.2.1.fIncluded r22), (api_Tariff.mk (1099511627776 : Int) (0 : Int) (1048576 : Int))] : List api_Tariff))), (81, (i6 (([r21.2.1, a2, (api_Tariff.mk r21.2.1.fBase r21.2.1.fIncluded r22), (api_Tariff.mk (1099511627776 : Int) (0 : Int) (1048576 : Int))] : List api_Tariff).length : Int))), (82, (i6 s23)), (127, (qe_api_Member_6 ([r21.1, a0, (api_Member.mk (101 : Int) ([] : List UInt8) ([] : List UInt8) (0 : Int) (0 : Int) (r21.1.fPorts ++ r21.1.fPorts))] : List api_Member))), (128, (i6 (([r21.1, a0, (api_Member.mk (101 : Int) ([] : List UInt8) ([] : List UInt8) (0 : Int) (0 : Int) (r21.1.fPorts ++ r21.1.fPorts))] : List api_Member).length : Int))), (129, (i6 s934)), (137, (.d (.list 1 (([r21.2.2.1, a1, ((r21.2.2.1.take r21.2.2.1.length).drop 1)] : List (List api_Series)).map e_LeapiSeries)))), (138, (i6 (([r21.2.2.1, a1, ((r21.2.2.1.take r21.2.2.1.length).drop 1)] : List (List api_Series)).length : Int))), (139, (i6 s1210))] : EL)) ()) ((fun _ : Unit => ([(1006, some (.box 24 (.d (e_api_Member a0)))), (1015, some (.box 24 (.d (e_api_Member r21.1)))), (1020, some (.box 27 (.d (e_api_Tariff x907)))), (1028, some (.box 24 (.d (e_api_Member x1208))))] : OL)) ()) hB)⟩
                        · rcases x1336 with _ | _
                          · obtain ⟨rfl, hmat⟩ := hR
                            refine blkQ_r ?_
                            refine blkQ_r ?_
                            refine seqQ_r ?_
                            obtain rfl := Option.some.inj h
                            exact ⟨(fun hc => by cases hc), rfl, (Mat.trans hmat (mp [] ((fun _ : Unit => ([(12, (bo false))] : EL)) ()) ((fun _ : Unit => ([] : OL)) ()) hB))⟩
                          · obtain ⟨rfl, hmat⟩ := hR
                            refine blkQ_hit ?_
                            refine blkQ_n ?_
                            refine seqQ_n ?_
                            refine AWp.ghost hmat ?_
                            refine AWp.region (oc (OpJ.add (ltN hN rfl) (ot 139 (i6 s1210)) (Opd.int .i64 (1)))
                              (oc (mv hN (ot 179 (i6 (w64 (s1210 + (1 : Int))))))
                              (OpJs.nil))) (by rfl) (by rfl) ?_
                            obtain rfl := Option.some.inj h
                            exact ⟨rfl, (Mat.trans (mp [] [(1, (qe_api_Series_4 a1)), (4, (i6 a4)), (5, (i6 a5)), (6, (.ptr 1006 0 [])), (15, (.ptr 1015 0 [])), (17, (qe_api_Series_4 r21.2.2.1)), (20, (.ptr 1020 0 [])), (28, (.ptr 1028 0 [])), (80, (qe_api_Tariff_3 ([r21.2.1, a2, (api_Tariff.mk r21.2.1.fBase r21.2.1.fIncluded r22), (api_Tariff.mk (1099511627776 : Int) (0 : Int) (1048576 : Int))] : List api_Tariff))), (81, (i6 (([r21.2.1, a2, (api_Tariff.mk r21.2.1.fBase r21.2.1.fIncluded r22), (api_Tariff.mk (1099511627776 : Int) (0 : Int) (1048576 : Int))] : List api_Tariff).length : Int))), (82, (i6 s23)), (127, (qe_api_Member_6 ([r21.1, a0, (api_Member.mk (101 : Int) ([] : List UInt8) ([] : List UInt8) (0 : Int) (0 : Int) (r21.1.fPorts ++ r21.1.fPorts))] : List api_Member))), (128, (i6 (([r21.1, a0, (api_Member.mk (101 : Int) ([] : List UInt8) ([] : List UInt8) (0 : Int) (0 : Int) (r21.1.fPorts ++ r21.1.fPorts))] : List api_Member).length : Int))), (129, (i6 s934)), (137, (.d (.list 1 (([r21.2.2.1, a1, ((r21.2.2.1.take r21.2.2.1.length).drop 1)] : List (List api_Series)).map e_LeapiSeries)))), (138, (i6 (([r21.2.2.1, a1, ((r21.2.2.1.take r21.2.2.1.length).drop 1)] : List (List api_Series)).length : Int))), (139, (i6 (w64 (s1210 + (1 : Int)))))] [(1006, some (.box 24 (.d (e_api_Member a0)))), (1015, some (.box 24 (.d (e_api_Member r21.1)))), (1020, some (.box 27 (.d (e_api_Tariff x907)))), (1028, some (.box 24 (.d (e_api_Member x1208))))] hB) (mp [] ((fun s1210 : Int => ([(1, (qe_api_Series_4 a1)), (4, (i6 a4)), (5, (i6 a5)), (6, (.ptr 1006 0 [])), (15, (.ptr 1015 0 [])), (17, (qe_api_Series_4 r21.2.2.1)), (20, (.ptr 1020 0 [])), (28, (.ptr 1028 0 [])), (80, (qe_api_Tariff_3 ([r21.2.1, a2, (api_Tariff.mk r21.2.1.fBase r21.2.1.fIncluded r22), (api_Tariff.mk (1099511627776 : Int) (0 : Int) (1048576 : Int))] : List api_Tariff))), (81, (i6 (([r21.2.1, a2, (api_Tariff.mk r21.2.1.fBase r21.2.1.fIncluded r22), (api_Tariff.mk (1099511627776 : Int) (0 : Int) (1048576 : Int))] : List api_Tariff).length : Int))), (82, (i6 s23)), (127, (qe_api_Member_6 ([r21.1, a0, (api_Member.mk (101 : Int) ([] : List UInt8) ([] : List UInt8) (0 : Int) (0 : Int) (r21.1.fPorts ++ r21.1.fPorts))] : List api_Member))), (128, (i6 (([r21.1, a0, (api_Member.mk (101 : Int) ([] : List UInt8) ([] : List UInt8) (0 : Int) (0 : Int) (r21.1.fPorts ++ r21.1.fPorts))] : List api_Member).length : Int))), (129, (i6 s934)), (137, (.d (.list 1 (([r21.2.2.1, a1, ((r21.2.2.1.take r21.2.2.1.length).drop 1)] : List (List api_Series)).map e_LeapiSeries)))), (138, (i6 (([r21.2.2.1, a1, ((r21.2.2.1.take r21.2.2.1.length).drop 1)] : List (List api_Series)).length : Int))), (139, (i6 s1210))] : EL)) (w64 (s1210 + (1 : Int)))) ((fun s1210 : Int => ([(1006, some (.box 24 (.d (e_api_Member a0)))), (1015, some (.box 24 (.d (e_api_Member r21.1)))), (1020, some (.box 27 (.d (e_api_Tariff x907)))), (1028, some (.box 24 (.d (e_api_Member x1208))))] : OL)) (w64 (s1210 + (1 : Int)))) hB))⟩
                      · replace h := ite_f hg1297 h
                        refine AWp.exit ?_
                        refine seqQ_e ?_
                        obtain rfl := Option.some.inj h
                        exact ⟨(fun hc => by cases hc), rfl, (mp [] ((fun _ : Unit => ([(1, (qe_api_Series_4 a1)), (4, (i6 a4)), (5, (i6 a5)), (6, (.ptr 1006 0 [])), (15, (.ptr 1015 0 [])), (17, (qe_api_Series_4 r21.2.2.1)), (20, (.ptr 1020 0 [])), (80, (qe_api_Tariff_3 ([r21.2.1, a2, (api_Tariff.mk r21.2.1.fBase r21.2.1.fIncluded r22), (api_Tariff.mk (1099511627776 : Int) (0 : Int) (1048576 : Int))] : List api_Tariff))), (81, (i6 (([r21.2.1, a2, (api_Tariff.mk r21.2.1.fBase r21.2.1.fIncluded r22), (api_Tariff.mk (1099511627776 : Int) (0 : Int) (1048576 : Int))] : List api_Tariff).length : Int))), (82, (i6 s23)), (127, (qe_api_Member_6 ([r21.1, a0, (api_Member.mk (101 : Int) ([] : List UInt8) ([] : List UInt8) (0 : Int) (0 : Int) (r21.1.fPorts ++ r21.1.fPorts))] : List api_Member))), (128, (i6 (([r21.1, a0, (api_Member.mk (101 : Int) ([] : List UInt8) ([] : List UInt8) (0 : Int) (0 : Int) (r21.1.fPorts ++ r21.1.fPorts))] : List api_Member).length : Int))), (129, (i6 s934))] : EL)) ()) ((fun _ : Unit => ([(1006, some (.box 24 (.d (e_api_Member a0)))), (1015, some (.box 24 (.d (e_api_Member r21.1)))), (1020, some (.box 27 (.d (e_api_Tariff x907))))] : OL)) ()) hB)⟩
                    · rcases x1338 with _ | _
                      · obtain ⟨rfl, hmat⟩ := hR
                        refine blkQ_r ?_
                        refine blkQ_r ?_
                        refine seqQ_r ?_
                        obtain rfl := Option.some.inj h
                        exact ⟨(fun hc => by cases hc), rfl, (Mat.trans hmat (mp [] ((fun _ : Unit => ([(12, (bo false))] : EL)) ()) ((fun _ : Unit => ([] : OL)) ()) hB))⟩
                      · obtain ⟨rfl, hmat⟩ := hR
                        refine blkQ_hit ?_
                        refine blkQ_n ?_
                        refine seqQ_n ?_
                        refine AWp.ghost hmat ?_
                        refine AWp.region (oc (OpJ.add (ltN hN rfl) (ot 129 (i6 s934)) (Opd.int .i64 (1)))
                          (oc (mv hN (ot 180 (i6 (w64 (s934 + (1 : Int))))))
                          (OpJs.nil))) (by rfl) (by rfl) ?_
                        obtain rfl := Option.some.inj h
                        exact ⟨rfl, (Mat.trans (mp [] [(1, (qe_api_Series_4 a1)), (4, (i6 a4)), (5, (i6 a5)), (6, (.ptr 1006 0 [])), (15, (.ptr 1015 0 [])), (17, (qe_api_Series_4 r21.2.2.1)), (20, (.ptr 1020 0 [])), (80, (qe_api_Tariff_3 ([r21.2.1, a2, (api_Tariff.mk r21.2.1.fBase r21.2.1.fIncluded r22), (api_Tariff.mk (1099511627776 : Int) (0 : Int) (1048576 : Int))] : List api_Tariff))), (81, (i6 (([r21.2.1, a2, (api_Tariff.mk r21.2.1.fBase r21.2.1.fIncluded r22), (api_Tariff.mk (1099511627776 : Int) (0 : Int) (1048576 : Int))] : List api_Tariff).length : Int))), (82, (i6 s23)), (127, (qe_api_Member_6 ([r21.1, a0, (api_Member.mk (101 : Int) ([] : List UInt8) ([] : List UInt8) (0 : Int) (0 : Int) (r21.1.fPorts ++ r21.1.fPorts))] : List api_Member))), (128, (i6 (([r21.1, a0, (api_Member.mk (101 : Int) ([] : List UInt8) ([] : List UInt8) (0 : Int) (0 : Int) (r21.1.fPorts ++ r21.1.fPorts))] : List api_Member).length : Int))), (129, (i6 (w64 (s934 + (1 : Int)))))] [(1006, some (.box 24 (.d (e_api_Member a0)))), (1015, some (.box 24 (.d (e_api_Member r21.1)))), (1020, some (.box 27 (.d (e_api_Tariff x907))))] hB) (mp [] ((fun s934 : Int => ([(1, (qe_api_Series_4 a1)), (4, (i6 a4)), (5, (i6 a5)), (6, (.ptr 1006 0 [])), (15, (.ptr 1015 0 [])), (17, (qe_api_Series_4 r21.2.2.1)), (20, (.ptr 1020 0 [])), (80, (qe_api_Tariff_3 ([r21.2.1, a2, (api_Tariff.mk r21.2.1.fBase r21.2.1.fIncluded r22), (api_Tariff.mk (1099511627776 : Int) (0 : Int) (1048576 : Int))] : List api_Tariff))), (81, (i6 (([r21.2.1, a2, (api_Tariff.mk r21.2.1.fBase r21.2.1.fIncluded r22), (api_Tariff.mk (1099511627776 : Int) (0 : Int) (1048576 : Int))] : List api_Tariff).length : Int))), (82, (i6 s23)), (127, (qe_api_Member_6 ([r21.1, a0, (api_Member.mk (101 : Int) ([] : List UInt8) ([] : List UInt8) (0 : Int) (0 : Int) (r21.1.fPorts ++ r21.1.fPorts))] : List api_Member))), (128, (i6 (([r21.1, a0, (api_Member.mk (101 : Int) ([] : List UInt8) ([] : List UInt8) (0 : Int) (0 : Int) (r21.1.fPorts ++ r21.1.fPorts))] : List api_Member).length : Int))), (129, (i6 s934))] : EL)) (w64 (s934 + (1 : Int)))) ((fun s934 : Int => ([(1006, some (.box 24 (.d (e_api_Member a0)))), (1015, some (.box 24 (.d (e_api_Member r21.1)))), (1020, some (.box 27 (.d (e_api_Tariff x907))))] : OL)) (w64 (s934 + (1 : Int)))) hB))⟩
                  · replace h := ite_f hg1207 h
                    refine AWp.exit ?_
                    refine seqQ_e ?_
                    obtain rfl := Option.some.inj h
                    exact ⟨(fun hc => by cases hc), rfl, (mp [] ((fun _ : Unit => ([(1, (qe_api_Series_4 a1)), (4, (i6 a4)), (5, (i6 a5)), (6, (.ptr 1006 0 [])), (15, (.ptr 1015 0 [])), (17, (qe_api_Series_4 r21.2.2.1)), (80, (qe_api_Tariff_3 ([r21.2.1, a2, (api_Tariff.mk r21.2.1.fBase r21.2.1.fIncluded r22), (api_Tariff.mk (1099511627776 : Int) (0 : Int) (1048576 : Int))] : List api_Tariff))), (81, (i6 (([r21.2.1, a2, (api_Tariff.mk r21.2.1.fBase r21.2.1.fIncluded r22), (api_Tariff.mk (1099511627776 : Int) (0 : Int) (1048576 : Int))] : List api_Tariff).length : Int))), (82, (i6 s23))] : EL)) ()) ((fun _ : Unit => ([(1006, some (.box 24 (.d (e_api_Member a0)))), (1015, some (.box 24 (.d (e_api_Member r21.1))))] : OL)) ()) hB)⟩
                · rcases x1340 with _ | _
                  · obtain ⟨rfl, hmat⟩ := hR
                    refine blkQ_r ?_
                    refine blkQ_r ?_
                    refine seqQ_r ?_
                    obtain rfl := Option.some.inj h
                    exact ⟨(fun hc => by cases hc), rfl, (Mat.trans hmat (mp [] ((fun _ : Unit => ([(12, (bo false))] : EL)) ()) ((fun _ : Unit => ([] : OL)) ()) hB))⟩
                  · obtain ⟨rfl, hmat⟩ := hR
                    refine blkQ_hit ?_
                    refine blkQ_n ?_
                    refine seqQ_n ?_
                    refine AWp.ghost hmat ?_
                    refine AWp.region (oc (OpJ.add (ltN hN rfl) (ot 82 (i6 s23)) (Opd.int .i64 (1)))
                      (oc (mv hN (ot 181 (i6 (w64 (s23 + (1 : Int))))))
                      (OpJs.nil))) (by rfl) (by rfl) ?_
                    obtain rfl := Option.some.inj h
                    exact ⟨rfl, (Mat.trans (mp [] [(1, (qe_api_Series_4 a1)), (4, (i6 a4)), (5, (i6 a5)), (6, (.ptr 1006 0 [])), (15, (.ptr 1015 0 [])), (17, (qe_api_Series_4 r21.2.2.1)), (80, (qe_api_Tariff_3 ([r21.2.1, a2, (api_Tariff.mk r21.2.1.fBase r21.2.1.fIncluded r22), (api_Tariff.mk (1099511627776 : Int) (0 : Int) (1048576 : Int))] : List api_Tariff))), (81, (i6 (([r21.2.1, a2, (api_Tariff.mk r21.2.1.fBase r21.2.1.fIncluded r22), (api_Tariff.mk (1099511627776 : Int) (0 : Int) (1048576 : Int))] : List api_Tariff).length : Int))), (82, (i6 (w64 (s23 + (1 : Int)))))] [(1006, some (.box 24 (.d (e_api_Member a0)))), (1015, some (.box 24 (.d (e_api_Member r21.1))))] hB) (mp [] ((fun s23 : Int => ([(1, (qe_api_Series_4 a1)), (4, (i6 a4)), (5, (i6 a5)), (6, (.ptr 1006 0 [])), (15, (.ptr 1015 0 [])), (17, (qe_api_Series_4 r21.2.2.1)), (80, (qe_api_Tariff_3 ([r21.2.1, a2, (api_Tariff.mk r21.2.1.fBase r21.2.1.fIncluded r22), (api_Tariff.mk (1099511627776 : Int) (0 : Int) (1048576 : Int))] : List api_Tariff))), (81, (i6 (([r21.2.1, a2, (api_Tariff.mk r21.2.1.fBase r21.2.1.fIncluded r22), (api_Tariff.mk (1099511627776 : Int) (0 : Int) (1048576 : Int))] : List api_Tariff).length : Int))), (82, (i6 s23))] : EL)) (w64 (s23 + (1 : Int)))) ((fun s23 : Int => ([(1006, some (.box 24 (.d (e_api_Member a0)))), (1015, some (.box 24 (.d (e_api_Member r21.1))))] : OL)) (w64 (s23 + (1 : Int)))) hB))⟩
          · replace h := ite_f hg906 h
            refine AWp.exit ?_
            refine seqQ_e ?_
            obtain rfl := Option.some.inj h
            exact ⟨(fun hc => by cases hc), rfl, (mp [] ((fun _ : Unit => ([] : EL)) ()) ((fun _ : Unit => ([] : OL)) ()) hB)⟩
        · rcases x1342 with _ | _
          · obtain ⟨rfl, hmat⟩ := hR
            refine blkQ_r ?_
            refine seqQ_r ?_
            obtain rfl := Option.some.inj h
            exact ⟨.inl rfl, _, _, (Mat.trans hmat (mp [] [(12, (bo false))] [] hB)), [(bo false)], (Res.tmp (by rfl) (by rfl) Res.nil), rfl, by rfl, by rfl, by rfl⟩
          · obtain ⟨rfl, hmat⟩ := hR
            refine blkQ_hit ?_
            refine seqQ_n ?_
            refine AWp.ghost hmat ?_
            refine AWp.seq ?_
            obtain ⟨r1344, hr1344, h⟩ := bindS h
            refine AWp.region (oc (OpJ.callFn hB fnOk7 (exchangepointlaw41_awake_ac  r1344 hr1344) [] (by kernel_rfl) (ltN hN rfl) (by kernel_rfl) OpdL.nil)
              (oc (OpJ.assign (ltN hN rfl) (ot 182 (bo r1344)))
              (OpJs.nil))) (by rfl) (by rfl) ?_
            refine seqQ_n ?_
            refine AWp.ghost (mp [] [(12, (bo r1344))] [] hB) ?_
            refine AWp.ret ?_
            obtain rfl := Option.some.inj h
            exact ⟨.inl rfl, _, _, (mp [] [(12, (bo r1344))] [] hB), [(bo r1344)], (Res.tmp (by rfl) (by rfl) Res.nil), rfl, by rfl, by rfl, by rfl⟩


end Go.Proofs.Ytimcphncaffenaa
