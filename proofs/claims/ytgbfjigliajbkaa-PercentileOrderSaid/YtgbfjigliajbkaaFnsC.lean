/- Printed by gen.py: the Go functions as plain functions, and that the code does what they say. -/
import Derived.Test.YtgbfjigliajbkaaChecked
import Derived.Test.YtgbfjigliajbkaaVcY
import Derived.KernelRfl
import Derived.Test.YtgbfjigliajbkaaFnsB
import Derived.Test.YtgbfjigliajbkaaExt
namespace Go.Proofs.Ytgbfjigliajbkaa
open Go Go.Vc
noncomputable def exchangepointlaw40_PercentileRates_L0 (a0 : api_Series) (a4 : Int) (r4 : api_Series × exchangepointmill_Deck) (r5 : api_Series) (m17 : Int × (List Int) × (List Int)) (s19 : Int) : Option (((Unit) ⊕ (Unit)) ⊕ (Int)) :=
  (if (decide (s19 < (([a0, r4.1, (api_Series.mk r5.fPort m17.1 m17.2.2 m17.2.1)] : List api_Series).length : Int))) = true then
  (idx ([a0, r4.1, (api_Series.mk r5.fPort m17.1 m17.2.2 m17.2.1)] : List api_Series) s19).bind fun x43 =>
  (percentile_Valid x43).bind fun r44 =>
  (exchangepointref40_Valid x43).bind fun r45 =>
  (if (r44 != r45) = true then
  some (.inl (.inl ()))
  else
  (exchangepointmill_Mod a4 (100 : Int)).bind fun r47 =>
  (percentile_Used x43 (w64 ((1 : Int) + r47))).bind fun r48 =>
  (exchangepointmill_Mod a4 (100 : Int)).bind fun r49 =>
  (exchangepointref40_Used x43 (w64 ((1 : Int) + r49))).bind fun r50 =>
  (if ((r48.1 != r50.1) || (r48.2 != r50.2)) = true then
  some (.inl (.inl ()))
  else
  some (.inr (w64 (s19 + (1 : Int))))))
  else
  some (.inl (.inr ())))
noncomputable def exchangepointlaw40_PercentileRates_L1 (a2 : Int) (a3 : Int) (r54 : Int) (r55 : Int) (r56 : Int) (s57 : Int) : Option (((Unit) ⊕ (Unit)) ⊕ (Int)) :=
  (if (decide (s57 < (([([a2, a3] : List Int), ([r54, (w64 ((1 : Int) + r55))] : List Int), ([(w64 (r56 * (37500000 : Int))), (300 : Int)] : List Int)] : List (List Int)).length : Int))) = true then
  (idx ([([a2, a3] : List Int), ([r54, (w64 ((1 : Int) + r55))] : List Int), ([(w64 (r56 * (37500000 : Int))), (300 : Int)] : List Int)] : List (List Int)) s57).bind fun x79 =>
  (idx x79 (0 : Int)).bind fun x80 =>
  (idx x79 (1 : Int)).bind fun x81 =>
  (percentile_Rate x80 x81).bind fun r82 =>
  (idx x79 (0 : Int)).bind fun x83 =>
  (idx x79 (1 : Int)).bind fun x84 =>
  (exchangepointref40_Rate x83 x84).bind fun r85 =>
  (if ((r82.1 != r85.1) || (r82.2 != r85.2)) = true then
  some (.inl (.inl ()))
  else
  some (.inr (w64 (s57 + (1 : Int)))))
  else
  some (.inl (.inr ())))
noncomputable def exchangepointlaw40_PercentileRates_L3 (a4 : Int) (x171 : (List Int)) (r183 : Int) (s184 : Int) : Option (((Unit) ⊕ (Unit)) ⊕ (Int)) :=
  (if (decide (s184 < (([a4, (w64 (r183 - (1 : Int))), (95 : Int)] : List Int).length : Int))) = true then
  (idx ([a4, (w64 (r183 - (1 : Int))), (95 : Int)] : List Int) s184).bind fun x198 =>
  (percentile_Percentile x171 x198).bind fun r199 =>
  (exchangepointref40_Percentile x171 x198).bind fun r200 =>
  (if ((r199.1 != r200.1) || (r199.2 != r200.2)) = true then
  some (.inl (.inl ()))
  else
  some (.inr (w64 (s184 + (1 : Int)))))
  else
  some (.inl (.inr ())))
noncomputable def exchangepointlaw40_PercentileRates_L2 (a1 : (List Int)) (a3 : Int) (a4 : Int) (r4 : api_Series × exchangepointmill_Deck) (s89 : Int) : Option (((Unit) ⊕ (Unit)) ⊕ (Int)) :=
  (if (decide (s89 < (([a1, r4.1.fIn, r4.1.fOut] : List (List Int)).length : Int))) = true then
  (idx ([a1, r4.1.fIn, r4.1.fOut] : List (List Int)) s89).bind fun x171 =>
  (percentile_Rates x171 (300 : Int)).bind fun r172 =>
  (exchangepointref40_Rates x171 (300 : Int)).bind fun r173 =>
  (percentile_Rates x171 a3).bind fun r174 =>
  (exchangepointref40_Rates x171 a3).bind fun r175 =>
  jn (fun m180 : Bool =>
  (if m180 = true then
  some (.inl (.inl ()))
  else
  (exchangepointmill_Mod a4 (103 : Int)).bind fun r183 =>
  (loop (exchangepointlaw40_PercentileRates_L3 a4 x171 r183) (0 : Int)).bind fun x202 => match x202 with
  | (.inl _) =>
    some (.inl (.inl ()))
  | (.inr _) =>
    some (.inr (w64 (s89 + (1 : Int)))))) (fun j181 =>
  (if (r172.2 != r173.2) = true then
  j181 true
  else
  (exchangepointref23_SameInts r172.1 r173.1).bind fun r205 =>
  (if ((!r205) || (r174.2 != r175.2)) = true then
  j181 true
  else
  (exchangepointref23_SameInts r174.1 r175.1).bind fun r207 =>
  j181 (!r207))))
  else
  some (.inl (.inr ())))
noncomputable def exchangepointlaw40_PercentileRates (a0 : api_Series) (a1 : (List Int)) (a2 : Int) (a3 : Int) (a4 : Int) (a5 : (List Int)) : Option (Bool) :=
  (if (((decide ((300 : Int) < (a0.fIn.length : Int))) || (decide ((300 : Int) < (a0.fOut.length : Int)))) || (decide ((300 : Int) < (a1.length : Int)))) = true then
  (exchangepointlaw40_awake).bind fun r2 =>
  some r2
  else
  (exchangepointmill_New a5).bind fun r3 =>
  (exchangepointmill_Deck_Series r3 (7 : Int)).bind fun r4 =>
  (exchangepointref40_Copy_3 r4.1).bind fun r5 =>
  (exchangepointmill_Mod a4 (4 : Int)).bind fun r6 =>
  jn (fun m17 : Int × (List Int) × (List Int) =>
  (loop (exchangepointlaw40_PercentileRates_L0 a0 a4 r4 r5 m17) (0 : Int)).bind fun x52 => match x52 with
  | (.inl _) =>
    some false
  | (.inr _) =>
    (exchangepointmill_Mod a2 (1125899906842626 : Int)).bind fun r54 =>
    (exchangepointmill_Mod a3 (86400 : Int)).bind fun r55 =>
    (exchangepointmill_Mod a2 (100 : Int)).bind fun r56 =>
    (loop (exchangepointlaw40_PercentileRates_L1 a2 a3 r54 r55 r56) (0 : Int)).bind fun x87 => match x87 with
    | (.inl _) =>
      some false
    | (.inr _) =>
      (loop (exchangepointlaw40_PercentileRates_L2 a1 a3 a4 r4) (0 : Int)).bind fun x208 => match x208 with
      | (.inl _) =>
        some false
      | (.inr _) =>
        (exchangepointlaw40_awake).bind fun r210 =>
        some r210) (fun j18 =>
  (if (r6 == (0 : Int)) = true then
  chk (decide ((r5.fOut ++ ([(1 : Int)] : List Int)).length ≤ LIM)) <|
  j18 (r5.fSeconds, (r5.fOut ++ ([(1 : Int)] : List Int)), r5.fIn)
  else
  (if (r6 == (1 : Int)) = true then
  (if (decide ((0 : Int) < (r5.fIn.length : Int))) = true then
  (exchangepointmill_Mod a2 (r5.fIn.length : Int)).bind fun r215 =>
  (exchangepointmill_Mod a3 (3 : Int)).bind fun r216 =>
  (idx r5.fIn r215).bind fun x217 =>
  (idx r5.fIn r215).bind fun x218 =>
  j18 (r5.fSeconds, r5.fOut, (r5.fIn.set r215.toNat (w64 (r216 - (2 : Int)))))
  else
  j18 (r5.fSeconds, r5.fOut, r5.fIn))
  else
  (if (r6 == (2 : Int)) = true then
  (exchangepointmill_Mod a3 (3 : Int)).bind fun r220 =>
  j18 (r220, r5.fOut, r5.fIn)
  else
  j18 (r5.fSeconds, r5.fOut, r5.fIn))))))
set_option maxHeartbeats 4000000 in
set_option maxRecDepth 100000 in
theorem exchangepointlaw40_PercentileRates_ac (a0 : api_Series) (a1 : (List Int)) (a2 : Int) (a3 : Int) (a4 : Int) (a5 : (List Int)) (r : Bool) (h : exchangepointlaw40_PercentileRates a0 a1 a2 a3 a4 a5 = some r) : AC Try.prog 5 [(.d (e_api_Series a0)), (.d (.list 1 (a1.map (eI .i64)))), (.d (.int .i64 a2)), (.d (.int .i64 a3)), (.d (.int .i64 a4)), (.d (.list 1 (a5.map (eI .i64))))] [] (.d (.bool r)) [] := by
  refine AC.of_code2 Try.func5 rfl rfl (Nat.le_of_ble_eq_true (by rfl)) fun B hB hN => ?_
  delta exchangepointlaw40_PercentileRates at h
  refine AWp.seq ?_
  refine AWp.region (oc (OpJ.box hB (nm := 1006) (by decide) (by simp) rfl (ltN hN rfl) (ot 0 (.d (e_api_Series a0))))
  (oc (OpJ.assign (ltN hN rfl) (Opd.bool false))
  (OpJs.nil))) (by rfl) (by rfl) ?_
  refine seqQ_n ?_
  refine AWp.ghost (mp [] [(1, (.d (.list 1 (a1.map (eI .i64))))), (2, (i6 a2)), (3, (i6 a3)), (4, (i6 a4)), (5, (.d (.list 1 (a5.map (eI .i64))))), (6, (.ptr 1006 0 []))] [(1006, some (.box 30 (.d (e_api_Series a0))))] hB) ?_
  refine AWp.seq ?_
  refine AWp.seq ?_
  refine AWp.region (oc (ov (.ptr 1006 2 [2]) (fp hN Try.underlying30 2 tyS22 (.box 30 (.d (e_api_Series a0))) (ot 6 (.ptr 1006 0 []))))
  (oc (lb hN 30 (.d (e_api_Series a0)) (.d (.list 1 (a0.fIn.map (eI .i64)))) tyS22 (ad (.list 1 (a0.fIn.map (eI .i64)))) (ot 44 (.ptr 1006 2 [2])))
  (oc (OpJ.val (v' := (i6 (a0.fIn.length : Int))) (by simp) (OpJ.lenD Try.underlying22 (ltN hN rfl) (ot 45 (.d (.list 1 (a0.fIn.map (eI .i64)))))))
  (oc (OpJ.gtr (ltN hN rfl) (ot 46 (i6 (a0.fIn.length : Int))) (Opd.int .i64 (300)))
  (oc (mv hN (ot 47 (bo (decide ((300 : Int) < (a0.fIn.length : Int))))))
  (oc (op hN (.ptr 1006 3 [3]) (ov (.ptr 1006 3 [3]) (fp hN Try.underlying30 3 tyS22 (.box 30 (.d (e_api_Series a0))) (ot 6 (.ptr 1006 0 [])))) (OptL.keep rfl OptL.nil) (GuardV.plain _))
  (oc (op hN (.d (.list 1 (a0.fOut.map (eI .i64)))) (lb hN 30 (.d (e_api_Series a0)) (.d (.list 1 (a0.fOut.map (eI .i64)))) tyS22 (ad (.list 1 (a0.fOut.map (eI .i64)))) (ot 49 (.ptr 1006 3 [3]))) (OptL.opt OptL.nil) (GuardV.plain _))
  (oc (op hN (i6 (a0.fOut.length : Int)) (OpJ.val (v' := (i6 (a0.fOut.length : Int))) (by simp) (OpJ.lenD Try.underlying22 (ltN hN rfl) (ot 50 (.d (.list 1 (a0.fOut.map (eI .i64))))))) (OptL.opt OptL.nil) (GuardV.plain _))
  (oc (op hN (bo (decide ((300 : Int) < (a0.fOut.length : Int)))) (OpJ.gtr (ltN hN rfl) (ot 51 (i6 (a0.fOut.length : Int))) (Opd.int .i64 (300))) (OptL.opt OptL.nil) (GuardV.plain _))
  (oc (OpJ.pickOr rfl (ltN hN rfl) (ot 48 (bo (decide ((300 : Int) < (a0.fIn.length : Int))))) (ot 52 (.opt ((decide ((300 : Int) < (a0.fIn.length : Int))) == false) (bo (decide ((300 : Int) < (a0.fOut.length : Int)))))))
  (oc (mv hN (ot 53 (bo ((decide ((300 : Int) < (a0.fIn.length : Int))) || (decide ((300 : Int) < (a0.fOut.length : Int)))))))
  (oc (op hN (.d (.list 1 (a1.map (eI .i64)))) (mv hN (ot 1 (.d (.list 1 (a1.map (eI .i64)))))) (OptL.keep rfl OptL.nil) (GuardV.plain _))
  (oc (op hN (i6 (a1.length : Int)) (OpJ.val (v' := (i6 (a1.length : Int))) (by simp) (OpJ.lenD Try.underlying22 (ltN hN rfl) (ot 55 (.d (.list 1 (a1.map (eI .i64))))))) (OptL.opt OptL.nil) (GuardV.plain _))
  (oc (op hN (bo (decide ((300 : Int) < (a1.length : Int)))) (OpJ.gtr (ltN hN rfl) (ot 56 (i6 (a1.length : Int))) (Opd.int .i64 (300))) (OptL.opt OptL.nil) (GuardV.plain _))
  (oc (OpJ.pickOr rfl (ltN hN rfl) (ot 54 (bo ((decide ((300 : Int) < (a0.fIn.length : Int))) || (decide ((300 : Int) < (a0.fOut.length : Int)))))) (ot 57 (.opt (((decide ((300 : Int) < (a0.fIn.length : Int))) || (decide ((300 : Int) < (a0.fOut.length : Int)))) == false) (bo (decide ((300 : Int) < (a1.length : Int)))))))
  (OpJs.nil)))))))))))))))) (by rfl) (by rfl) ?_
  refine seqQ_n ?_
  refine AWp.ghost (mp [] [(1, (.d (.list 1 (a1.map (eI .i64))))), (2, (i6 a2)), (3, (i6 a3)), (4, (i6 a4)), (5, (.d (.list 1 (a5.map (eI .i64))))), (6, (.ptr 1006 0 [])), (58, (bo (((decide ((300 : Int) < (a0.fIn.length : Int))) || (decide ((300 : Int) < (a0.fOut.length : Int)))) || (decide ((300 : Int) < (a1.length : Int))))))] [(1006, some (.box 30 (.d (e_api_Series a0))))] hB) ?_
  refine AWp.cond (b := (((decide ((300 : Int) < (a0.fIn.length : Int))) || (decide ((300 : Int) < (a0.fOut.length : Int)))) || (decide ((300 : Int) < (a1.length : Int))))) (by rfl) (fun hg1 => ?_) (fun hg1 => ?_)
  · replace h := ite_t hg1 h
    refine AWp.seq ?_
    obtain ⟨r2, hr2, h⟩ := bindS h
    refine AWp.region (oc (OpJ.callFn hB fnOk9 (exchangepointlaw40_awake_ac  r2 hr2) [] (by kernel_rfl) (ltN hN rfl) (by kernel_rfl) OpdL.nil)
      (oc (OpJ.assign (ltN hN rfl) (ot 59 (bo r2)))
      (OpJs.nil))) (by rfl) (by rfl) ?_
    refine seqQ_n ?_
    refine AWp.ghost (mp [] [(12, (bo r2))] [] hB) ?_
    refine AWp.ret ?_
    refine seqQ_r ?_
    obtain rfl := Option.some.inj h
    exact ⟨.inl rfl, _, _, (mp [] [(12, (bo r2))] [] hB), [(bo r2)], (Res.tmp (by rfl) (by rfl) Res.nil), rfl, by rfl, by rfl, by rfl⟩
  · replace h := ite_f hg1 h
    refine AWp.skip ?_
    refine seqQ_n ?_
    refine AWp.seq ?_
    obtain ⟨r3, hr3, h⟩ := bindS h
    refine AWp.region (oc (mv hN (ot 5 (.d (.list 1 (a5.map (eI .i64))))))
      (oc (OpJ.callFn hB fnOk11 (exchangepointmill_New_ac a5 r3 hr3) [(1005, 100100)] (by kernel_rfl) (ltN hN rfl) (by kernel_rfl) (OpdL.cons (ot 60 (.d (.list 1 (a5.map (eI .i64))))) OpdL.nil))
      (oc (OpJ.assign (ltN hN rfl) (ot 61 (.ptr 100100 0 [])))
      (OpJs.nil)))) (by rfl) (by rfl) ?_
    refine seqQ_n ?_
    refine AWp.ghost (mp [] [(1, (.d (.list 1 (a1.map (eI .i64))))), (2, (i6 a2)), (3, (i6 a3)), (4, (i6 a4)), (6, (.ptr 1006 0 [])), (13, (.ptr 100100 0 []))] [(1006, some (.box 30 (.d (e_api_Series a0)))), (100100, some (.box 54 (.d (e_exchangepointmill_Deck r3))))] hB) ?_
    refine AWp.seq ?_
    obtain ⟨r4, hr4, h⟩ := bindS h
    refine AWp.region (oc (mv hN (ot 13 (.ptr 100100 0 [])))
      (oc (OpJ.callFn hB fnOk12 (exchangepointmill_Deck_Series_ac r3 (7 : Int) r4 hr4) [(0, 100100)] (by kernel_rfl) (ltN hN rfl) (by kernel_rfl) (OpdL.cons (ot 62 (.ptr 100100 0 [])) (OpdL.cons (Opd.int .i64 (7)) OpdL.nil)))
      (oc (OpJ.alloc hB tyZ30 (nm := 1014) (by decide) (ltN hN rfl))
      (oc (OpJ.storeB (bt := 30) (c := (.st [(i6 (0 : Int)), (i6 (0 : Int)), .nils, .nils])) (v := (.d (e_api_Series r4.1))) (c' := (.d (e_api_Series r4.1))) tyS30 (SetAt.here _ _) (by rfl) (by rfl) (by simp) rfl (ot 14 (.ptr 1014 0 [])) (ot 63 (.d (e_api_Series r4.1))))
      (OpJs.nil))))) (by rfl) (by rfl) ?_
    refine seqQ_n ?_
    refine AWp.ghost (mp [] [(1, (.d (.list 1 (a1.map (eI .i64))))), (2, (i6 a2)), (3, (i6 a3)), (4, (i6 a4)), (6, (.ptr 1006 0 [])), (14, (.ptr 1014 0 []))] [(1006, some (.box 30 (.d (e_api_Series a0)))), (1014, some (.box 30 (.d (e_api_Series r4.1))))] hB) ?_
    refine AWp.seq ?_
    obtain ⟨r5, hr5, h⟩ := bindS h
    refine AWp.region (oc (lb hN 30 (.d (e_api_Series r4.1)) (.d (e_api_Series r4.1)) tyS30 (At.here _) (ot 14 (.ptr 1014 0 [])))
      (oc (OpJ.callFn hB fnOk13 (exchangepointref40_Copy_3_ac r4.1 r5 hr5) [(900000, 100300), (900001, 100301)] (by kernel_rfl) (ltN hN rfl) (by kernel_rfl) (OpdL.cons (ot 64 (.d (e_api_Series r4.1))) OpdL.nil))
      (oc (OpJ.alloc hB tyZ30 (nm := 1015) (by decide) (ltN hN rfl))
      (oc (OpJ.storeB (bt := 30) (c := (.st [(i6 (0 : Int)), (i6 (0 : Int)), .nils, .nils])) (v := (.st [(i6 r5.fPort), (i6 r5.fSeconds), (.sref 100300 1 0 r5.fIn.length), (.sref 100301 1 0 r5.fOut.length)])) (c' := (.st [(i6 r5.fPort), (i6 r5.fSeconds), (.sref 100300 1 0 r5.fIn.length), (.sref 100301 1 0 r5.fOut.length)])) tyS30 (SetAt.here _ _) (by rfl) (by rfl) (by simp) rfl (ot 15 (.ptr 1015 0 [])) (ot 65 (.st [(i6 r5.fPort), (i6 r5.fSeconds), (.sref 100300 1 0 r5.fIn.length), (.sref 100301 1 0 r5.fOut.length)])))
      (OpJs.nil))))) (by rfl) (by rfl) ?_
    refine seqQ_n ?_
    refine AWp.ghost (mp [] [(1, (.d (.list 1 (a1.map (eI .i64))))), (2, (i6 a2)), (3, (i6 a3)), (4, (i6 a4)), (6, (.ptr 1006 0 [])), (14, (.ptr 1014 0 [])), (15, (.ptr 1015 0 []))] [(1006, some (.box 30 (.d (e_api_Series a0)))), (1014, some (.box 30 (.d (e_api_Series r4.1)))), (1015, some (.box 30 (.st [(i6 r5.fPort), (i6 r5.fSeconds), (.sref 100300 1 0 r5.fIn.length), (.sref 100301 1 0 r5.fOut.length)]))), (100300, some (.row 3 1 (r5.fIn.map (eI .i64)))), (100301, some (.row 3 1 (r5.fOut.map (eI .i64))))] hB) ?_
    refine AWp.seq ?_
    refine AWp.seq ?_
    obtain ⟨r6, hr6, h⟩ := bindS h
    refine AWp.region (oc (mv hN (ot 4 (i6 a4)))
      (oc (OpJ.callFn hB fnOk10 (exchangepointmill_Mod_ac a4 (4 : Int) r6 hr6) [] (by kernel_rfl) (ltN hN rfl) (by kernel_rfl) (OpdL.cons (ot 66 (i6 a4)) (OpdL.cons (Opd.int .i64 (4)) OpdL.nil)))
      (OpJs.nil))) (by rfl) (by rfl) ?_
    refine seqQ_n ?_
    refine AWp.ghost (mp [] [(1, (.d (.list 1 (a1.map (eI .i64))))), (2, (i6 a2)), (3, (i6 a3)), (4, (i6 a4)), (6, (.ptr 1006 0 [])), (14, (.ptr 1014 0 [])), (15, (.ptr 1015 0 [])), (67, (i6 r6))] [(1006, some (.box 30 (.d (e_api_Series a0)))), (1014, some (.box 30 (.d (e_api_Series r4.1)))), (1015, some (.box 30 (.st [(i6 r5.fPort), (i6 r5.fSeconds), (.sref 100300 1 0 r5.fIn.length), (.sref 100301 1 0 r5.fOut.length)]))), (100300, some (.row 3 1 (r5.fIn.map (eI .i64)))), (100301, some (.row 3 1 (r5.fOut.map (eI .i64))))] hB) ?_
    refine AWp.block ?_
    refine AWp.seq ?_
    refine AWp.region (oc (OpJ.eqlI (ltN hN rfl) (ot 67 (i6 r6)) (Opd.int .i64 (0)))
      (oc (OpJ.assign (ltN hN rfl) (ot 69 (bo (r6 == (0 : Int)))))
      (OpJs.nil))) (by rfl) (by rfl) ?_
    refine seqQ_n ?_
    refine AWp.ghost (mp [] [(1, (.d (.list 1 (a1.map (eI .i64))))), (2, (i6 a2)), (3, (i6 a3)), (4, (i6 a4)), (6, (.ptr 1006 0 [])), (14, (.ptr 1014 0 [])), (15, (.ptr 1015 0 [])), (67, (i6 r6)), (68, (bo (r6 == (0 : Int))))] [(1006, some (.box 30 (.d (e_api_Series a0)))), (1014, some (.box 30 (.d (e_api_Series r4.1)))), (1015, some (.box 30 (.st [(i6 r5.fPort), (i6 r5.fSeconds), (.sref 100300 1 0 r5.fIn.length), (.sref 100301 1 0 r5.fOut.length)]))), (100300, some (.row 3 1 (r5.fIn.map (eI .i64)))), (100301, some (.row 3 1 (r5.fOut.map (eI .i64))))] hB) ?_
    refine AWp.cut h (fun m17 : Int × (List Int) × (List Int) => ([(1, (.d (.list 1 (a1.map (eI .i64))))), (2, (i6 a2)), (3, (i6 a3)), (4, (i6 a4)), (6, (.ptr 1006 0 [])), (14, (.ptr 1014 0 [])), (15, (.ptr 1015 0 []))] : EL)) (fun m17 : Int × (List Int) × (List Int) => ([(1006, some (.box 30 (.d (e_api_Series a0)))), (1014, some (.box 30 (.d (e_api_Series r4.1)))), (1015, some (.box 30 (.st [(i6 r5.fPort), (i6 m17.1), (.sref 100300 1 0 m17.2.2.length), (.sref 13153 1 0 m17.2.1.length)]))), (13153, some (.row 3 1 (m17.2.1.map (eI .i64)))), (100300, some (.row 3 1 (m17.2.2.map (eI .i64))))] : OL)) (fun m17 h E' O' hmat => ?_) (fun j18 hjj18 h => ?_)
    · refine blkQ_n ?_
      refine seqQ_n ?_
      refine AWp.ghost hmat ?_
      refine AWp.seq ?_
      refine AWp.seq ?_
      refine AWp.ghost (Mat.freezeP (n := 100300) (e := 3) (sz := 1) (es := m17.2.2.map (eI .i64)) (Ts := []) (Bs := [(1015, some (.box 30 (.st [(i6 r5.fPort), (i6 m17.1), (.d (.list 1 (m17.2.2.map (eI .i64)))), (.sref 13153 1 0 m17.2.1.length)])))]) (by rfl) TwT.nil (TwB.cons (x := (.st [(i6 r5.fPort), (i6 m17.1), (.sref 100300 1 0 m17.2.2.length), (.sref 13153 1 0 m17.2.1.length)])) (by rfl) (Tw.st (TwL.cons (Tw.same _) (TwL.cons (Tw.same _) (TwL.cons (FrzL.all (by first | rfl | (simp; done) | (simp; omega))) (TwL.cons (Tw.same _) TwL.nil))))) TwB.nil)) ?_
      refine AWp.ghost (Mat.freezeP (n := 13153) (e := 3) (sz := 1) (es := m17.2.1.map (eI .i64)) (Ts := []) (Bs := [(1015, some (.box 30 (.st [(i6 r5.fPort), (i6 m17.1), (.d (.list 1 (m17.2.2.map (eI .i64)))), (.d (.list 1 (m17.2.1.map (eI .i64))))])))]) (by rfl) TwT.nil (TwB.cons (x := (.st [(i6 r5.fPort), (i6 m17.1), (.d (.list 1 (m17.2.2.map (eI .i64)))), (.sref 13153 1 0 m17.2.1.length)])) (by rfl) (Tw.st (TwL.cons (Tw.same _) (TwL.cons (Tw.same _) (TwL.cons (Tw.same _) (TwL.cons (FrzL.all (by first | rfl | (simp; done) | (simp; omega))) TwL.nil))))) TwB.nil)) ?_
      refine AWp.region (oc (lb hN 30 (.d (e_api_Series a0)) (.d (e_api_Series a0)) tyS30 (At.here _) (ot 6 (.ptr 1006 0 [])))
        (oc (lb hN 30 (.d (e_api_Series r4.1)) (.d (e_api_Series r4.1)) tyS30 (At.here _) (ot 14 (.ptr 1014 0 [])))
        (oc (lb hN 30 (.st [(i6 r5.fPort), (i6 m17.1), (.d (.list 1 (m17.2.2.map (eI .i64)))), (.d (.list 1 (m17.2.1.map (eI .i64))))]) (.st [(i6 r5.fPort), (i6 m17.1), (.d (.list 1 (m17.2.2.map (eI .i64)))), (.d (.list 1 (m17.2.1.map (eI .i64))))]) tyS30 (At.here _) (ot 15 (.ptr 1015 0 [])))
        (oc (OpJ.buildSlice Try.underlying39 tyS30 tyZD30 (by rfl) (by decide) (by decide) (Opds.cons (ot 97 (.d (e_api_Series a0))) (Opds.cons (ot 98 (.d (e_api_Series r4.1))) (Opds.cons (Opd.co (Co.st (CoL.cons (Co.d _) (CoL.cons (Co.d _) (CoL.cons (Co.d _) (CoL.cons (Co.d _) CoL.nil))))) (ot 99 (.st [(i6 r5.fPort), (i6 m17.1), (.d (.list 1 (m17.2.2.map (eI .i64)))), (.d (.list 1 (m17.2.1.map (eI .i64))))]))) Opds.nil))) (by kernel_rfl) (es := ([(e_api_Series a0), (e_api_Series r4.1), (.st [(.int .i64 r5.fPort), (.int .i64 m17.1), (.list 1 (m17.2.2.map (eI .i64))), (.list 1 (m17.2.1.map (eI .i64)))])] : List D)) (by rfl) (by rfl) (by kernel_rfl) (by simp) (ltN hN rfl))
        (oc (OpJ.val (v' := (i6 (([a0, r4.1, (api_Series.mk r5.fPort m17.1 m17.2.2 m17.2.1)] : List api_Series).length : Int))) (by simp) (OpJ.lenD Try.underlying39 (ltN hN rfl) (ot 100 (.d (.list 4 (([a0, r4.1, (api_Series.mk r5.fPort m17.1 m17.2.2 m17.2.1)] : List api_Series).map e_api_Series))))))
        (oc (mv hN (Opd.int .i64 (0)))
        (OpJs.nil))))))) (by rfl) (by rfl) ?_
      refine seqQ_n ?_
      refine AWp.ghost (mp [] [(1, (.d (.list 1 (a1.map (eI .i64))))), (2, (i6 a2)), (3, (i6 a3)), (4, (i6 a4)), (14, (.ptr 1014 0 [])), (100, (.d (.list 4 (([a0, r4.1, (api_Series.mk r5.fPort m17.1 m17.2.2 m17.2.1)] : List api_Series).map e_api_Series)))), (101, (i6 (([a0, r4.1, (api_Series.mk r5.fPort m17.1 m17.2.2 m17.2.1)] : List api_Series).length : Int))), (102, (i6 (0 : Int)))] [(1014, some (.box 30 (.d (e_api_Series r4.1))))] hB) ?_
      refine AWp.block ?_
      obtain ⟨x52, hx53, h⟩ := bindS h
      refine AWp.ghost (mp [] ((fun s19 : Int => ([(1, (.d (.list 1 (a1.map (eI .i64))))), (2, (i6 a2)), (3, (i6 a3)), (4, (i6 a4)), (14, (.ptr 1014 0 [])), (100, (.d (.list 4 (([a0, r4.1, (api_Series.mk r5.fPort m17.1 m17.2.2 m17.2.1)] : List api_Series).map e_api_Series)))), (101, (i6 (([a0, r4.1, (api_Series.mk r5.fPort m17.1 m17.2.2 m17.2.1)] : List api_Series).length : Int))), (102, (i6 s19))] : EL)) (0 : Int)) ((fun s19 : Int => ([(1014, some (.box 30 (.d (e_api_Series r4.1))))] : OL)) (0 : Int)) hB) ?_
      refine AWp.loopS (exchangepointlaw40_PercentileRates_L0 a0 a4 r4 r5 m17) (fun s19 : Int => ([(1, (.d (.list 1 (a1.map (eI .i64))))), (2, (i6 a2)), (3, (i6 a3)), (4, (i6 a4)), (14, (.ptr 1014 0 [])), (100, (.d (.list 4 (([a0, r4.1, (api_Series.mk r5.fPort m17.1 m17.2.2 m17.2.1)] : List api_Series).map e_api_Series)))), (101, (i6 (([a0, r4.1, (api_Series.mk r5.fPort m17.1 m17.2.2 m17.2.1)] : List api_Series).length : Int))), (102, (i6 s19))] : EL)) (fun s19 : Int => ([(1014, some (.box 30 (.d (e_api_Series r4.1))))] : OL)) (fun (x : (Unit) ⊕ (Unit)) e E' O' => match x with | (.inl _p) => e = .ret ∧ Mat B E' O' ([(12, (bo false))] : EL) ([] : OL) | (.inr _p) => e = .exit 1 ∧ Mat B E' O' ([(1, (.d (.list 1 (a1.map (eI .i64))))), (2, (i6 a2)), (3, (i6 a3)), (4, (i6 a4)), (14, (.ptr 1014 0 []))] : EL) ([(1014, some (.box 30 (.d (e_api_Series r4.1))))] : OL)) hx53 (fun s19 y h => ?_) (fun e E' O' hR => ?_)
      · unfold exchangepointlaw40_PercentileRates_L0 at h
        show AWp _ _ _ _ ([(1, (.d (.list 1 (a1.map (eI .i64))))), (2, (i6 a2)), (3, (i6 a3)), (4, (i6 a4)), (14, (.ptr 1014 0 [])), (100, (.d (.list 4 (([a0, r4.1, (api_Series.mk r5.fPort m17.1 m17.2.2 m17.2.1)] : List api_Series).map e_api_Series)))), (101, (i6 (([a0, r4.1, (api_Series.mk r5.fPort m17.1 m17.2.2 m17.2.1)] : List api_Series).length : Int))), (102, (i6 s19))] : EL) ([(1014, some (.box 30 (.d (e_api_Series r4.1))))] : OL)
        refine AWp.seq ?_
        refine AWp.region (oc (OpJ.lss (ltN hN rfl) (ot 102 (i6 s19)) (ot 101 (i6 (([a0, r4.1, (api_Series.mk r5.fPort m17.1 m17.2.2 m17.2.1)] : List api_Series).length : Int))))
          (OpJs.nil)) (by rfl) (by rfl) ?_
        refine seqQ_n ?_
        refine AWp.ghost (mp [] [(1, (.d (.list 1 (a1.map (eI .i64))))), (2, (i6 a2)), (3, (i6 a3)), (4, (i6 a4)), (14, (.ptr 1014 0 [])), (100, (.d (.list 4 (([a0, r4.1, (api_Series.mk r5.fPort m17.1 m17.2.2 m17.2.1)] : List api_Series).map e_api_Series)))), (101, (i6 (([a0, r4.1, (api_Series.mk r5.fPort m17.1 m17.2.2 m17.2.1)] : List api_Series).length : Int))), (102, (i6 s19)), (103, (bo (decide (s19 < (([a0, r4.1, (api_Series.mk r5.fPort m17.1 m17.2.2 m17.2.1)] : List api_Series).length : Int)))))] [(1014, some (.box 30 (.d (e_api_Series r4.1))))] hB) ?_
        refine AWp.seq ?_
        refine AWp.cond (b := (decide (s19 < (([a0, r4.1, (api_Series.mk r5.fPort m17.1 m17.2.2 m17.2.1)] : List api_Series).length : Int)))) (by rfl) (fun hg42 => ?_) (fun hg42 => ?_)
        · replace h := ite_t hg42 h
          refine AWp.skip ?_
          refine seqQ_n ?_
          refine AWp.seq ?_
          refine AWp.block ?_
          refine AWp.seq ?_
          obtain ⟨x43, hx43, h⟩ := bindS h
          refine AWp.region (oc (OpJ.indexD (el := (e_api_Series x43)) Try.underlying39 tyS30 (idx_some hx43).1 (get_map e_api_Series (idx_some hx43).2) (ltN hN rfl) (ot 100 (.d (.list 4 (([a0, r4.1, (api_Series.mk r5.fPort m17.1 m17.2.2 m17.2.1)] : List api_Series).map e_api_Series)))) (ot 102 (i6 s19)))
            (oc (OpJ.loadD tyS30 (by rfl) (by rfl) (ltN hN rfl) (ot 104 (.dptr (e_api_Series x43))))
            (oc (OpJ.alloc hB tyZ30 (nm := 1017) (by decide) (ltN hN rfl))
            (oc (OpJ.storeB (bt := 30) (c := (.st [(i6 (0 : Int)), (i6 (0 : Int)), .nils, .nils])) (v := (.d (e_api_Series x43))) (c' := (.d (e_api_Series x43))) tyS30 (SetAt.here _ _) (by rfl) (by rfl) (by simp) rfl (ot 17 (.ptr 1017 0 [])) (ot 105 (.d (e_api_Series x43))))
            (OpJs.nil))))) (by rfl) (by rfl) ?_
          refine seqQ_n ?_
          refine AWp.ghost (mp [] [(1, (.d (.list 1 (a1.map (eI .i64))))), (2, (i6 a2)), (3, (i6 a3)), (4, (i6 a4)), (14, (.ptr 1014 0 [])), (17, (.ptr 1017 0 [])), (100, (.d (.list 4 (([a0, r4.1, (api_Series.mk r5.fPort m17.1 m17.2.2 m17.2.1)] : List api_Series).map e_api_Series)))), (101, (i6 (([a0, r4.1, (api_Series.mk r5.fPort m17.1 m17.2.2 m17.2.1)] : List api_Series).length : Int))), (102, (i6 s19))] [(1014, some (.box 30 (.d (e_api_Series r4.1)))), (1017, some (.box 30 (.d (e_api_Series x43))))] hB) ?_
          refine AWp.seq ?_
          refine AWp.seq ?_
          obtain ⟨r44, hr44, h⟩ := bindS h
          obtain ⟨r45, hr45, h⟩ := bindS h
          refine AWp.draws (by kernel_rfl) (oc (lb hN 30 (.d (e_api_Series x43)) (.d (e_api_Series x43)) tyS30 (At.here _) (ot 17 (.ptr 1017 0 [])))
            (oc (OpJ.callFn hB fnOk16 (percentile_Valid_ac x43 r44 hr44) [] (by kernel_rfl) (ltN hN rfl) (by kernel_rfl) (OpdL.cons (ot 106 (.d (e_api_Series x43))) OpdL.nil))
            (oc (lb hN 30 (.d (e_api_Series x43)) (.d (e_api_Series x43)) tyS30 (At.here _) (ot 17 (.ptr 1017 0 [])))
            (oc (OpJ.callFn hB fnOk17 (exchangepointref40_Valid_ac x43 r45 hr45) [] (by kernel_rfl) (ltN hN rfl) (by kernel_rfl) (OpdL.cons (ot 108 (.d (e_api_Series x43))) OpdL.nil))
            (oc (OpJ.neqB Try.underlying4 (ltN hN rfl) (ot 107 (bo r44)) (ot 109 (bo r45)))
            (OpJs.nil)))))) (by kernel_rfl) (by rfl) (by rfl) ?_
          refine seqQ_n ?_
          refine AWp.ghost (mp [] [(1, (.d (.list 1 (a1.map (eI .i64))))), (2, (i6 a2)), (3, (i6 a3)), (4, (i6 a4)), (14, (.ptr 1014 0 [])), (17, (.ptr 1017 0 [])), (100, (.d (.list 4 (([a0, r4.1, (api_Series.mk r5.fPort m17.1 m17.2.2 m17.2.1)] : List api_Series).map e_api_Series)))), (101, (i6 (([a0, r4.1, (api_Series.mk r5.fPort m17.1 m17.2.2 m17.2.1)] : List api_Series).length : Int))), (102, (i6 s19)), (110, (bo (r44 != r45)))] [(1014, some (.box 30 (.d (e_api_Series r4.1)))), (1017, some (.box 30 (.d (e_api_Series x43))))] hB) ?_
          refine AWp.cond (b := (r44 != r45)) (by rfl) (fun hg46 => ?_) (fun hg46 => ?_)
          · replace h := ite_t hg46 h
            refine AWp.seq ?_
            refine AWp.region (oc (OpJ.assign (ltN hN rfl) (Opd.bool false))
              (OpJs.nil)) (by rfl) (by rfl) ?_
            refine seqQ_n ?_
            refine AWp.ghost (mp [] [(12, (bo false))] [] hB) ?_
            refine AWp.ret ?_
            refine seqQ_r ?_
            refine blkQ_r ?_
            refine seqQ_r ?_
            obtain rfl := Option.some.inj h
            exact ⟨(fun hc => by cases hc), rfl, (mp [] ((fun _ : Unit => ([(12, (bo false))] : EL)) ()) ((fun _ : Unit => ([] : OL)) ()) hB)⟩
          · replace h := ite_f hg46 h
            refine AWp.skip ?_
            refine seqQ_n ?_
            refine AWp.seq ?_
            obtain ⟨r47, hr47, h⟩ := bindS h
            obtain ⟨r48, hr48, h⟩ := bindS h
            refine AWp.draws (by kernel_rfl) (oc (lb hN 30 (.d (e_api_Series x43)) (.d (e_api_Series x43)) tyS30 (At.here _) (ot 17 (.ptr 1017 0 [])))
              (oc (mv hN (ot 4 (i6 a4)))
              (oc (OpJ.callFn hB fnOk10 (exchangepointmill_Mod_ac a4 (100 : Int) r47 hr47) [] (by kernel_rfl) (ltN hN rfl) (by kernel_rfl) (OpdL.cons (ot 113 (i6 a4)) (OpdL.cons (Opd.int .i64 (100)) OpdL.nil)))
              (oc (OpJ.add (ltN hN rfl) (Opd.int .i64 (1)) (ot 114 (i6 r47)))
              (oc (OpJ.callFn hB fnOk18 (percentile_Used_ac x43 (w64 ((1 : Int) + r47)) r48 hr48) [] (by kernel_rfl) (ltN hN rfl) (by kernel_rfl) (OpdL.cons (ot 112 (.d (e_api_Series x43))) (OpdL.cons (ot 115 (i6 (w64 ((1 : Int) + r47)))) OpdL.nil)))
              (oc (mv hN (ot 116 (.tup [(i6 r48.1), (i6 r48.2)])))
              (oc (OpJ.extract (v := (i6 r48.1)) (by rfl) rfl (ltN hN rfl) (ot 111 (.tup [(i6 r48.1), (i6 r48.2)])))
              (oc (OpJ.extract (v := (i6 r48.2)) (by rfl) rfl (ltN hN rfl) (ot 111 (.tup [(i6 r48.1), (i6 r48.2)])))
              (oc (OpJ.assign (ltN hN rfl) (ot 117 (i6 r48.1)))
              (oc (OpJ.assign (ltN hN rfl) (ot 118 (i6 r48.2)))
              (OpJs.nil))))))))))) (by kernel_rfl) (by rfl) (by rfl) ?_
            refine seqQ_n ?_
            refine AWp.ghost (mp [] [(1, (.d (.list 1 (a1.map (eI .i64))))), (2, (i6 a2)), (3, (i6 a3)), (4, (i6 a4)), (14, (.ptr 1014 0 [])), (17, (.ptr 1017 0 [])), (18, (i6 r48.1)), (19, (i6 r48.2)), (100, (.d (.list 4 (([a0, r4.1, (api_Series.mk r5.fPort m17.1 m17.2.2 m17.2.1)] : List api_Series).map e_api_Series)))), (101, (i6 (([a0, r4.1, (api_Series.mk r5.fPort m17.1 m17.2.2 m17.2.1)] : List api_Series).length : Int))), (102, (i6 s19))] [(1014, some (.box 30 (.d (e_api_Series r4.1)))), (1017, some (.box 30 (.d (e_api_Series x43))))] hB) ?_
            refine AWp.seq ?_
            obtain ⟨r49, hr49, h⟩ := bindS h
            obtain ⟨r50, hr50, h⟩ := bindS h
            refine AWp.draws (by kernel_rfl) (oc (lb hN 30 (.d (e_api_Series x43)) (.d (e_api_Series x43)) tyS30 (At.here _) (ot 17 (.ptr 1017 0 [])))
              (oc (mv hN (ot 4 (i6 a4)))
              (oc (OpJ.callFn hB fnOk10 (exchangepointmill_Mod_ac a4 (100 : Int) r49 hr49) [] (by kernel_rfl) (ltN hN rfl) (by kernel_rfl) (OpdL.cons (ot 121 (i6 a4)) (OpdL.cons (Opd.int .i64 (100)) OpdL.nil)))
              (oc (OpJ.add (ltN hN rfl) (Opd.int .i64 (1)) (ot 122 (i6 r49)))
              (oc (OpJ.callFn hB fnOk19 (exchangepointref40_Used_ac x43 (w64 ((1 : Int) + r49)) r50 hr50) [] (by kernel_rfl) (ltN hN rfl) (by kernel_rfl) (OpdL.cons (ot 120 (.d (e_api_Series x43))) (OpdL.cons (ot 123 (i6 (w64 ((1 : Int) + r49)))) OpdL.nil)))
              (oc (mv hN (ot 124 (.tup [(i6 r50.1), (i6 r50.2)])))
              (oc (OpJ.extract (v := (i6 r50.1)) (by rfl) rfl (ltN hN rfl) (ot 119 (.tup [(i6 r50.1), (i6 r50.2)])))
              (oc (OpJ.extract (v := (i6 r50.2)) (by rfl) rfl (ltN hN rfl) (ot 119 (.tup [(i6 r50.1), (i6 r50.2)])))
              (oc (OpJ.assign (ltN hN rfl) (ot 125 (i6 r50.1)))
              (oc (OpJ.assign (ltN hN rfl) (ot 126 (i6 r50.2)))
              (OpJs.nil))))))))))) (by kernel_rfl) (by rfl) (by rfl) ?_
            refine seqQ_n ?_
            refine AWp.ghost (mp [] [(1, (.d (.list 1 (a1.map (eI .i64))))), (2, (i6 a2)), (3, (i6 a3)), (4, (i6 a4)), (14, (.ptr 1014 0 [])), (18, (i6 r48.1)), (19, (i6 r48.2)), (20, (i6 r50.1)), (21, (i6 r50.2)), (100, (.d (.list 4 (([a0, r4.1, (api_Series.mk r5.fPort m17.1 m17.2.2 m17.2.1)] : List api_Series).map e_api_Series)))), (101, (i6 (([a0, r4.1, (api_Series.mk r5.fPort m17.1 m17.2.2 m17.2.1)] : List api_Series).length : Int))), (102, (i6 s19))] [(1014, some (.box 30 (.d (e_api_Series r4.1))))] hB) ?_
            refine AWp.seq ?_
            refine AWp.region (oc (mv hN (ot 18 (i6 r48.1)))
              (oc (mv hN (ot 20 (i6 r50.1)))
              (oc (OpJ.neqI (ltN hN rfl) (ot 127 (i6 r48.1)) (ot 128 (i6 r50.1)))
              (oc (mv hN (ot 129 (bo (r48.1 != r50.1))))
              (oc (op hN (i6 r48.2) (mv hN (ot 19 (i6 r48.2))) (OptL.keep rfl OptL.nil) (GuardV.plain _))
              (oc (op hN (i6 r50.2) (mv hN (ot 21 (i6 r50.2))) (OptL.keep rfl OptL.nil) (GuardV.plain _))
              (oc (op hN (bo (r48.2 != r50.2)) (OpJ.neqI (ltN hN rfl) (ot 131 (i6 r48.2)) (ot 132 (i6 r50.2))) (OptL.opt (OptL.opt OptL.nil)) (GuardV.plain _))
              (oc (OpJ.pickOr rfl (ltN hN rfl) (ot 130 (bo (r48.1 != r50.1))) (ot 133 (.opt ((r48.1 != r50.1) == false) (bo (r48.2 != r50.2)))))
              (OpJs.nil))))))))) (by rfl) (by rfl) ?_
            refine seqQ_n ?_
            refine AWp.ghost (mp [] [(1, (.d (.list 1 (a1.map (eI .i64))))), (2, (i6 a2)), (3, (i6 a3)), (4, (i6 a4)), (14, (.ptr 1014 0 [])), (100, (.d (.list 4 (([a0, r4.1, (api_Series.mk r5.fPort m17.1 m17.2.2 m17.2.1)] : List api_Series).map e_api_Series)))), (101, (i6 (([a0, r4.1, (api_Series.mk r5.fPort m17.1 m17.2.2 m17.2.1)] : List api_Series).length : Int))), (102, (i6 s19)), (134, (bo ((r48.1 != r50.1) || (r48.2 != r50.2))))] [(1014, some (.box 30 (.d (e_api_Series r4.1))))] hB) ?_
            refine AWp.cond (b := ((r48.1 != r50.1) || (r48.2 != r50.2))) (by rfl) (fun hg51 => ?_) (fun hg51 => ?_)
            · replace h := ite_t hg51 h
              refine AWp.seq ?_
              refine AWp.region (oc (OpJ.assign (ltN hN rfl) (Opd.bool false))
                (OpJs.nil)) (by rfl) (by rfl) ?_
              refine seqQ_n ?_
              refine AWp.ghost (mp [] [(12, (bo false))] [] hB) ?_
              refine AWp.ret ?_
              refine blkQ_r ?_
              refine seqQ_r ?_
              obtain rfl := Option.some.inj h
              exact ⟨(fun hc => by cases hc), rfl, (mp [] ((fun _ : Unit => ([(12, (bo false))] : EL)) ()) ((fun _ : Unit => ([] : OL)) ()) hB)⟩
            · replace h := ite_f hg51 h
              refine AWp.skip ?_
              refine blkQ_n ?_
              refine seqQ_n ?_
              refine AWp.region (oc (OpJ.add (ltN hN rfl) (ot 102 (i6 s19)) (Opd.int .i64 (1)))
                (oc (mv hN (ot 135 (i6 (w64 (s19 + (1 : Int))))))
                (OpJs.nil))) (by rfl) (by rfl) ?_
              obtain rfl := Option.some.inj h
              exact ⟨rfl, (Mat.trans (mp [] [(1, (.d (.list 1 (a1.map (eI .i64))))), (2, (i6 a2)), (3, (i6 a3)), (4, (i6 a4)), (14, (.ptr 1014 0 [])), (100, (.d (.list 4 (([a0, r4.1, (api_Series.mk r5.fPort m17.1 m17.2.2 m17.2.1)] : List api_Series).map e_api_Series)))), (101, (i6 (([a0, r4.1, (api_Series.mk r5.fPort m17.1 m17.2.2 m17.2.1)] : List api_Series).length : Int))), (102, (i6 (w64 (s19 + (1 : Int)))))] [(1014, some (.box 30 (.d (e_api_Series r4.1))))] hB) (mp [] ((fun s19 : Int => ([(1, (.d (.list 1 (a1.map (eI .i64))))), (2, (i6 a2)), (3, (i6 a3)), (4, (i6 a4)), (14, (.ptr 1014 0 [])), (100, (.d (.list 4 (([a0, r4.1, (api_Series.mk r5.fPort m17.1 m17.2.2 m17.2.1)] : List api_Series).map e_api_Series)))), (101, (i6 (([a0, r4.1, (api_Series.mk r5.fPort m17.1 m17.2.2 m17.2.1)] : List api_Series).length : Int))), (102, (i6 s19))] : EL)) (w64 (s19 + (1 : Int)))) ((fun s19 : Int => ([(1014, some (.box 30 (.d (e_api_Series r4.1))))] : OL)) (w64 (s19 + (1 : Int)))) hB))⟩
        · replace h := ite_f hg42 h
          refine AWp.exit ?_
          refine seqQ_e ?_
          obtain rfl := Option.some.inj h
          exact ⟨(fun hc => by cases hc), rfl, (mp [] ((fun _ : Unit => ([(1, (.d (.list 1 (a1.map (eI .i64))))), (2, (i6 a2)), (3, (i6 a3)), (4, (i6 a4)), (14, (.ptr 1014 0 []))] : EL)) ()) ((fun _ : Unit => ([(1014, some (.box 30 (.d (e_api_Series r4.1))))] : OL)) ()) hB)⟩
      · rcases x52 with _ | _
        · obtain ⟨rfl, hmat⟩ := hR
          refine blkQ_r ?_
          refine seqQ_r ?_
          obtain rfl := Option.some.inj h
          exact ⟨.inl rfl, _, _, (Mat.trans hmat (mp [] [(12, (bo false))] [] hB)), [(bo false)], (Res.tmp (by rfl) (by rfl) Res.nil), rfl, by rfl, by rfl, by rfl⟩
        · obtain ⟨rfl, hmat⟩ := hR
          refine blkQ_hit ?_
          refine seqQ_n ?_
          refine AWp.ghost hmat ?_
          refine AWp.seq ?_
          refine AWp.seq ?_
          obtain ⟨r54, hr54, h⟩ := bindS h
          obtain ⟨r55, hr55, h⟩ := bindS h
          obtain ⟨r56, hr56, h⟩ := bindS h
          refine AWp.region (oc (mv hN (ot 2 (i6 a2)))
            (oc (mv hN (ot 3 (i6 a3)))
            (oc (OpJ.buildSlice Try.underlying22 tyS3 tyZD3 (by rfl) (by decide) (by decide) (Opds.cons (ot 136 (i6 a2)) (Opds.cons (ot 137 (i6 a3)) Opds.nil)) (by kernel_rfl) (es := ([(.int .i64 a2), (.int .i64 a3)] : List D)) (by rfl) (by rfl) (by kernel_rfl) (by simp) (ltN hN rfl))
            (oc (mv hN (ot 2 (i6 a2)))
            (oc (OpJ.callFn hB fnOk10 (exchangepointmill_Mod_ac a2 (1125899906842626 : Int) r54 hr54) [] (by kernel_rfl) (ltN hN rfl) (by kernel_rfl) (OpdL.cons (ot 139 (i6 a2)) (OpdL.cons (Opd.int .i64 (1125899906842626)) OpdL.nil)))
            (oc (mv hN (ot 3 (i6 a3)))
            (oc (OpJ.callFn hB fnOk10 (exchangepointmill_Mod_ac a3 (86400 : Int) r55 hr55) [] (by kernel_rfl) (ltN hN rfl) (by kernel_rfl) (OpdL.cons (ot 141 (i6 a3)) (OpdL.cons (Opd.int .i64 (86400)) OpdL.nil)))
            (oc (OpJ.add (ltN hN rfl) (Opd.int .i64 (1)) (ot 142 (i6 r55)))
            (oc (OpJ.buildSlice Try.underlying22 tyS3 tyZD3 (by rfl) (by decide) (by decide) (Opds.cons (ot 140 (i6 r54)) (Opds.cons (ot 143 (i6 (w64 ((1 : Int) + r55)))) Opds.nil)) (by kernel_rfl) (es := ([(.int .i64 r54), (.int .i64 (w64 ((1 : Int) + r55)))] : List D)) (by rfl) (by rfl) (by kernel_rfl) (by simp) (ltN hN rfl))
            (oc (mv hN (ot 2 (i6 a2)))
            (oc (OpJ.callFn hB fnOk10 (exchangepointmill_Mod_ac a2 (100 : Int) r56 hr56) [] (by kernel_rfl) (ltN hN rfl) (by kernel_rfl) (OpdL.cons (ot 145 (i6 a2)) (OpdL.cons (Opd.int .i64 (100)) OpdL.nil)))
            (oc (OpJ.mul (ltN hN rfl) (ot 146 (i6 r56)) (Opd.int .i64 (37500000)))
            (oc (OpJ.buildSlice Try.underlying22 tyS3 tyZD3 (by rfl) (by decide) (by decide) (Opds.cons (ot 147 (i6 (w64 (r56 * (37500000 : Int))))) (Opds.cons (Opd.int .i64 (300)) Opds.nil)) (by kernel_rfl) (es := ([(.int .i64 (w64 (r56 * (37500000 : Int)))), (.int .i64 (300 : Int))] : List D)) (by rfl) (by rfl) (by kernel_rfl) (by simp) (ltN hN rfl))
            (oc (OpJ.buildSlice Try.underlying42 tyS22 tyZD22 (by rfl) (by decide) (by decide) (Opds.cons (ot 138 (.d (.list 1 (([a2, a3] : List Int).map (eI .i64))))) (Opds.cons (ot 144 (.d (.list 1 (([r54, (w64 ((1 : Int) + r55))] : List Int).map (eI .i64))))) (Opds.cons (ot 148 (.d (.list 1 (([(w64 (r56 * (37500000 : Int))), (300 : Int)] : List Int).map (eI .i64))))) Opds.nil))) (by kernel_rfl) (es := ([(.list 1 (([a2, a3] : List Int).map (eI .i64))), (.list 1 (([r54, (w64 ((1 : Int) + r55))] : List Int).map (eI .i64))), (.list 1 (([(w64 (r56 * (37500000 : Int))), (300 : Int)] : List Int).map (eI .i64)))] : List D)) (by rfl) (by rfl) (by kernel_rfl) (by simp) (ltN hN rfl))
            (oc (OpJ.val (v' := (i6 (([([a2, a3] : List Int), ([r54, (w64 ((1 : Int) + r55))] : List Int), ([(w64 (r56 * (37500000 : Int))), (300 : Int)] : List Int)] : List (List Int)).length : Int))) (by simp) (OpJ.lenD Try.underlying42 (ltN hN rfl) (ot 149 (.d (.list 1 (([([a2, a3] : List Int), ([r54, (w64 ((1 : Int) + r55))] : List Int), ([(w64 (r56 * (37500000 : Int))), (300 : Int)] : List Int)] : List (List Int)).map e_LeIi64))))))
            (oc (mv hN (Opd.int .i64 (0)))
            (OpJs.nil))))))))))))))))) (by rfl) (by rfl) ?_
          refine seqQ_n ?_
          refine AWp.ghost (mp [] [(1, (.d (.list 1 (a1.map (eI .i64))))), (3, (i6 a3)), (4, (i6 a4)), (14, (.ptr 1014 0 [])), (149, (.d (.list 1 (([([a2, a3] : List Int), ([r54, (w64 ((1 : Int) + r55))] : List Int), ([(w64 (r56 * (37500000 : Int))), (300 : Int)] : List Int)] : List (List Int)).map e_LeIi64)))), (150, (i6 (([([a2, a3] : List Int), ([r54, (w64 ((1 : Int) + r55))] : List Int), ([(w64 (r56 * (37500000 : Int))), (300 : Int)] : List Int)] : List (List Int)).length : Int))), (151, (i6 (0 : Int)))] [(1014, some (.box 30 (.d (e_api_Series r4.1))))] hB) ?_
          refine AWp.block ?_
          obtain ⟨x87, hx88, h⟩ := bindS h
          refine AWp.ghost (mp [] ((fun s57 : Int => ([(1, (.d (.list 1 (a1.map (eI .i64))))), (3, (i6 a3)), (4, (i6 a4)), (14, (.ptr 1014 0 [])), (149, (.d (.list 1 (([([a2, a3] : List Int), ([r54, (w64 ((1 : Int) + r55))] : List Int), ([(w64 (r56 * (37500000 : Int))), (300 : Int)] : List Int)] : List (List Int)).map e_LeIi64)))), (150, (i6 (([([a2, a3] : List Int), ([r54, (w64 ((1 : Int) + r55))] : List Int), ([(w64 (r56 * (37500000 : Int))), (300 : Int)] : List Int)] : List (List Int)).length : Int))), (151, (i6 s57))] : EL)) (0 : Int)) ((fun s57 : Int => ([(1014, some (.box 30 (.d (e_api_Series r4.1))))] : OL)) (0 : Int)) hB) ?_
          refine AWp.loopS (exchangepointlaw40_PercentileRates_L1 a2 a3 r54 r55 r56) (fun s57 : Int => ([(1, (.d (.list 1 (a1.map (eI .i64))))), (3, (i6 a3)), (4, (i6 a4)), (14, (.ptr 1014 0 [])), (149, (.d (.list 1 (([([a2, a3] : List Int), ([r54, (w64 ((1 : Int) + r55))] : List Int), ([(w64 (r56 * (37500000 : Int))), (300 : Int)] : List Int)] : List (List Int)).map e_LeIi64)))), (150, (i6 (([([a2, a3] : List Int), ([r54, (w64 ((1 : Int) + r55))] : List Int), ([(w64 (r56 * (37500000 : Int))), (300 : Int)] : List Int)] : List (List Int)).length : Int))), (151, (i6 s57))] : EL)) (fun s57 : Int => ([(1014, some (.box 30 (.d (e_api_Series r4.1))))] : OL)) (fun (x : (Unit) ⊕ (Unit)) e E' O' => match x with | (.inl _p) => e = .ret ∧ Mat B E' O' ([(12, (bo false))] : EL) ([] : OL) | (.inr _p) => e = .exit 3 ∧ Mat B E' O' ([(1, (.d (.list 1 (a1.map (eI .i64))))), (3, (i6 a3)), (4, (i6 a4)), (14, (.ptr 1014 0 []))] : EL) ([(1014, some (.box 30 (.d (e_api_Series r4.1))))] : OL)) hx88 (fun s57 y h => ?_) (fun e E' O' hR => ?_)
          · unfold exchangepointlaw40_PercentileRates_L1 at h
            show AWp _ _ _ _ ([(1, (.d (.list 1 (a1.map (eI .i64))))), (3, (i6 a3)), (4, (i6 a4)), (14, (.ptr 1014 0 [])), (149, (.d (.list 1 (([([a2, a3] : List Int), ([r54, (w64 ((1 : Int) + r55))] : List Int), ([(w64 (r56 * (37500000 : Int))), (300 : Int)] : List Int)] : List (List Int)).map e_LeIi64)))), (150, (i6 (([([a2, a3] : List Int), ([r54, (w64 ((1 : Int) + r55))] : List Int), ([(w64 (r56 * (37500000 : Int))), (300 : Int)] : List Int)] : List (List Int)).length : Int))), (151, (i6 s57))] : EL) ([(1014, some (.box 30 (.d (e_api_Series r4.1))))] : OL)
            refine AWp.seq ?_
            refine AWp.region (oc (OpJ.lss (ltN hN rfl) (ot 151 (i6 s57)) (ot 150 (i6 (([([a2, a3] : List Int), ([r54, (w64 ((1 : Int) + r55))] : List Int), ([(w64 (r56 * (37500000 : Int))), (300 : Int)] : List Int)] : List (List Int)).length : Int))))
              (OpJs.nil)) (by rfl) (by rfl) ?_
            refine seqQ_n ?_
            refine AWp.ghost (mp [] [(1, (.d (.list 1 (a1.map (eI .i64))))), (3, (i6 a3)), (4, (i6 a4)), (14, (.ptr 1014 0 [])), (149, (.d (.list 1 (([([a2, a3] : List Int), ([r54, (w64 ((1 : Int) + r55))] : List Int), ([(w64 (r56 * (37500000 : Int))), (300 : Int)] : List Int)] : List (List Int)).map e_LeIi64)))), (150, (i6 (([([a2, a3] : List Int), ([r54, (w64 ((1 : Int) + r55))] : List Int), ([(w64 (r56 * (37500000 : Int))), (300 : Int)] : List Int)] : List (List Int)).length : Int))), (151, (i6 s57)), (152, (bo (decide (s57 < (([([a2, a3] : List Int), ([r54, (w64 ((1 : Int) + r55))] : List Int), ([(w64 (r56 * (37500000 : Int))), (300 : Int)] : List Int)] : List (List Int)).length : Int)))))] [(1014, some (.box 30 (.d (e_api_Series r4.1))))] hB) ?_
            refine AWp.seq ?_
            refine AWp.cond (b := (decide (s57 < (([([a2, a3] : List Int), ([r54, (w64 ((1 : Int) + r55))] : List Int), ([(w64 (r56 * (37500000 : Int))), (300 : Int)] : List Int)] : List (List Int)).length : Int)))) (by rfl) (fun hg78 => ?_) (fun hg78 => ?_)
            · replace h := ite_t hg78 h
              refine AWp.skip ?_
              refine seqQ_n ?_
              refine AWp.seq ?_
              refine AWp.block ?_
              refine AWp.seq ?_
              obtain ⟨x79, hx79, h⟩ := bindS h
              refine AWp.region (oc (OpJ.indexD (el := (.list 1 (x79.map (eI .i64)))) Try.underlying42 tyS22 (idx_some hx79).1 (get_map e_LeIi64 (idx_some hx79).2) (ltN hN rfl) (ot 149 (.d (.list 1 (([([a2, a3] : List Int), ([r54, (w64 ((1 : Int) + r55))] : List Int), ([(w64 (r56 * (37500000 : Int))), (300 : Int)] : List Int)] : List (List Int)).map e_LeIi64)))) (ot 151 (i6 s57)))
                (oc (OpJ.loadD tyS22 (by rfl) (by rfl) (ltN hN rfl) (ot 153 (.dptr (.list 1 (x79.map (eI .i64))))))
                (oc (OpJ.assign (ltN hN rfl) (ot 154 (.d (.list 1 (x79.map (eI .i64))))))
                (OpJs.nil)))) (by rfl) (by rfl) ?_
              refine seqQ_n ?_
              refine AWp.ghost (mp [] [(1, (.d (.list 1 (a1.map (eI .i64))))), (3, (i6 a3)), (4, (i6 a4)), (14, (.ptr 1014 0 [])), (23, (.d (.list 1 (x79.map (eI .i64))))), (149, (.d (.list 1 (([([a2, a3] : List Int), ([r54, (w64 ((1 : Int) + r55))] : List Int), ([(w64 (r56 * (37500000 : Int))), (300 : Int)] : List Int)] : List (List Int)).map e_LeIi64)))), (150, (i6 (([([a2, a3] : List Int), ([r54, (w64 ((1 : Int) + r55))] : List Int), ([(w64 (r56 * (37500000 : Int))), (300 : Int)] : List Int)] : List (List Int)).length : Int))), (151, (i6 s57))] [(1014, some (.box 30 (.d (e_api_Series r4.1))))] hB) ?_
              refine AWp.seq ?_
              obtain ⟨x80, hx80, h⟩ := bindS h
              obtain ⟨x81, hx81, h⟩ := bindS h
              obtain ⟨r82, hr82, h⟩ := bindS h
              refine AWp.draws (by kernel_rfl) (oc (mv hN (ot 23 (.d (.list 1 (x79.map (eI .i64))))))
                (oc (OpJ.indexD (el := (.int .i64 x80)) Try.underlying22 tyS3 (idx_some hx80).1 (get_map (eI .i64) (idx_some hx80).2) (ltN hN rfl) (ot 156 (.d (.list 1 (x79.map (eI .i64))))) (Opd.int .i64 (0)))
                (oc (OpJ.loadD tyS3 (by rfl) (by rfl) (ltN hN rfl) (ot 157 (.dptr (.int .i64 x80))))
                (oc (mv hN (ot 23 (.d (.list 1 (x79.map (eI .i64))))))
                (oc (OpJ.indexD (el := (.int .i64 x81)) Try.underlying22 tyS3 (idx_some hx81).1 (get_map (eI .i64) (idx_some hx81).2) (ltN hN rfl) (ot 159 (.d (.list 1 (x79.map (eI .i64))))) (Opd.int .i64 (1)))
                (oc (OpJ.loadD tyS3 (by rfl) (by rfl) (ltN hN rfl) (ot 160 (.dptr (.int .i64 x81))))
                (oc (OpJ.callFn hB fnOk20 (percentile_Rate_ac x80 x81 r82 hr82) [] (by kernel_rfl) (ltN hN rfl) (by kernel_rfl) (OpdL.cons (ot 158 (i6 x80)) (OpdL.cons (ot 161 (i6 x81)) OpdL.nil)))
                (oc (mv hN (ot 162 (.tup [(i6 r82.1), (i6 r82.2)])))
                (oc (OpJ.extract (v := (i6 r82.1)) (by rfl) rfl (ltN hN rfl) (ot 155 (.tup [(i6 r82.1), (i6 r82.2)])))
                (oc (OpJ.extract (v := (i6 r82.2)) (by rfl) rfl (ltN hN rfl) (ot 155 (.tup [(i6 r82.1), (i6 r82.2)])))
                (oc (OpJ.assign (ltN hN rfl) (ot 163 (i6 r82.1)))
                (oc (OpJ.assign (ltN hN rfl) (ot 164 (i6 r82.2)))
                (OpJs.nil))))))))))))) (by kernel_rfl) (by rfl) (by rfl) ?_
              refine seqQ_n ?_
              refine AWp.ghost (mp [] [(1, (.d (.list 1 (a1.map (eI .i64))))), (3, (i6 a3)), (4, (i6 a4)), (14, (.ptr 1014 0 [])), (23, (.d (.list 1 (x79.map (eI .i64))))), (24, (i6 r82.1)), (25, (i6 r82.2)), (149, (.d (.list 1 (([([a2, a3] : List Int), ([r54, (w64 ((1 : Int) + r55))] : List Int), ([(w64 (r56 * (37500000 : Int))), (300 : Int)] : List Int)] : List (List Int)).map e_LeIi64)))), (150, (i6 (([([a2, a3] : List Int), ([r54, (w64 ((1 : Int) + r55))] : List Int), ([(w64 (r56 * (37500000 : Int))), (300 : Int)] : List Int)] : List (List Int)).length : Int))), (151, (i6 s57))] [(1014, some (.box 30 (.d (e_api_Series r4.1))))] hB) ?_
              refine AWp.seq ?_
              obtain ⟨x83, hx83, h⟩ := bindS h
              obtain ⟨x84, hx84, h⟩ := bindS h
              obtain ⟨r85, hr85, h⟩ := bindS h
              refine AWp.draws (by kernel_rfl) (oc (mv hN (ot 23 (.d (.list 1 (x79.map (eI .i64))))))
                (oc (OpJ.indexD (el := (.int .i64 x83)) Try.underlying22 tyS3 (idx_some hx83).1 (get_map (eI .i64) (idx_some hx83).2) (ltN hN rfl) (ot 166 (.d (.list 1 (x79.map (eI .i64))))) (Opd.int .i64 (0)))
                (oc (OpJ.loadD tyS3 (by rfl) (by rfl) (ltN hN rfl) (ot 167 (.dptr (.int .i64 x83))))
                (oc (mv hN (ot 23 (.d (.list 1 (x79.map (eI .i64))))))
                (oc (OpJ.indexD (el := (.int .i64 x84)) Try.underlying22 tyS3 (idx_some hx84).1 (get_map (eI .i64) (idx_some hx84).2) (ltN hN rfl) (ot 169 (.d (.list 1 (x79.map (eI .i64))))) (Opd.int .i64 (1)))
                (oc (OpJ.loadD tyS3 (by rfl) (by rfl) (ltN hN rfl) (ot 170 (.dptr (.int .i64 x84))))
                (oc (OpJ.callFn hB fnOk21 (exchangepointref40_Rate_ac x83 x84 r85 hr85) [] (by kernel_rfl) (ltN hN rfl) (by kernel_rfl) (OpdL.cons (ot 168 (i6 x83)) (OpdL.cons (ot 171 (i6 x84)) OpdL.nil)))
                (oc (mv hN (ot 172 (.tup [(i6 r85.1), (i6 r85.2)])))
                (oc (OpJ.extract (v := (i6 r85.1)) (by rfl) rfl (ltN hN rfl) (ot 165 (.tup [(i6 r85.1), (i6 r85.2)])))
                (oc (OpJ.extract (v := (i6 r85.2)) (by rfl) rfl (ltN hN rfl) (ot 165 (.tup [(i6 r85.1), (i6 r85.2)])))
                (oc (OpJ.assign (ltN hN rfl) (ot 173 (i6 r85.1)))
                (oc (OpJ.assign (ltN hN rfl) (ot 174 (i6 r85.2)))
                (OpJs.nil))))))))))))) (by kernel_rfl) (by rfl) (by rfl) ?_
              refine seqQ_n ?_
              refine AWp.ghost (mp [] [(1, (.d (.list 1 (a1.map (eI .i64))))), (3, (i6 a3)), (4, (i6 a4)), (14, (.ptr 1014 0 [])), (24, (i6 r82.1)), (25, (i6 r82.2)), (26, (i6 r85.1)), (27, (i6 r85.2)), (149, (.d (.list 1 (([([a2, a3] : List Int), ([r54, (w64 ((1 : Int) + r55))] : List Int), ([(w64 (r56 * (37500000 : Int))), (300 : Int)] : List Int)] : List (List Int)).map e_LeIi64)))), (150, (i6 (([([a2, a3] : List Int), ([r54, (w64 ((1 : Int) + r55))] : List Int), ([(w64 (r56 * (37500000 : Int))), (300 : Int)] : List Int)] : List (List Int)).length : Int))), (151, (i6 s57))] [(1014, some (.box 30 (.d (e_api_Series r4.1))))] hB) ?_
              refine AWp.seq ?_
              refine AWp.region (oc (mv hN (ot 24 (i6 r82.1)))
                (oc (mv hN (ot 26 (i6 r85.1)))
                (oc (OpJ.neqI (ltN hN rfl) (ot 175 (i6 r82.1)) (ot 176 (i6 r85.1)))
                (oc (mv hN (ot 177 (bo (r82.1 != r85.1))))
                (oc (op hN (i6 r82.2) (mv hN (ot 25 (i6 r82.2))) (OptL.keep rfl OptL.nil) (GuardV.plain _))
                (oc (op hN (i6 r85.2) (mv hN (ot 27 (i6 r85.2))) (OptL.keep rfl OptL.nil) (GuardV.plain _))
                (oc (op hN (bo (r82.2 != r85.2)) (OpJ.neqI (ltN hN rfl) (ot 179 (i6 r82.2)) (ot 180 (i6 r85.2))) (OptL.opt (OptL.opt OptL.nil)) (GuardV.plain _))
                (oc (OpJ.pickOr rfl (ltN hN rfl) (ot 178 (bo (r82.1 != r85.1))) (ot 181 (.opt ((r82.1 != r85.1) == false) (bo (r82.2 != r85.2)))))
                (OpJs.nil))))))))) (by rfl) (by rfl) ?_
              refine seqQ_n ?_
              refine AWp.ghost (mp [] [(1, (.d (.list 1 (a1.map (eI .i64))))), (3, (i6 a3)), (4, (i6 a4)), (14, (.ptr 1014 0 [])), (149, (.d (.list 1 (([([a2, a3] : List Int), ([r54, (w64 ((1 : Int) + r55))] : List Int), ([(w64 (r56 * (37500000 : Int))), (300 : Int)] : List Int)] : List (List Int)).map e_LeIi64)))), (150, (i6 (([([a2, a3] : List Int), ([r54, (w64 ((1 : Int) + r55))] : List Int), ([(w64 (r56 * (37500000 : Int))), (300 : Int)] : List Int)] : List (List Int)).length : Int))), (151, (i6 s57)), (182, (bo ((r82.1 != r85.1) || (r82.2 != r85.2))))] [(1014, some (.box 30 (.d (e_api_Series r4.1))))] hB) ?_
              refine AWp.cond (b := ((r82.1 != r85.1) || (r82.2 != r85.2))) (by rfl) (fun hg86 => ?_) (fun hg86 => ?_)
              · replace h := ite_t hg86 h
                refine AWp.seq ?_
                refine AWp.region (oc (OpJ.assign (ltN hN rfl) (Opd.bool false))
                  (OpJs.nil)) (by rfl) (by rfl) ?_
                refine seqQ_n ?_
                refine AWp.ghost (mp [] [(12, (bo false))] [] hB) ?_
                refine AWp.ret ?_
                refine blkQ_r ?_
                refine seqQ_r ?_
                obtain rfl := Option.some.inj h
                exact ⟨(fun hc => by cases hc), rfl, (mp [] ((fun _ : Unit => ([(12, (bo false))] : EL)) ()) ((fun _ : Unit => ([] : OL)) ()) hB)⟩
              · replace h := ite_f hg86 h
                refine AWp.skip ?_
                refine blkQ_n ?_
                refine seqQ_n ?_
                refine AWp.region (oc (OpJ.add (ltN hN rfl) (ot 151 (i6 s57)) (Opd.int .i64 (1)))
                  (oc (mv hN (ot 183 (i6 (w64 (s57 + (1 : Int))))))
                  (OpJs.nil))) (by rfl) (by rfl) ?_
                obtain rfl := Option.some.inj h
                exact ⟨rfl, (Mat.trans (mp [] [(1, (.d (.list 1 (a1.map (eI .i64))))), (3, (i6 a3)), (4, (i6 a4)), (14, (.ptr 1014 0 [])), (149, (.d (.list 1 (([([a2, a3] : List Int), ([r54, (w64 ((1 : Int) + r55))] : List Int), ([(w64 (r56 * (37500000 : Int))), (300 : Int)] : List Int)] : List (List Int)).map e_LeIi64)))), (150, (i6 (([([a2, a3] : List Int), ([r54, (w64 ((1 : Int) + r55))] : List Int), ([(w64 (r56 * (37500000 : Int))), (300 : Int)] : List Int)] : List (List Int)).length : Int))), (151, (i6 (w64 (s57 + (1 : Int)))))] [(1014, some (.box 30 (.d (e_api_Series r4.1))))] hB) (mp [] ((fun s57 : Int => ([(1, (.d (.list 1 (a1.map (eI .i64))))), (3, (i6 a3)), (4, (i6 a4)), (14, (.ptr 1014 0 [])), (149, (.d (.list 1 (([([a2, a3] : List Int), ([r54, (w64 ((1 : Int) + r55))] : List Int), ([(w64 (r56 * (37500000 : Int))), (300 : Int)] : List Int)] : List (List Int)).map e_LeIi64)))), (150, (i6 (([([a2, a3] : List Int), ([r54, (w64 ((1 : Int) + r55))] : List Int), ([(w64 (r56 * (37500000 : Int))), (300 : Int)] : List Int)] : List (List Int)).length : Int))), (151, (i6 s57))] : EL)) (w64 (s57 + (1 : Int)))) ((fun s57 : Int => ([(1014, some (.box 30 (.d (e_api_Series r4.1))))] : OL)) (w64 (s57 + (1 : Int)))) hB))⟩
            · replace h := ite_f hg78 h
              refine AWp.exit ?_
              refine seqQ_e ?_
              obtain rfl := Option.some.inj h
              exact ⟨(fun hc => by cases hc), rfl, (mp [] ((fun _ : Unit => ([(1, (.d (.list 1 (a1.map (eI .i64))))), (3, (i6 a3)), (4, (i6 a4)), (14, (.ptr 1014 0 []))] : EL)) ()) ((fun _ : Unit => ([(1014, some (.box 30 (.d (e_api_Series r4.1))))] : OL)) ()) hB)⟩
          · rcases x87 with _ | _
            · obtain ⟨rfl, hmat⟩ := hR
              refine blkQ_r ?_
              refine seqQ_r ?_
              obtain rfl := Option.some.inj h
              exact ⟨.inl rfl, _, _, (Mat.trans hmat (mp [] [(12, (bo false))] [] hB)), [(bo false)], (Res.tmp (by rfl) (by rfl) Res.nil), rfl, by rfl, by rfl, by rfl⟩
            · obtain ⟨rfl, hmat⟩ := hR
              refine blkQ_hit ?_
              refine seqQ_n ?_
              refine AWp.ghost hmat ?_
              refine AWp.seq ?_
              refine AWp.seq ?_
              refine AWp.region (oc (mv hN (ot 1 (.d (.list 1 (a1.map (eI .i64))))))
                (oc (ov (.ptr 1014 2 [2]) (fp hN Try.underlying30 2 tyS22 (.box 30 (.d (e_api_Series r4.1))) (ot 14 (.ptr 1014 0 []))))
                (oc (lb hN 30 (.d (e_api_Series r4.1)) (.d (.list 1 (r4.1.fIn.map (eI .i64)))) tyS22 (ad (.list 1 (r4.1.fIn.map (eI .i64)))) (ot 185 (.ptr 1014 2 [2])))
                (oc (ov (.ptr 1014 3 [3]) (fp hN Try.underlying30 3 tyS22 (.box 30 (.d (e_api_Series r4.1))) (ot 14 (.ptr 1014 0 []))))
                (oc (lb hN 30 (.d (e_api_Series r4.1)) (.d (.list 1 (r4.1.fOut.map (eI .i64)))) tyS22 (ad (.list 1 (r4.1.fOut.map (eI .i64)))) (ot 187 (.ptr 1014 3 [3])))
                (oc (OpJ.buildSlice Try.underlying42 tyS22 tyZD22 (by rfl) (by decide) (by decide) (Opds.cons (ot 184 (.d (.list 1 (a1.map (eI .i64))))) (Opds.cons (ot 186 (.d (.list 1 (r4.1.fIn.map (eI .i64))))) (Opds.cons (ot 188 (.d (.list 1 (r4.1.fOut.map (eI .i64))))) Opds.nil))) (by kernel_rfl) (es := ([(.list 1 (a1.map (eI .i64))), (.list 1 (r4.1.fIn.map (eI .i64))), (.list 1 (r4.1.fOut.map (eI .i64)))] : List D)) (by rfl) (by rfl) (by kernel_rfl) (by simp) (ltN hN rfl))
                (oc (OpJ.val (v' := (i6 (([a1, r4.1.fIn, r4.1.fOut] : List (List Int)).length : Int))) (by simp) (OpJ.lenD Try.underlying42 (ltN hN rfl) (ot 189 (.d (.list 1 (([a1, r4.1.fIn, r4.1.fOut] : List (List Int)).map e_LeIi64))))))
                (oc (mv hN (Opd.int .i64 (0)))
                (OpJs.nil))))))))) (by rfl) (by rfl) ?_
              refine seqQ_n ?_
              refine AWp.ghost (mp [] [(3, (i6 a3)), (4, (i6 a4)), (189, (.d (.list 1 (([a1, r4.1.fIn, r4.1.fOut] : List (List Int)).map e_LeIi64)))), (190, (i6 (([a1, r4.1.fIn, r4.1.fOut] : List (List Int)).length : Int))), (191, (i6 (0 : Int)))] [] hB) ?_
              refine AWp.block ?_
              obtain ⟨x208, hx209, h⟩ := bindS h
              refine AWp.ghost (mp [] ((fun s89 : Int => ([(3, (i6 a3)), (4, (i6 a4)), (189, (.d (.list 1 (([a1, r4.1.fIn, r4.1.fOut] : List (List Int)).map e_LeIi64)))), (190, (i6 (([a1, r4.1.fIn, r4.1.fOut] : List (List Int)).length : Int))), (191, (i6 s89))] : EL)) (0 : Int)) ((fun s89 : Int => ([] : OL)) (0 : Int)) hB) ?_
              refine AWp.loopS (exchangepointlaw40_PercentileRates_L2 a1 a3 a4 r4) (fun s89 : Int => ([(3, (i6 a3)), (4, (i6 a4)), (189, (.d (.list 1 (([a1, r4.1.fIn, r4.1.fOut] : List (List Int)).map e_LeIi64)))), (190, (i6 (([a1, r4.1.fIn, r4.1.fOut] : List (List Int)).length : Int))), (191, (i6 s89))] : EL)) (fun s89 : Int => ([] : OL)) (fun (x : (Unit) ⊕ (Unit)) e E' O' => match x with | (.inl _p) => e = .ret ∧ Mat B E' O' ([(12, (bo false))] : EL) ([] : OL) | (.inr _p) => e = .exit 5 ∧ Mat B E' O' ([] : EL) ([] : OL)) hx209 (fun s89 y h => ?_) (fun e E' O' hR => ?_)
              · unfold exchangepointlaw40_PercentileRates_L2 at h
                show AWp _ _ _ _ ([(3, (i6 a3)), (4, (i6 a4)), (189, (.d (.list 1 (([a1, r4.1.fIn, r4.1.fOut] : List (List Int)).map e_LeIi64)))), (190, (i6 (([a1, r4.1.fIn, r4.1.fOut] : List (List Int)).length : Int))), (191, (i6 s89))] : EL) ([] : OL)
                refine AWp.seq ?_
                refine AWp.region (oc (OpJ.lss (ltN hN rfl) (ot 191 (i6 s89)) (ot 190 (i6 (([a1, r4.1.fIn, r4.1.fOut] : List (List Int)).length : Int))))
                  (OpJs.nil)) (by rfl) (by rfl) ?_
                refine seqQ_n ?_
                refine AWp.ghost (mp [] [(3, (i6 a3)), (4, (i6 a4)), (189, (.d (.list 1 (([a1, r4.1.fIn, r4.1.fOut] : List (List Int)).map e_LeIi64)))), (190, (i6 (([a1, r4.1.fIn, r4.1.fOut] : List (List Int)).length : Int))), (191, (i6 s89)), (192, (bo (decide (s89 < (([a1, r4.1.fIn, r4.1.fOut] : List (List Int)).length : Int)))))] [] hB) ?_
                refine AWp.seq ?_
                refine AWp.cond (b := (decide (s89 < (([a1, r4.1.fIn, r4.1.fOut] : List (List Int)).length : Int)))) (by rfl) (fun hg170 => ?_) (fun hg170 => ?_)
                · replace h := ite_t hg170 h
                  refine AWp.skip ?_
                  refine seqQ_n ?_
                  refine AWp.seq ?_
                  refine AWp.block ?_
                  refine AWp.seq ?_
                  obtain ⟨x171, hx171, h⟩ := bindS h
                  refine AWp.region (oc (OpJ.indexD (el := (.list 1 (x171.map (eI .i64)))) Try.underlying42 tyS22 (idx_some hx171).1 (get_map e_LeIi64 (idx_some hx171).2) (ltN hN rfl) (ot 189 (.d (.list 1 (([a1, r4.1.fIn, r4.1.fOut] : List (List Int)).map e_LeIi64)))) (ot 191 (i6 s89)))
                    (oc (OpJ.loadD tyS22 (by rfl) (by rfl) (ltN hN rfl) (ot 193 (.dptr (.list 1 (x171.map (eI .i64))))))
                    (oc (OpJ.assign (ltN hN rfl) (ot 194 (.d (.list 1 (x171.map (eI .i64))))))
                    (OpJs.nil)))) (by rfl) (by rfl) ?_
                  refine seqQ_n ?_
                  refine AWp.ghost (mp [] [(3, (i6 a3)), (4, (i6 a4)), (29, (.d (.list 1 (x171.map (eI .i64))))), (189, (.d (.list 1 (([a1, r4.1.fIn, r4.1.fOut] : List (List Int)).map e_LeIi64)))), (190, (i6 (([a1, r4.1.fIn, r4.1.fOut] : List (List Int)).length : Int))), (191, (i6 s89))] [] hB) ?_
                  refine AWp.seq ?_
                  obtain ⟨r172, hr172, h⟩ := bindS h
                  refine AWp.region (oc (mv hN (ot 29 (.d (.list 1 (x171.map (eI .i64))))))
                    (oc (OpJ.callFn hB fnOk22 (percentile_Rates_ac x171 (300 : Int) r172 hr172) [] (by kernel_rfl) (ltN hN rfl) (by kernel_rfl) (OpdL.cons (ot 196 (.d (.list 1 (x171.map (eI .i64))))) (OpdL.cons (Opd.int .i64 (300)) OpdL.nil)))
                    (oc (mv hN (ot 197 (.tup [(.d (.list 1 (r172.1.map (eI .i64)))), (i6 r172.2)])))
                    (oc (OpJ.extract (v := (.d (.list 1 (r172.1.map (eI .i64))))) (by rfl) rfl (ltN hN rfl) (ot 195 (.tup [(.d (.list 1 (r172.1.map (eI .i64)))), (i6 r172.2)])))
                    (oc (OpJ.extract (v := (i6 r172.2)) (by rfl) rfl (ltN hN rfl) (ot 195 (.tup [(.d (.list 1 (r172.1.map (eI .i64)))), (i6 r172.2)])))
                    (oc (OpJ.assign (ltN hN rfl) (ot 198 (.d (.list 1 (r172.1.map (eI .i64))))))
                    (oc (OpJ.assign (ltN hN rfl) (ot 199 (i6 r172.2)))
                    (OpJs.nil)))))))) (by rfl) (by rfl) ?_
                  refine seqQ_n ?_
                  refine AWp.ghost (mp [] [(3, (i6 a3)), (4, (i6 a4)), (29, (.d (.list 1 (x171.map (eI .i64))))), (30, (.d (.list 1 (r172.1.map (eI .i64))))), (31, (i6 r172.2)), (189, (.d (.list 1 (([a1, r4.1.fIn, r4.1.fOut] : List (List Int)).map e_LeIi64)))), (190, (i6 (([a1, r4.1.fIn, r4.1.fOut] : List (List Int)).length : Int))), (191, (i6 s89))] [] hB) ?_
                  refine AWp.seq ?_
                  obtain ⟨r173, hr173, h⟩ := bindS h
                  refine AWp.region (oc (mv hN (ot 29 (.d (.list 1 (x171.map (eI .i64))))))
                    (oc (OpJ.callFn hB fnOk23 (exchangepointref40_Rates_ac x171 (300 : Int) r173 hr173) [] (by kernel_rfl) (ltN hN rfl) (by kernel_rfl) (OpdL.cons (ot 201 (.d (.list 1 (x171.map (eI .i64))))) (OpdL.cons (Opd.int .i64 (300)) OpdL.nil)))
                    (oc (mv hN (ot 202 (.tup [(.d (.list 1 (r173.1.map (eI .i64)))), (i6 r173.2)])))
                    (oc (OpJ.extract (v := (.d (.list 1 (r173.1.map (eI .i64))))) (by rfl) rfl (ltN hN rfl) (ot 200 (.tup [(.d (.list 1 (r173.1.map (eI .i64)))), (i6 r173.2)])))
                    (oc (OpJ.extract (v := (i6 r173.2)) (by rfl) rfl (ltN hN rfl) (ot 200 (.tup [(.d (.list 1 (r173.1.map (eI .i64)))), (i6 r173.2)])))
                    (oc (OpJ.assign (ltN hN rfl) (ot 203 (.d (.list 1 (r173.1.map (eI .i64))))))
                    (oc (OpJ.assign (ltN hN rfl) (ot 204 (i6 r173.2)))
                    (OpJs.nil)))))))) (by rfl) (by rfl) ?_
                  refine seqQ_n ?_
                  refine AWp.ghost (mp [] [(3, (i6 a3)), (4, (i6 a4)), (29, (.d (.list 1 (x171.map (eI .i64))))), (30, (.d (.list 1 (r172.1.map (eI .i64))))), (31, (i6 r172.2)), (32, (.d (.list 1 (r173.1.map (eI .i64))))), (33, (i6 r173.2)), (189, (.d (.list 1 (([a1, r4.1.fIn, r4.1.fOut] : List (List Int)).map e_LeIi64)))), (190, (i6 (([a1, r4.1.fIn, r4.1.fOut] : List (List Int)).length : Int))), (191, (i6 s89))] [] hB) ?_
                  refine AWp.seq ?_
                  obtain ⟨r174, hr174, h⟩ := bindS h
                  refine AWp.region (oc (mv hN (ot 29 (.d (.list 1 (x171.map (eI .i64))))))
                    (oc (mv hN (ot 3 (i6 a3)))
                    (oc (OpJ.callFn hB fnOk22 (percentile_Rates_ac x171 a3 r174 hr174) [] (by kernel_rfl) (ltN hN rfl) (by kernel_rfl) (OpdL.cons (ot 206 (.d (.list 1 (x171.map (eI .i64))))) (OpdL.cons (ot 207 (i6 a3)) OpdL.nil)))
                    (oc (mv hN (ot 208 (.tup [(.d (.list 1 (r174.1.map (eI .i64)))), (i6 r174.2)])))
                    (oc (OpJ.extract (v := (.d (.list 1 (r174.1.map (eI .i64))))) (by rfl) rfl (ltN hN rfl) (ot 205 (.tup [(.d (.list 1 (r174.1.map (eI .i64)))), (i6 r174.2)])))
                    (oc (OpJ.extract (v := (i6 r174.2)) (by rfl) rfl (ltN hN rfl) (ot 205 (.tup [(.d (.list 1 (r174.1.map (eI .i64)))), (i6 r174.2)])))
                    (oc (OpJ.assign (ltN hN rfl) (ot 209 (.d (.list 1 (r174.1.map (eI .i64))))))
                    (oc (OpJ.assign (ltN hN rfl) (ot 210 (i6 r174.2)))
                    (OpJs.nil))))))))) (by rfl) (by rfl) ?_
                  refine seqQ_n ?_
                  refine AWp.ghost (mp [] [(3, (i6 a3)), (4, (i6 a4)), (29, (.d (.list 1 (x171.map (eI .i64))))), (30, (.d (.list 1 (r172.1.map (eI .i64))))), (31, (i6 r172.2)), (32, (.d (.list 1 (r173.1.map (eI .i64))))), (33, (i6 r173.2)), (34, (.d (.list 1 (r174.1.map (eI .i64))))), (35, (i6 r174.2)), (189, (.d (.list 1 (([a1, r4.1.fIn, r4.1.fOut] : List (List Int)).map e_LeIi64)))), (190, (i6 (([a1, r4.1.fIn, r4.1.fOut] : List (List Int)).length : Int))), (191, (i6 s89))] [] hB) ?_
                  refine AWp.seq ?_
                  obtain ⟨r175, hr175, h⟩ := bindS h
                  refine AWp.region (oc (mv hN (ot 29 (.d (.list 1 (x171.map (eI .i64))))))
                    (oc (mv hN (ot 3 (i6 a3)))
                    (oc (OpJ.callFn hB fnOk23 (exchangepointref40_Rates_ac x171 a3 r175 hr175) [] (by kernel_rfl) (ltN hN rfl) (by kernel_rfl) (OpdL.cons (ot 212 (.d (.list 1 (x171.map (eI .i64))))) (OpdL.cons (ot 213 (i6 a3)) OpdL.nil)))
                    (oc (mv hN (ot 214 (.tup [(.d (.list 1 (r175.1.map (eI .i64)))), (i6 r175.2)])))
                    (oc (OpJ.extract (v := (.d (.list 1 (r175.1.map (eI .i64))))) (by rfl) rfl (ltN hN rfl) (ot 211 (.tup [(.d (.list 1 (r175.1.map (eI .i64)))), (i6 r175.2)])))
                    (oc (OpJ.extract (v := (i6 r175.2)) (by rfl) rfl (ltN hN rfl) (ot 211 (.tup [(.d (.list 1 (r175.1.map (eI .i64)))), (i6 r175.2)])))
                    (oc (OpJ.assign (ltN hN rfl) (ot 215 (.d (.list 1 (r175.1.map (eI .i64))))))
                    (oc (OpJ.assign (ltN hN rfl) (ot 216 (i6 r175.2)))
                    (OpJs.nil))))))))) (by rfl) (by rfl) ?_
                  refine seqQ_n ?_
                  refine AWp.ghost (mp [] [(3, (i6 a3)), (4, (i6 a4)), (29, (.d (.list 1 (x171.map (eI .i64))))), (30, (.d (.list 1 (r172.1.map (eI .i64))))), (31, (i6 r172.2)), (32, (.d (.list 1 (r173.1.map (eI .i64))))), (33, (i6 r173.2)), (34, (.d (.list 1 (r174.1.map (eI .i64))))), (35, (i6 r174.2)), (36, (.d (.list 1 (r175.1.map (eI .i64))))), (37, (i6 r175.2)), (189, (.d (.list 1 (([a1, r4.1.fIn, r4.1.fOut] : List (List Int)).map e_LeIi64)))), (190, (i6 (([a1, r4.1.fIn, r4.1.fOut] : List (List Int)).length : Int))), (191, (i6 s89))] [] hB) ?_
                  refine AWp.seq ?_
                  refine AWp.seq ?_
                  refine AWp.cut h (fun m180 : Bool => ([(3, (i6 a3)), (4, (i6 a4)), (29, (.d (.list 1 (x171.map (eI .i64))))), (189, (.d (.list 1 (([a1, r4.1.fIn, r4.1.fOut] : List (List Int)).map e_LeIi64)))), (190, (i6 (([a1, r4.1.fIn, r4.1.fOut] : List (List Int)).length : Int))), (191, (i6 s89)), (236, (bo m180))] : EL)) (fun m180 : Bool => ([] : OL)) (fun m180 h E' O' hmat => ?_) (fun j181 hjj181 h => ?_)
                  · refine seqQ_n ?_
                    refine AWp.ghost hmat ?_
                    refine AWp.cond (b := m180) (by rfl) (fun hg182 => ?_) (fun hg182 => ?_)
                    · replace h := ite_t hg182 h
                      refine AWp.seq ?_
                      refine AWp.region (oc (OpJ.assign (ltN hN rfl) (Opd.bool false))
                        (OpJs.nil)) (by rfl) (by rfl) ?_
                      refine seqQ_n ?_
                      refine AWp.ghost (mp [] [(12, (bo false))] [] hB) ?_
                      refine AWp.ret ?_
                      refine seqQ_r ?_
                      refine blkQ_r ?_
                      refine seqQ_r ?_
                      obtain rfl := Option.some.inj h
                      exact ⟨(fun hc => by cases hc), rfl, (mp [] ((fun _ : Unit => ([(12, (bo false))] : EL)) ()) ((fun _ : Unit => ([] : OL)) ()) hB)⟩
                    · replace h := ite_f hg182 h
                      refine AWp.skip ?_
                      refine seqQ_n ?_
                      refine AWp.seq ?_
                      obtain ⟨r183, hr183, h⟩ := bindS h
                      refine AWp.region (oc (mv hN (ot 4 (i6 a4)))
                        (oc (mv hN (ot 4 (i6 a4)))
                        (oc (OpJ.callFn hB fnOk10 (exchangepointmill_Mod_ac a4 (103 : Int) r183 hr183) [] (by kernel_rfl) (ltN hN rfl) (by kernel_rfl) (OpdL.cons (ot 238 (i6 a4)) (OpdL.cons (Opd.int .i64 (103)) OpdL.nil)))
                        (oc (OpJ.sub (ltN hN rfl) (ot 239 (i6 r183)) (Opd.int .i64 (1)))
                        (oc (OpJ.buildSlice Try.underlying22 tyS3 tyZD3 (by rfl) (by decide) (by decide) (Opds.cons (ot 237 (i6 a4)) (Opds.cons (ot 240 (i6 (w64 (r183 - (1 : Int))))) (Opds.cons (Opd.int .i64 (95)) Opds.nil))) (by kernel_rfl) (es := ([(.int .i64 a4), (.int .i64 (w64 (r183 - (1 : Int)))), (.int .i64 (95 : Int))] : List D)) (by rfl) (by rfl) (by kernel_rfl) (by simp) (ltN hN rfl))
                        (oc (OpJ.val (v' := (i6 (([a4, (w64 (r183 - (1 : Int))), (95 : Int)] : List Int).length : Int))) (by simp) (OpJ.lenD Try.underlying22 (ltN hN rfl) (ot 241 (.d (.list 1 (([a4, (w64 (r183 - (1 : Int))), (95 : Int)] : List Int).map (eI .i64)))))))
                        (oc (mv hN (Opd.int .i64 (0)))
                        (OpJs.nil)))))))) (by rfl) (by rfl) ?_
                      refine seqQ_n ?_
                      refine AWp.ghost (mp [] [(3, (i6 a3)), (4, (i6 a4)), (29, (.d (.list 1 (x171.map (eI .i64))))), (189, (.d (.list 1 (([a1, r4.1.fIn, r4.1.fOut] : List (List Int)).map e_LeIi64)))), (190, (i6 (([a1, r4.1.fIn, r4.1.fOut] : List (List Int)).length : Int))), (191, (i6 s89)), (241, (.d (.list 1 (([a4, (w64 (r183 - (1 : Int))), (95 : Int)] : List Int).map (eI .i64))))), (242, (i6 (([a4, (w64 (r183 - (1 : Int))), (95 : Int)] : List Int).length : Int))), (243, (i6 (0 : Int)))] [] hB) ?_
                      refine AWp.block ?_
                      obtain ⟨x202, hx203, h⟩ := bindS h
                      refine AWp.ghost (mp [] ((fun s184 : Int => ([(3, (i6 a3)), (4, (i6 a4)), (29, (.d (.list 1 (x171.map (eI .i64))))), (189, (.d (.list 1 (([a1, r4.1.fIn, r4.1.fOut] : List (List Int)).map e_LeIi64)))), (190, (i6 (([a1, r4.1.fIn, r4.1.fOut] : List (List Int)).length : Int))), (191, (i6 s89)), (241, (.d (.list 1 (([a4, (w64 (r183 - (1 : Int))), (95 : Int)] : List Int).map (eI .i64))))), (242, (i6 (([a4, (w64 (r183 - (1 : Int))), (95 : Int)] : List Int).length : Int))), (243, (i6 s184))] : EL)) (0 : Int)) ((fun s184 : Int => ([] : OL)) (0 : Int)) hB) ?_
                      refine AWp.loopS (exchangepointlaw40_PercentileRates_L3 a4 x171 r183) (fun s184 : Int => ([(3, (i6 a3)), (4, (i6 a4)), (29, (.d (.list 1 (x171.map (eI .i64))))), (189, (.d (.list 1 (([a1, r4.1.fIn, r4.1.fOut] : List (List Int)).map e_LeIi64)))), (190, (i6 (([a1, r4.1.fIn, r4.1.fOut] : List (List Int)).length : Int))), (191, (i6 s89)), (241, (.d (.list 1 (([a4, (w64 (r183 - (1 : Int))), (95 : Int)] : List Int).map (eI .i64))))), (242, (i6 (([a4, (w64 (r183 - (1 : Int))), (95 : Int)] : List Int).length : Int))), (243, (i6 s184))] : EL)) (fun s184 : Int => ([] : OL)) (fun (x : (Unit) ⊕ (Unit)) e E' O' => match x with | (.inl _p) => e = .ret ∧ Mat B E' O' ([(12, (bo false))] : EL) ([] : OL) | (.inr _p) => e = .exit 7 ∧ Mat B E' O' ([(3, (i6 a3)), (4, (i6 a4)), (189, (.d (.list 1 (([a1, r4.1.fIn, r4.1.fOut] : List (List Int)).map e_LeIi64)))), (190, (i6 (([a1, r4.1.fIn, r4.1.fOut] : List (List Int)).length : Int))), (191, (i6 s89))] : EL) ([] : OL)) hx203 (fun s184 y h => ?_) (fun e E' O' hR => ?_)
                      · unfold exchangepointlaw40_PercentileRates_L3 at h
                        show AWp _ _ _ _ ([(3, (i6 a3)), (4, (i6 a4)), (29, (.d (.list 1 (x171.map (eI .i64))))), (189, (.d (.list 1 (([a1, r4.1.fIn, r4.1.fOut] : List (List Int)).map e_LeIi64)))), (190, (i6 (([a1, r4.1.fIn, r4.1.fOut] : List (List Int)).length : Int))), (191, (i6 s89)), (241, (.d (.list 1 (([a4, (w64 (r183 - (1 : Int))), (95 : Int)] : List Int).map (eI .i64))))), (242, (i6 (([a4, (w64 (r183 - (1 : Int))), (95 : Int)] : List Int).length : Int))), (243, (i6 s184))] : EL) ([] : OL)
                        refine AWp.seq ?_
                        refine AWp.region (oc (OpJ.lss (ltN hN rfl) (ot 243 (i6 s184)) (ot 242 (i6 (([a4, (w64 (r183 - (1 : Int))), (95 : Int)] : List Int).length : Int))))
                          (OpJs.nil)) (by rfl) (by rfl) ?_
                        refine seqQ_n ?_
                        refine AWp.ghost (mp [] [(3, (i6 a3)), (4, (i6 a4)), (29, (.d (.list 1 (x171.map (eI .i64))))), (189, (.d (.list 1 (([a1, r4.1.fIn, r4.1.fOut] : List (List Int)).map e_LeIi64)))), (190, (i6 (([a1, r4.1.fIn, r4.1.fOut] : List (List Int)).length : Int))), (191, (i6 s89)), (241, (.d (.list 1 (([a4, (w64 (r183 - (1 : Int))), (95 : Int)] : List Int).map (eI .i64))))), (242, (i6 (([a4, (w64 (r183 - (1 : Int))), (95 : Int)] : List Int).length : Int))), (243, (i6 s184)), (244, (bo (decide (s184 < (([a4, (w64 (r183 - (1 : Int))), (95 : Int)] : List Int).length : Int)))))] [] hB) ?_
                        refine AWp.seq ?_
                        refine AWp.cond (b := (decide (s184 < (([a4, (w64 (r183 - (1 : Int))), (95 : Int)] : List Int).length : Int)))) (by rfl) (fun hg197 => ?_) (fun hg197 => ?_)
                        · replace h := ite_t hg197 h
                          refine AWp.skip ?_
                          refine seqQ_n ?_
                          refine AWp.seq ?_
                          refine AWp.block ?_
                          refine AWp.seq ?_
                          obtain ⟨x198, hx198, h⟩ := bindS h
                          refine AWp.region (oc (OpJ.indexD (el := (.int .i64 x198)) Try.underlying22 tyS3 (idx_some hx198).1 (get_map (eI .i64) (idx_some hx198).2) (ltN hN rfl) (ot 241 (.d (.list 1 (([a4, (w64 (r183 - (1 : Int))), (95 : Int)] : List Int).map (eI .i64))))) (ot 243 (i6 s184)))
                            (oc (OpJ.loadD tyS3 (by rfl) (by rfl) (ltN hN rfl) (ot 245 (.dptr (.int .i64 x198))))
                            (oc (OpJ.assign (ltN hN rfl) (ot 246 (i6 x198)))
                            (OpJs.nil)))) (by rfl) (by rfl) ?_
                          refine seqQ_n ?_
                          refine AWp.ghost (mp [] [(3, (i6 a3)), (4, (i6 a4)), (29, (.d (.list 1 (x171.map (eI .i64))))), (39, (i6 x198)), (189, (.d (.list 1 (([a1, r4.1.fIn, r4.1.fOut] : List (List Int)).map e_LeIi64)))), (190, (i6 (([a1, r4.1.fIn, r4.1.fOut] : List (List Int)).length : Int))), (191, (i6 s89)), (241, (.d (.list 1 (([a4, (w64 (r183 - (1 : Int))), (95 : Int)] : List Int).map (eI .i64))))), (242, (i6 (([a4, (w64 (r183 - (1 : Int))), (95 : Int)] : List Int).length : Int))), (243, (i6 s184))] [] hB) ?_
                          refine AWp.seq ?_
                          obtain ⟨r199, hr199, h⟩ := bindS h
                          refine AWp.region (oc (mv hN (ot 29 (.d (.list 1 (x171.map (eI .i64))))))
                            (oc (mv hN (ot 39 (i6 x198)))
                            (oc (OpJ.callFn hB fnOk8 (percentile_Percentile_ac x171 x198 r199 hr199) [] (by kernel_rfl) (ltN hN rfl) (by kernel_rfl) (OpdL.cons (ot 248 (.d (.list 1 (x171.map (eI .i64))))) (OpdL.cons (ot 249 (i6 x198)) OpdL.nil)))
                            (oc (mv hN (ot 250 (.tup [(i6 r199.1), (i6 r199.2)])))
                            (oc (OpJ.extract (v := (i6 r199.1)) (by rfl) rfl (ltN hN rfl) (ot 247 (.tup [(i6 r199.1), (i6 r199.2)])))
                            (oc (OpJ.extract (v := (i6 r199.2)) (by rfl) rfl (ltN hN rfl) (ot 247 (.tup [(i6 r199.1), (i6 r199.2)])))
                            (oc (OpJ.assign (ltN hN rfl) (ot 251 (i6 r199.1)))
                            (oc (OpJ.assign (ltN hN rfl) (ot 252 (i6 r199.2)))
                            (OpJs.nil))))))))) (by rfl) (by rfl) ?_
                          refine seqQ_n ?_
                          refine AWp.ghost (mp [] [(3, (i6 a3)), (4, (i6 a4)), (29, (.d (.list 1 (x171.map (eI .i64))))), (39, (i6 x198)), (40, (i6 r199.1)), (41, (i6 r199.2)), (189, (.d (.list 1 (([a1, r4.1.fIn, r4.1.fOut] : List (List Int)).map e_LeIi64)))), (190, (i6 (([a1, r4.1.fIn, r4.1.fOut] : List (List Int)).length : Int))), (191, (i6 s89)), (241, (.d (.list 1 (([a4, (w64 (r183 - (1 : Int))), (95 : Int)] : List Int).map (eI .i64))))), (242, (i6 (([a4, (w64 (r183 - (1 : Int))), (95 : Int)] : List Int).length : Int))), (243, (i6 s184))] [] hB) ?_
                          refine AWp.seq ?_
                          obtain ⟨r200, hr200, h⟩ := bindS h
                          refine AWp.region (oc (mv hN (ot 29 (.d (.list 1 (x171.map (eI .i64))))))
                            (oc (mv hN (ot 39 (i6 x198)))
                            (oc (OpJ.callFn hB fnOk25 (exchangepointref40_Percentile_ac x171 x198 r200 hr200) [] (by kernel_rfl) (ltN hN rfl) (by kernel_rfl) (OpdL.cons (ot 254 (.d (.list 1 (x171.map (eI .i64))))) (OpdL.cons (ot 255 (i6 x198)) OpdL.nil)))
                            (oc (mv hN (ot 256 (.tup [(i6 r200.1), (i6 r200.2)])))
                            (oc (OpJ.extract (v := (i6 r200.1)) (by rfl) rfl (ltN hN rfl) (ot 253 (.tup [(i6 r200.1), (i6 r200.2)])))
                            (oc (OpJ.extract (v := (i6 r200.2)) (by rfl) rfl (ltN hN rfl) (ot 253 (.tup [(i6 r200.1), (i6 r200.2)])))
                            (oc (OpJ.assign (ltN hN rfl) (ot 257 (i6 r200.1)))
                            (oc (OpJ.assign (ltN hN rfl) (ot 258 (i6 r200.2)))
                            (OpJs.nil))))))))) (by rfl) (by rfl) ?_
                          refine seqQ_n ?_
                          refine AWp.ghost (mp [] [(3, (i6 a3)), (4, (i6 a4)), (29, (.d (.list 1 (x171.map (eI .i64))))), (40, (i6 r199.1)), (41, (i6 r199.2)), (42, (i6 r200.1)), (43, (i6 r200.2)), (189, (.d (.list 1 (([a1, r4.1.fIn, r4.1.fOut] : List (List Int)).map e_LeIi64)))), (190, (i6 (([a1, r4.1.fIn, r4.1.fOut] : List (List Int)).length : Int))), (191, (i6 s89)), (241, (.d (.list 1 (([a4, (w64 (r183 - (1 : Int))), (95 : Int)] : List Int).map (eI .i64))))), (242, (i6 (([a4, (w64 (r183 - (1 : Int))), (95 : Int)] : List Int).length : Int))), (243, (i6 s184))] [] hB) ?_
                          refine AWp.seq ?_
                          refine AWp.region (oc (mv hN (ot 40 (i6 r199.1)))
                            (oc (mv hN (ot 42 (i6 r200.1)))
                            (oc (OpJ.neqI (ltN hN rfl) (ot 259 (i6 r199.1)) (ot 260 (i6 r200.1)))
                            (oc (mv hN (ot 261 (bo (r199.1 != r200.1))))
                            (oc (op hN (i6 r199.2) (mv hN (ot 41 (i6 r199.2))) (OptL.keep rfl OptL.nil) (GuardV.plain _))
                            (oc (op hN (i6 r200.2) (mv hN (ot 43 (i6 r200.2))) (OptL.keep rfl OptL.nil) (GuardV.plain _))
                            (oc (op hN (bo (r199.2 != r200.2)) (OpJ.neqI (ltN hN rfl) (ot 263 (i6 r199.2)) (ot 264 (i6 r200.2))) (OptL.opt (OptL.opt OptL.nil)) (GuardV.plain _))
                            (oc (OpJ.pickOr rfl (ltN hN rfl) (ot 262 (bo (r199.1 != r200.1))) (ot 265 (.opt ((r199.1 != r200.1) == false) (bo (r199.2 != r200.2)))))
                            (OpJs.nil))))))))) (by rfl) (by rfl) ?_
                          refine seqQ_n ?_
                          refine AWp.ghost (mp [] [(3, (i6 a3)), (4, (i6 a4)), (29, (.d (.list 1 (x171.map (eI .i64))))), (189, (.d (.list 1 (([a1, r4.1.fIn, r4.1.fOut] : List (List Int)).map e_LeIi64)))), (190, (i6 (([a1, r4.1.fIn, r4.1.fOut] : List (List Int)).length : Int))), (191, (i6 s89)), (241, (.d (.list 1 (([a4, (w64 (r183 - (1 : Int))), (95 : Int)] : List Int).map (eI .i64))))), (242, (i6 (([a4, (w64 (r183 - (1 : Int))), (95 : Int)] : List Int).length : Int))), (243, (i6 s184)), (266, (bo ((r199.1 != r200.1) || (r199.2 != r200.2))))] [] hB) ?_
                          refine AWp.cond (b := ((r199.1 != r200.1) || (r199.2 != r200.2))) (by rfl) (fun hg201 => ?_) (fun hg201 => ?_)
                          · replace h := ite_t hg201 h
                            refine AWp.seq ?_
                            refine AWp.region (oc (OpJ.assign (ltN hN rfl) (Opd.bool false))
                              (OpJs.nil)) (by rfl) (by rfl) ?_
                            refine seqQ_n ?_
                            refine AWp.ghost (mp [] [(12, (bo false))] [] hB) ?_
                            refine AWp.ret ?_
                            refine blkQ_r ?_
                            refine seqQ_r ?_
                            obtain rfl := Option.some.inj h
                            exact ⟨(fun hc => by cases hc), rfl, (mp [] ((fun _ : Unit => ([(12, (bo false))] : EL)) ()) ((fun _ : Unit => ([] : OL)) ()) hB)⟩
                          · replace h := ite_f hg201 h
                            refine AWp.skip ?_
                            refine blkQ_n ?_
                            refine seqQ_n ?_
                            refine AWp.region (oc (OpJ.add (ltN hN rfl) (ot 243 (i6 s184)) (Opd.int .i64 (1)))
                              (oc (mv hN (ot 267 (i6 (w64 (s184 + (1 : Int))))))
                              (OpJs.nil))) (by rfl) (by rfl) ?_
                            obtain rfl := Option.some.inj h
                            exact ⟨rfl, (Mat.trans (mp [] [(3, (i6 a3)), (4, (i6 a4)), (29, (.d (.list 1 (x171.map (eI .i64))))), (189, (.d (.list 1 (([a1, r4.1.fIn, r4.1.fOut] : List (List Int)).map e_LeIi64)))), (190, (i6 (([a1, r4.1.fIn, r4.1.fOut] : List (List Int)).length : Int))), (191, (i6 s89)), (241, (.d (.list 1 (([a4, (w64 (r183 - (1 : Int))), (95 : Int)] : List Int).map (eI .i64))))), (242, (i6 (([a4, (w64 (r183 - (1 : Int))), (95 : Int)] : List Int).length : Int))), (243, (i6 (w64 (s184 + (1 : Int)))))] [] hB) (mp [] ((fun s184 : Int => ([(3, (i6 a3)), (4, (i6 a4)), (29, (.d (.list 1 (x171.map (eI .i64))))), (189, (.d (.list 1 (([a1, r4.1.fIn, r4.1.fOut] : List (List Int)).map e_LeIi64)))), (190, (i6 (([a1, r4.1.fIn, r4.1.fOut] : List (List Int)).length : Int))), (191, (i6 s89)), (241, (.d (.list 1 (([a4, (w64 (r183 - (1 : Int))), (95 : Int)] : List Int).map (eI .i64))))), (242, (i6 (([a4, (w64 (r183 - (1 : Int))), (95 : Int)] : List Int).length : Int))), (243, (i6 s184))] : EL)) (w64 (s184 + (1 : Int)))) ((fun s184 : Int => ([] : OL)) (w64 (s184 + (1 : Int)))) hB))⟩
                        · replace h := ite_f hg197 h
                          refine AWp.exit ?_
                          refine seqQ_e ?_
                          obtain rfl := Option.some.inj h
                          exact ⟨(fun hc => by cases hc), rfl, (mp [] ((fun _ : Unit => ([(3, (i6 a3)), (4, (i6 a4)), (189, (.d (.list 1 (([a1, r4.1.fIn, r4.1.fOut] : List (List Int)).map e_LeIi64)))), (190, (i6 (([a1, r4.1.fIn, r4.1.fOut] : List (List Int)).length : Int))), (191, (i6 s89))] : EL)) ()) ((fun _ : Unit => ([] : OL)) ()) hB)⟩
                      · rcases x202 with _ | _
                        · obtain ⟨rfl, hmat⟩ := hR
                          refine blkQ_r ?_
                          refine blkQ_r ?_
                          refine seqQ_r ?_
                          obtain rfl := Option.some.inj h
                          exact ⟨(fun hc => by cases hc), rfl, (Mat.trans hmat (mp [] ((fun _ : Unit => ([(12, (bo false))] : EL)) ()) ((fun _ : Unit => ([] : OL)) ()) hB))⟩
                        · obtain ⟨rfl, hmat⟩ := hR
                          refine blkQ_hit ?_
                          refine blkQ_n ?_
                          refine seqQ_n ?_
                          refine AWp.ghost hmat ?_
                          refine AWp.region (oc (OpJ.add (ltN hN rfl) (ot 191 (i6 s89)) (Opd.int .i64 (1)))
                            (oc (mv hN (ot 268 (i6 (w64 (s89 + (1 : Int))))))
                            (OpJs.nil))) (by rfl) (by rfl) ?_
                          obtain rfl := Option.some.inj h
                          exact ⟨rfl, (Mat.trans (mp [] [(3, (i6 a3)), (4, (i6 a4)), (189, (.d (.list 1 (([a1, r4.1.fIn, r4.1.fOut] : List (List Int)).map e_LeIi64)))), (190, (i6 (([a1, r4.1.fIn, r4.1.fOut] : List (List Int)).length : Int))), (191, (i6 (w64 (s89 + (1 : Int)))))] [] hB) (mp [] ((fun s89 : Int => ([(3, (i6 a3)), (4, (i6 a4)), (189, (.d (.list 1 (([a1, r4.1.fIn, r4.1.fOut] : List (List Int)).map e_LeIi64)))), (190, (i6 (([a1, r4.1.fIn, r4.1.fOut] : List (List Int)).length : Int))), (191, (i6 s89))] : EL)) (w64 (s89 + (1 : Int)))) ((fun s89 : Int => ([] : OL)) (w64 (s89 + (1 : Int)))) hB))⟩
                  · rcases Bool.eq_false_or_eq_true (r172.2 != r173.2) with hg204 | hg204
                    · replace h := ite_t hg204 h
                      refine AWp.region (oc (mv hN (ot 31 (i6 r172.2)))
                        (oc (mv hN (ot 33 (i6 r173.2)))
                        (oc (OpJ.neqI (ltN hN rfl) (ot 217 (i6 r172.2)) (ot 218 (i6 r173.2)))
                        (oc (OpJ.val (v' := .d (.bool true)) (by rw [hg204]) (mv hN (ot 219 (bo (r172.2 != r173.2)))))
                        (oc (OpJ.skipU (ltN hN rfl) (by rfl))
                        (oc (OpJ.skipU (ltN hN rfl) (by rfl))
                        (oc (OpJ.skipU (ltN hN rfl) (by rfl))
                        (oc (OpJ.skipU (ltN hN rfl) (by rfl))
                        (oc (OpJ.pickT (ltN hN rfl) (ot 220 (bo true)) (Opd.bool true))
                        (oc (mv hN (ot 225 (bo true)))
                        (oc (OpJ.skipU (ltN hN rfl) (by rfl))
                        (oc (OpJ.skipU (ltN hN rfl) (by rfl))
                        (oc (OpJ.skipU (ltN hN rfl) (by rfl))
                        (oc (OpJ.pickT (ltN hN rfl) (ot 226 (bo true)) (Opd.bool true))
                        (oc (mv hN (ot 230 (bo true)))
                        (oc (OpJ.skipU (ltN hN rfl) (by rfl))
                        (oc (OpJ.skipU (ltN hN rfl) (by rfl))
                        (oc (OpJ.skipU (ltN hN rfl) (by rfl))
                        (oc (OpJ.skipU (ltN hN rfl) (by rfl))
                        (oc (OpJ.pickT (ltN hN rfl) (ot 231 (bo true)) (Opd.bool true))
                        (OpJs.nil))))))))))))))))))))) (by rfl) (by rfl) ?_
                      exact hjj181 _ h _ _ (Mat.trans (mp [] [(3, (i6 a3)), (4, (i6 a4)), (29, (.d (.list 1 (x171.map (eI .i64))))), (189, (.d (.list 1 (([a1, r4.1.fIn, r4.1.fOut] : List (List Int)).map e_LeIi64)))), (190, (i6 (([a1, r4.1.fIn, r4.1.fOut] : List (List Int)).length : Int))), (191, (i6 s89)), (236, (bo true))] [] hB) (mp [] ((fun m180 : Bool => ([(3, (i6 a3)), (4, (i6 a4)), (29, (.d (.list 1 (x171.map (eI .i64))))), (189, (.d (.list 1 (([a1, r4.1.fIn, r4.1.fOut] : List (List Int)).map e_LeIi64)))), (190, (i6 (([a1, r4.1.fIn, r4.1.fOut] : List (List Int)).length : Int))), (191, (i6 s89)), (236, (bo m180))] : EL)) true) ((fun m180 : Bool => ([] : OL)) true) hB))
                    · replace h := ite_f hg204 h
                      obtain ⟨r205, hr205, h⟩ := bindS h
                      rcases Bool.eq_false_or_eq_true ((!r205) || (r174.2 != r175.2)) with hg206 | hg206
                      · replace h := ite_t hg206 h
                        refine AWp.region (oc (mv hN (ot 31 (i6 r172.2)))
                          (oc (mv hN (ot 33 (i6 r173.2)))
                          (oc (OpJ.neqI (ltN hN rfl) (ot 217 (i6 r172.2)) (ot 218 (i6 r173.2)))
                          (oc (OpJ.val (v' := .d (.bool false)) (by rw [hg204]) (mv hN (ot 219 (bo (r172.2 != r173.2)))))
                          (oc (OpJ.guarded (by rfl) (mv hN (ot 30 (.d (.list 1 (r172.1.map (eI .i64)))))))
                          (oc (OpJ.guarded (by rfl) (mv hN (ot 32 (.d (.list 1 (r173.1.map (eI .i64)))))))
                          (oc (OpJ.guarded (by rfl) (OpJ.callFn hB fnOk24 (exchangepointref23_SameInts_ac r172.1 r173.1 r205 hr205) [] (by kernel_rfl) (ltN hN rfl) (by kernel_rfl) (OpdL.cons (ot 221 (.d (.list 1 (r172.1.map (eI .i64))))) (OpdL.cons (ot 222 (.d (.list 1 (r173.1.map (eI .i64))))) OpdL.nil))))
                          (oc (OpJ.guarded (by rfl) (OpJ.not (ltN hN rfl) (ot 223 (bo r205))))
                          (oc (OpJ.pickF (ltN hN rfl) (ot 220 (bo false)) (ot 224 (bo (!r205))))
                          (oc (mv hN (ot 225 (bo (!r205))))
                          (oc (op hN (i6 r174.2) (mv hN (ot 35 (i6 r174.2))) (OptL.keep rfl OptL.nil) (GuardV.plain _))
                          (oc (op hN (i6 r175.2) (mv hN (ot 37 (i6 r175.2))) (OptL.keep rfl OptL.nil) (GuardV.plain _))
                          (oc (op hN (bo (r174.2 != r175.2)) (OpJ.neqI (ltN hN rfl) (ot 227 (i6 r174.2)) (ot 228 (i6 r175.2))) (OptL.opt (OptL.opt OptL.nil)) (GuardV.plain _))
                          (oc (OpJ.pickOr rfl (ltN hN rfl) (ot 226 (bo (!r205))) (ot 229 (.opt ((!r205) == false) (bo (r174.2 != r175.2)))))
                          (oc (OpJ.val (v' := .d (.bool true)) (by rw [hg206]) (mv hN (ot 230 (bo ((!r205) || (r174.2 != r175.2))))))
                          (oc (OpJ.skipU (ltN hN rfl) (by rfl))
                          (oc (OpJ.skipU (ltN hN rfl) (by rfl))
                          (oc (OpJ.skipU (ltN hN rfl) (by rfl))
                          (oc (OpJ.skipU (ltN hN rfl) (by rfl))
                          (oc (OpJ.pickT (ltN hN rfl) (ot 231 (bo true)) (Opd.bool true))
                          (OpJs.nil))))))))))))))))))))) (by rfl) (by rfl) ?_
                        exact hjj181 _ h _ _ (Mat.trans (mp [] [(3, (i6 a3)), (4, (i6 a4)), (29, (.d (.list 1 (x171.map (eI .i64))))), (189, (.d (.list 1 (([a1, r4.1.fIn, r4.1.fOut] : List (List Int)).map e_LeIi64)))), (190, (i6 (([a1, r4.1.fIn, r4.1.fOut] : List (List Int)).length : Int))), (191, (i6 s89)), (236, (bo true))] [] hB) (mp [] ((fun m180 : Bool => ([(3, (i6 a3)), (4, (i6 a4)), (29, (.d (.list 1 (x171.map (eI .i64))))), (189, (.d (.list 1 (([a1, r4.1.fIn, r4.1.fOut] : List (List Int)).map e_LeIi64)))), (190, (i6 (([a1, r4.1.fIn, r4.1.fOut] : List (List Int)).length : Int))), (191, (i6 s89)), (236, (bo m180))] : EL)) true) ((fun m180 : Bool => ([] : OL)) true) hB))
                      · replace h := ite_f hg206 h
                        obtain ⟨r207, hr207, h⟩ := bindS h
                        refine AWp.region (oc (mv hN (ot 31 (i6 r172.2)))
                          (oc (mv hN (ot 33 (i6 r173.2)))
                          (oc (OpJ.neqI (ltN hN rfl) (ot 217 (i6 r172.2)) (ot 218 (i6 r173.2)))
                          (oc (OpJ.val (v' := .d (.bool false)) (by rw [hg204]) (mv hN (ot 219 (bo (r172.2 != r173.2)))))
                          (oc (OpJ.guarded (by rfl) (mv hN (ot 30 (.d (.list 1 (r172.1.map (eI .i64)))))))
                          (oc (OpJ.guarded (by rfl) (mv hN (ot 32 (.d (.list 1 (r173.1.map (eI .i64)))))))
                          (oc (OpJ.guarded (by rfl) (OpJ.callFn hB fnOk24 (exchangepointref23_SameInts_ac r172.1 r173.1 r205 hr205) [] (by kernel_rfl) (ltN hN rfl) (by kernel_rfl) (OpdL.cons (ot 221 (.d (.list 1 (r172.1.map (eI .i64))))) (OpdL.cons (ot 222 (.d (.list 1 (r173.1.map (eI .i64))))) OpdL.nil))))
                          (oc (OpJ.guarded (by rfl) (OpJ.not (ltN hN rfl) (ot 223 (bo r205))))
                          (oc (OpJ.pickF (ltN hN rfl) (ot 220 (bo false)) (ot 224 (bo (!r205))))
                          (oc (mv hN (ot 225 (bo (!r205))))
                          (oc (op hN (i6 r174.2) (mv hN (ot 35 (i6 r174.2))) (OptL.keep rfl OptL.nil) (GuardV.plain _))
                          (oc (op hN (i6 r175.2) (mv hN (ot 37 (i6 r175.2))) (OptL.keep rfl OptL.nil) (GuardV.plain _))
                          (oc (op hN (bo (r174.2 != r175.2)) (OpJ.neqI (ltN hN rfl) (ot 227 (i6 r174.2)) (ot 228 (i6 r175.2))) (OptL.opt (OptL.opt OptL.nil)) (GuardV.plain _))
                          (oc (OpJ.pickOr rfl (ltN hN rfl) (ot 226 (bo (!r205))) (ot 229 (.opt ((!r205) == false) (bo (r174.2 != r175.2)))))
                          (oc (OpJ.val (v' := .d (.bool false)) (by rw [hg206]) (mv hN (ot 230 (bo ((!r205) || (r174.2 != r175.2))))))
                          (oc (OpJ.guarded (by rfl) (mv hN (ot 34 (.d (.list 1 (r174.1.map (eI .i64)))))))
                          (oc (OpJ.guarded (by rfl) (mv hN (ot 36 (.d (.list 1 (r175.1.map (eI .i64)))))))
                          (oc (OpJ.guarded (by rfl) (OpJ.callFn hB fnOk24 (exchangepointref23_SameInts_ac r174.1 r175.1 r207 hr207) [] (by kernel_rfl) (ltN hN rfl) (by kernel_rfl) (OpdL.cons (ot 232 (.d (.list 1 (r174.1.map (eI .i64))))) (OpdL.cons (ot 233 (.d (.list 1 (r175.1.map (eI .i64))))) OpdL.nil))))
                          (oc (OpJ.guarded (by rfl) (OpJ.not (ltN hN rfl) (ot 234 (bo r207))))
                          (oc (OpJ.pickF (ltN hN rfl) (ot 231 (bo false)) (ot 235 (bo (!r207))))
                          (OpJs.nil))))))))))))))))))))) (by rfl) (by rfl) ?_
                        exact hjj181 _ h _ _ (Mat.trans (mp [] [(3, (i6 a3)), (4, (i6 a4)), (29, (.d (.list 1 (x171.map (eI .i64))))), (189, (.d (.list 1 (([a1, r4.1.fIn, r4.1.fOut] : List (List Int)).map e_LeIi64)))), (190, (i6 (([a1, r4.1.fIn, r4.1.fOut] : List (List Int)).length : Int))), (191, (i6 s89)), (236, (bo (!r207)))] [] hB) (mp [] ((fun m180 : Bool => ([(3, (i6 a3)), (4, (i6 a4)), (29, (.d (.list 1 (x171.map (eI .i64))))), (189, (.d (.list 1 (([a1, r4.1.fIn, r4.1.fOut] : List (List Int)).map e_LeIi64)))), (190, (i6 (([a1, r4.1.fIn, r4.1.fOut] : List (List Int)).length : Int))), (191, (i6 s89)), (236, (bo m180))] : EL)) (!r207)) ((fun m180 : Bool => ([] : OL)) (!r207)) hB))
                · replace h := ite_f hg170 h
                  refine AWp.exit ?_
                  refine seqQ_e ?_
                  obtain rfl := Option.some.inj h
                  exact ⟨(fun hc => by cases hc), rfl, (mp [] ((fun _ : Unit => ([] : EL)) ()) ((fun _ : Unit => ([] : OL)) ()) hB)⟩
              · rcases x208 with _ | _
                · obtain ⟨rfl, hmat⟩ := hR
                  refine blkQ_r ?_
                  refine seqQ_r ?_
                  obtain rfl := Option.some.inj h
                  exact ⟨.inl rfl, _, _, (Mat.trans hmat (mp [] [(12, (bo false))] [] hB)), [(bo false)], (Res.tmp (by rfl) (by rfl) Res.nil), rfl, by rfl, by rfl, by rfl⟩
                · obtain ⟨rfl, hmat⟩ := hR
                  refine blkQ_hit ?_
                  refine seqQ_n ?_
                  refine AWp.ghost hmat ?_
                  refine AWp.seq ?_
                  obtain ⟨r210, hr210, h⟩ := bindS h
                  refine AWp.region (oc (OpJ.callFn hB fnOk9 (exchangepointlaw40_awake_ac  r210 hr210) [] (by kernel_rfl) (ltN hN rfl) (by kernel_rfl) OpdL.nil)
                    (oc (OpJ.assign (ltN hN rfl) (ot 269 (bo r210)))
                    (OpJs.nil))) (by rfl) (by rfl) ?_
                  refine seqQ_n ?_
                  refine AWp.ghost (mp [] [(12, (bo r210))] [] hB) ?_
                  refine AWp.ret ?_
                  obtain rfl := Option.some.inj h
                  exact ⟨.inl rfl, _, _, (mp [] [(12, (bo r210))] [] hB), [(bo r210)], (Res.tmp (by rfl) (by rfl) Res.nil), rfl, by rfl, by rfl, by rfl⟩
    · refine AWp.cond (b := (r6 == (0 : Int))) (by rfl) (fun hg211 => ?_) (fun hg211 => ?_)
      · replace h := ite_t hg211 h
        obtain ⟨hc212, h⟩ := chk_some h
        refine AWp.region (oc (ov (.ptr 1015 3 [3]) (fp hN Try.underlying30 3 tyS22 (.box 30 (.st [(i6 r5.fPort), (i6 r5.fSeconds), (.sref 100300 1 0 r5.fIn.length), (.sref 100301 1 0 r5.fOut.length)])) (ot 15 (.ptr 1015 0 []))))
          (oc (lb hN 30 (.st [(i6 r5.fPort), (i6 r5.fSeconds), (.sref 100300 1 0 r5.fIn.length), (.sref 100301 1 0 r5.fOut.length)]) (.sref 100301 1 0 r5.fOut.length) tyS22 (At.st1 (f := (.sref 100301 1 0 r5.fOut.length)) (by rfl) (by rfl) (At.here _) (by first | rfl | omega)) (ot 70 (.ptr 1015 3 [3])))
          (oc (OpJ.buildSlice Try.underlying22 tyS3 tyZD3 (by rfl) (by decide) (by decide) (Opds.cons (Opd.int .i64 (1)) Opds.nil) (by kernel_rfl) (es := ([(.int .i64 (1 : Int))] : List D)) (by rfl) (by rfl) (by kernel_rfl) (by simp) (ltN hN rfl))
          (oc (OpJ.append hB Try.underlying22 tyE3 (nm := 1073) (by decide) (es := r5.fOut.map (eI .i64)) (ys := ([(1 : Int)] : List Int).map (eI .i64)) (es' := (r5.fOut ++ ([(1 : Int)] : List Int)).map (eI .i64)) (len := (r5.fOut ++ ([(1 : Int)] : List Int)).length) (by simp) (by simp) (map_sz (f := (eI .i64)) (fun _ => rfl)) (by rw [List.length_map]; exact lim_mulN hc212 (by decide)) (by rw [List.length_map]; exact lim_leN hc212) (ltN hN rfl) (by simp) (ot 71 (.sref 100301 1 0 r5.fOut.length)) (ot 72 (.d (.list 1 (([(1 : Int)] : List Int).map (eI .i64))))))
          (oc (ov (.ptr 1015 3 [3]) (fp hN Try.underlying30 3 tyS22 (.box 30 (.st [(i6 r5.fPort), (i6 r5.fSeconds), (.sref 100300 1 0 r5.fIn.length), (.sref 100301 1 0 r5.fOut.length)])) (ot 15 (.ptr 1015 0 []))))
          (oc (OpJ.storeB (bt := 30) (c := (.st [(i6 r5.fPort), (i6 r5.fSeconds), (.sref 100300 1 0 r5.fIn.length), (.sref 100301 1 0 r5.fOut.length)])) (v := (.sref 1073 1 0 ((r5.fOut ++ ([(1 : Int)] : List Int)).length))) (c' := (.st [(i6 r5.fPort), (i6 r5.fSeconds), (.sref 100300 1 0 r5.fIn.length), (.sref 1073 1 0 ((r5.fOut ++ ([(1 : Int)] : List Int)).length))])) tyS22 (SetAt.st1 (f := (.sref 100301 1 0 r5.fOut.length)) (by rfl) (by rfl) (SetAt.here _ _) (by rfl) (by rfl) (by first | rfl | omega)) (by rfl) (by rfl) (by simp) rfl (ot 74 (.ptr 1015 3 [3])) (ot 73 (.sref 1073 1 0 ((r5.fOut ++ ([(1 : Int)] : List Int)).length))))
          (OpJs.nil))))))) (by rfl) (by rfl) ?_
        exact hjj18 _ h _ _ (Mat.trans (mp [] [(1, (.d (.list 1 (a1.map (eI .i64))))), (2, (i6 a2)), (3, (i6 a3)), (4, (i6 a4)), (6, (.ptr 1006 0 [])), (14, (.ptr 1014 0 [])), (15, (.ptr 1015 0 []))] [(1006, some (.box 30 (.d (e_api_Series a0)))), (1014, some (.box 30 (.d (e_api_Series r4.1)))), (1015, some (.box 30 (.st [(i6 r5.fPort), (i6 r5.fSeconds), (.sref 100300 1 0 r5.fIn.length), (.sref 1073 1 0 ((r5.fOut ++ ([(1 : Int)] : List Int)).length))]))), (1073, some (.row 3 1 ((r5.fOut ++ ([(1 : Int)] : List Int)).map (eI .i64)))), (100300, some (.row 3 1 (r5.fIn.map (eI .i64))))] hB) (mp [(13153, 1073)] ((fun m17 : Int × (List Int) × (List Int) => ([(1, (.d (.list 1 (a1.map (eI .i64))))), (2, (i6 a2)), (3, (i6 a3)), (4, (i6 a4)), (6, (.ptr 1006 0 [])), (14, (.ptr 1014 0 [])), (15, (.ptr 1015 0 []))] : EL)) (r5.fSeconds, (r5.fOut ++ ([(1 : Int)] : List Int)), r5.fIn)) ((fun m17 : Int × (List Int) × (List Int) => ([(1006, some (.box 30 (.d (e_api_Series a0)))), (1014, some (.box 30 (.d (e_api_Series r4.1)))), (1015, some (.box 30 (.st [(i6 r5.fPort), (i6 m17.1), (.sref 100300 1 0 m17.2.2.length), (.sref 13153 1 0 m17.2.1.length)]))), (13153, some (.row 3 1 (m17.2.1.map (eI .i64)))), (100300, some (.row 3 1 (m17.2.2.map (eI .i64))))] : OL)) (r5.fSeconds, (r5.fOut ++ ([(1 : Int)] : List Int)), r5.fIn)) hB))
      · replace h := ite_f hg211 h
        refine AWp.seq ?_
        refine AWp.region (oc (OpJ.eqlI (ltN hN rfl) (ot 67 (i6 r6)) (Opd.int .i64 (1)))
          (oc (OpJ.assign (ltN hN rfl) (ot 76 (bo (r6 == (1 : Int)))))
          (OpJs.nil))) (by rfl) (by rfl) ?_
        refine seqQ_n ?_
        refine AWp.ghost (mp [] [(1, (.d (.list 1 (a1.map (eI .i64))))), (2, (i6 a2)), (3, (i6 a3)), (4, (i6 a4)), (6, (.ptr 1006 0 [])), (14, (.ptr 1014 0 [])), (15, (.ptr 1015 0 [])), (67, (i6 r6)), (75, (bo (r6 == (1 : Int))))] [(1006, some (.box 30 (.d (e_api_Series a0)))), (1014, some (.box 30 (.d (e_api_Series r4.1)))), (1015, some (.box 30 (.st [(i6 r5.fPort), (i6 r5.fSeconds), (.sref 100300 1 0 r5.fIn.length), (.sref 100301 1 0 r5.fOut.length)]))), (100300, some (.row 3 1 (r5.fIn.map (eI .i64)))), (100301, some (.row 3 1 (r5.fOut.map (eI .i64))))] hB) ?_
        refine AWp.cond (b := (r6 == (1 : Int))) (by rfl) (fun hg213 => ?_) (fun hg213 => ?_)
        · replace h := ite_t hg213 h
          refine AWp.seq ?_
          refine AWp.region (oc (ov (.ptr 1015 2 [2]) (fp hN Try.underlying30 2 tyS22 (.box 30 (.st [(i6 r5.fPort), (i6 r5.fSeconds), (.sref 100300 1 0 r5.fIn.length), (.sref 100301 1 0 r5.fOut.length)])) (ot 15 (.ptr 1015 0 []))))
            (oc (lb hN 30 (.st [(i6 r5.fPort), (i6 r5.fSeconds), (.sref 100300 1 0 r5.fIn.length), (.sref 100301 1 0 r5.fOut.length)]) (.sref 100300 1 0 r5.fIn.length) tyS22 (At.st1 (f := (.sref 100300 1 0 r5.fIn.length)) (by rfl) (by rfl) (At.here _) (by first | rfl | omega)) (ot 77 (.ptr 1015 2 [2])))
            (oc (OpJ.lenS (obj := (.row 3 1 (r5.fIn.map (eI .i64)))) Try.underlying22 (ltN hN rfl) (ot 78 (.sref 100300 1 0 r5.fIn.length)))
            (oc (OpJ.gtr (ltN hN rfl) (ot 79 (i6 (r5.fIn.length : Int))) (Opd.int .i64 (0)))
            (OpJs.nil))))) (by rfl) (by rfl) ?_
          refine seqQ_n ?_
          refine AWp.ghost (mp [] [(1, (.d (.list 1 (a1.map (eI .i64))))), (2, (i6 a2)), (3, (i6 a3)), (4, (i6 a4)), (6, (.ptr 1006 0 [])), (14, (.ptr 1014 0 [])), (15, (.ptr 1015 0 [])), (80, (bo (decide ((0 : Int) < (r5.fIn.length : Int)))))] [(1006, some (.box 30 (.d (e_api_Series a0)))), (1014, some (.box 30 (.d (e_api_Series r4.1)))), (1015, some (.box 30 (.st [(i6 r5.fPort), (i6 r5.fSeconds), (.sref 100300 1 0 r5.fIn.length), (.sref 100301 1 0 r5.fOut.length)]))), (100300, some (.row 3 1 (r5.fIn.map (eI .i64)))), (100301, some (.row 3 1 (r5.fOut.map (eI .i64))))] hB) ?_
          refine AWp.cond (b := (decide ((0 : Int) < (r5.fIn.length : Int)))) (by rfl) (fun hg214 => ?_) (fun hg214 => ?_)
          · replace h := ite_t hg214 h
            obtain ⟨r215, hr215, h⟩ := bindS h
            obtain ⟨r216, hr216, h⟩ := bindS h
            obtain ⟨x217, hx217, h⟩ := bindS h
            obtain ⟨x218, hx218, h⟩ := bindS h
            refine AWp.draws (by kernel_rfl) (oc (ov (.ptr 1015 2 [2]) (fp hN Try.underlying30 2 tyS22 (.box 30 (.st [(i6 r5.fPort), (i6 r5.fSeconds), (.sref 100300 1 0 r5.fIn.length), (.sref 100301 1 0 r5.fOut.length)])) (ot 15 (.ptr 1015 0 []))))
              (oc (lb hN 30 (.st [(i6 r5.fPort), (i6 r5.fSeconds), (.sref 100300 1 0 r5.fIn.length), (.sref 100301 1 0 r5.fOut.length)]) (.sref 100300 1 0 r5.fIn.length) tyS22 (At.st1 (f := (.sref 100300 1 0 r5.fIn.length)) (by rfl) (by rfl) (At.here _) (by first | rfl | omega)) (ot 81 (.ptr 1015 2 [2])))
              (oc (mv hN (ot 2 (i6 a2)))
              (oc (ov (.ptr 1015 2 [2]) (fp hN Try.underlying30 2 tyS22 (.box 30 (.st [(i6 r5.fPort), (i6 r5.fSeconds), (.sref 100300 1 0 r5.fIn.length), (.sref 100301 1 0 r5.fOut.length)])) (ot 15 (.ptr 1015 0 []))))
              (oc (lb hN 30 (.st [(i6 r5.fPort), (i6 r5.fSeconds), (.sref 100300 1 0 r5.fIn.length), (.sref 100301 1 0 r5.fOut.length)]) (.sref 100300 1 0 r5.fIn.length) tyS22 (At.st1 (f := (.sref 100300 1 0 r5.fIn.length)) (by rfl) (by rfl) (At.here _) (by first | rfl | omega)) (ot 84 (.ptr 1015 2 [2])))
              (oc (OpJ.lenS (obj := (.row 3 1 (r5.fIn.map (eI .i64)))) Try.underlying22 (ltN hN rfl) (ot 85 (.sref 100300 1 0 r5.fIn.length)))
              (oc (OpJ.callFn hB fnOk10 (exchangepointmill_Mod_ac a2 (r5.fIn.length : Int) r215 hr215) [] (by kernel_rfl) (ltN hN rfl) (by kernel_rfl) (OpdL.cons (ot 83 (i6 a2)) (OpdL.cons (ot 86 (i6 (r5.fIn.length : Int))) OpdL.nil)))
              (oc (mv hN (ot 3 (i6 a3)))
              (oc (OpJ.callFn hB fnOk10 (exchangepointmill_Mod_ac a3 (3 : Int) r216 hr216) [] (by kernel_rfl) (ltN hN rfl) (by kernel_rfl) (OpdL.cons (ot 88 (i6 a3)) (OpdL.cons (Opd.int .i64 (3)) OpdL.nil)))
              (oc (OpJ.sub (ltN hN rfl) (ot 89 (i6 r216)) (Opd.int .i64 (2)))
              (oc (OpJ.val (v' := (.ptr 100300 (r215.toNat * 1) [r215.toNat])) (by simp) (OpJ.indexS Try.underlying22 tyS3 (obj := (.row 3 1 (r5.fIn.map (eI .i64)))) (idx_some hx217).1 (by have := idx_lt hx217; first | (simpa using this) | ((try simp only [List.length_map] at this); (try simp only [List.length_map]); omega)) (ltN hN rfl) (ot 82 (.sref 100300 1 0 r5.fIn.length)) (ot 87 (i6 r215))))
              (oc (OpJ.storeR (e := 3) (sz := 1) (es := r5.fIn.map (eI .i64)) (es' := (r5.fIn.set r215.toNat (w64 (r216 - (2 : Int)))).map (eI .i64)) tyS3 (get_map (eI .i64) (idx_some hx218).2) (o := 0) (v := (.int .i64 (w64 (r216 - (2 : Int))))) (el' := (.int .i64 (w64 (r216 - (2 : Int))))) (SetAt.here _ _) (by rfl) (map_set _ _ _ _) (by rfl) (by rfl) (ot 91 (.ptr 100300 (r215.toNat * 1) [r215.toNat])) (ot 90 (i6 (w64 (r216 - (2 : Int))))))
              (OpJs.nil))))))))))))) (by kernel_rfl) (by rfl) (by rfl) ?_
            exact hjj18 _ h _ _ (Mat.trans (mp [] [(1, (.d (.list 1 (a1.map (eI .i64))))), (2, (i6 a2)), (3, (i6 a3)), (4, (i6 a4)), (6, (.ptr 1006 0 [])), (14, (.ptr 1014 0 [])), (15, (.ptr 1015 0 []))] [(1006, some (.box 30 (.d (e_api_Series a0)))), (1014, some (.box 30 (.d (e_api_Series r4.1)))), (1015, some (.box 30 (.st [(i6 r5.fPort), (i6 r5.fSeconds), (.sref 100300 1 0 r5.fIn.length), (.sref 100301 1 0 r5.fOut.length)]))), (100300, some (.row 3 1 ((r5.fIn.set r215.toNat (w64 (r216 - (2 : Int)))).map (eI .i64)))), (100301, some (.row 3 1 (r5.fOut.map (eI .i64))))] hB) (Mat.trans (Mat.lenP (Ts := []) (Bs := [(1015, some (.box 30 (.st [(i6 r5.fPort), (i6 r5.fSeconds), (.sref 100300 1 0 ((r5.fIn.set r215.toNat (w64 (r216 - (2 : Int)))).length)), (.sref 100301 1 0 r5.fOut.length)])))]) TwT.nil (TwB.cons (x := (.st [(i6 r5.fPort), (i6 r5.fSeconds), (.sref 100300 1 0 r5.fIn.length), (.sref 100301 1 0 r5.fOut.length)])) (by rfl) (Tw.st (TwL.cons (Tw.same _) (TwL.cons (Tw.same _) (TwL.cons (Tw.leaf ⟨_, _, _, _, _, rfl, rfl, (by first | rfl | (simp; done) | (simp; omega))⟩) (TwL.cons (Tw.same _) TwL.nil))))) TwB.nil)) (mp [(13153, 100301)] ((fun m17 : Int × (List Int) × (List Int) => ([(1, (.d (.list 1 (a1.map (eI .i64))))), (2, (i6 a2)), (3, (i6 a3)), (4, (i6 a4)), (6, (.ptr 1006 0 [])), (14, (.ptr 1014 0 [])), (15, (.ptr 1015 0 []))] : EL)) (r5.fSeconds, r5.fOut, (r5.fIn.set r215.toNat (w64 (r216 - (2 : Int)))))) ((fun m17 : Int × (List Int) × (List Int) => ([(1006, some (.box 30 (.d (e_api_Series a0)))), (1014, some (.box 30 (.d (e_api_Series r4.1)))), (1015, some (.box 30 (.st [(i6 r5.fPort), (i6 m17.1), (.sref 100300 1 0 m17.2.2.length), (.sref 13153 1 0 m17.2.1.length)]))), (13153, some (.row 3 1 (m17.2.1.map (eI .i64)))), (100300, some (.row 3 1 (m17.2.2.map (eI .i64))))] : OL)) (r5.fSeconds, r5.fOut, (r5.fIn.set r215.toNat (w64 (r216 - (2 : Int)))))) hB)))
          · replace h := ite_f hg214 h
            refine AWp.skip ?_
            exact hjj18 _ h _ _ (mp [(13153, 100301)] ((fun m17 : Int × (List Int) × (List Int) => ([(1, (.d (.list 1 (a1.map (eI .i64))))), (2, (i6 a2)), (3, (i6 a3)), (4, (i6 a4)), (6, (.ptr 1006 0 [])), (14, (.ptr 1014 0 [])), (15, (.ptr 1015 0 []))] : EL)) (r5.fSeconds, r5.fOut, r5.fIn)) ((fun m17 : Int × (List Int) × (List Int) => ([(1006, some (.box 30 (.d (e_api_Series a0)))), (1014, some (.box 30 (.d (e_api_Series r4.1)))), (1015, some (.box 30 (.st [(i6 r5.fPort), (i6 m17.1), (.sref 100300 1 0 m17.2.2.length), (.sref 13153 1 0 m17.2.1.length)]))), (13153, some (.row 3 1 (m17.2.1.map (eI .i64)))), (100300, some (.row 3 1 (m17.2.2.map (eI .i64))))] : OL)) (r5.fSeconds, r5.fOut, r5.fIn)) hB)
        · replace h := ite_f hg213 h
          refine AWp.seq ?_
          refine AWp.region (oc (OpJ.eqlI (ltN hN rfl) (ot 67 (i6 r6)) (Opd.int .i64 (2)))
            (oc (OpJ.assign (ltN hN rfl) (ot 93 (bo (r6 == (2 : Int)))))
            (OpJs.nil))) (by rfl) (by rfl) ?_
          refine seqQ_n ?_
          refine AWp.ghost (mp [] [(1, (.d (.list 1 (a1.map (eI .i64))))), (2, (i6 a2)), (3, (i6 a3)), (4, (i6 a4)), (6, (.ptr 1006 0 [])), (14, (.ptr 1014 0 [])), (15, (.ptr 1015 0 [])), (92, (bo (r6 == (2 : Int))))] [(1006, some (.box 30 (.d (e_api_Series a0)))), (1014, some (.box 30 (.d (e_api_Series r4.1)))), (1015, some (.box 30 (.st [(i6 r5.fPort), (i6 r5.fSeconds), (.sref 100300 1 0 r5.fIn.length), (.sref 100301 1 0 r5.fOut.length)]))), (100300, some (.row 3 1 (r5.fIn.map (eI .i64)))), (100301, some (.row 3 1 (r5.fOut.map (eI .i64))))] hB) ?_
          refine AWp.cond (b := (r6 == (2 : Int))) (by rfl) (fun hg219 => ?_) (fun hg219 => ?_)
          · replace h := ite_t hg219 h
            obtain ⟨r220, hr220, h⟩ := bindS h
            refine AWp.region (oc (mv hN (ot 3 (i6 a3)))
              (oc (OpJ.callFn hB fnOk10 (exchangepointmill_Mod_ac a3 (3 : Int) r220 hr220) [] (by kernel_rfl) (ltN hN rfl) (by kernel_rfl) (OpdL.cons (ot 94 (i6 a3)) (OpdL.cons (Opd.int .i64 (3)) OpdL.nil)))
              (oc (ov (.ptr 1015 1 [1]) (fp hN Try.underlying30 1 tyS3 (.box 30 (.st [(i6 r5.fPort), (i6 r5.fSeconds), (.sref 100300 1 0 r5.fIn.length), (.sref 100301 1 0 r5.fOut.length)])) (ot 15 (.ptr 1015 0 []))))
              (oc (OpJ.storeB (bt := 30) (c := (.st [(i6 r5.fPort), (i6 r5.fSeconds), (.sref 100300 1 0 r5.fIn.length), (.sref 100301 1 0 r5.fOut.length)])) (v := (i6 r220)) (c' := (.st [(i6 r5.fPort), (i6 r220), (.sref 100300 1 0 r5.fIn.length), (.sref 100301 1 0 r5.fOut.length)])) tyS3 (SetAt.st1 (f := (i6 r5.fSeconds)) (by rfl) (by rfl) (SetAt.here _ _) (by rfl) (by rfl) (by first | rfl | omega)) (by rfl) (by rfl) (by simp) rfl (ot 96 (.ptr 1015 1 [1])) (ot 95 (i6 r220)))
              (OpJs.nil))))) (by rfl) (by rfl) ?_
            exact hjj18 _ h _ _ (Mat.trans (mp [] [(1, (.d (.list 1 (a1.map (eI .i64))))), (2, (i6 a2)), (3, (i6 a3)), (4, (i6 a4)), (6, (.ptr 1006 0 [])), (14, (.ptr 1014 0 [])), (15, (.ptr 1015 0 []))] [(1006, some (.box 30 (.d (e_api_Series a0)))), (1014, some (.box 30 (.d (e_api_Series r4.1)))), (1015, some (.box 30 (.st [(i6 r5.fPort), (i6 r220), (.sref 100300 1 0 r5.fIn.length), (.sref 100301 1 0 r5.fOut.length)]))), (100300, some (.row 3 1 (r5.fIn.map (eI .i64)))), (100301, some (.row 3 1 (r5.fOut.map (eI .i64))))] hB) (mp [(13153, 100301)] ((fun m17 : Int × (List Int) × (List Int) => ([(1, (.d (.list 1 (a1.map (eI .i64))))), (2, (i6 a2)), (3, (i6 a3)), (4, (i6 a4)), (6, (.ptr 1006 0 [])), (14, (.ptr 1014 0 [])), (15, (.ptr 1015 0 []))] : EL)) (r220, r5.fOut, r5.fIn)) ((fun m17 : Int × (List Int) × (List Int) => ([(1006, some (.box 30 (.d (e_api_Series a0)))), (1014, some (.box 30 (.d (e_api_Series r4.1)))), (1015, some (.box 30 (.st [(i6 r5.fPort), (i6 m17.1), (.sref 100300 1 0 m17.2.2.length), (.sref 13153 1 0 m17.2.1.length)]))), (13153, some (.row 3 1 (m17.2.1.map (eI .i64)))), (100300, some (.row 3 1 (m17.2.2.map (eI .i64))))] : OL)) (r220, r5.fOut, r5.fIn)) hB))
          · replace h := ite_f hg219 h
            refine AWp.skip ?_
            exact hjj18 _ h _ _ (mp [(13153, 100301)] ((fun m17 : Int × (List Int) × (List Int) => ([(1, (.d (.list 1 (a1.map (eI .i64))))), (2, (i6 a2)), (3, (i6 a3)), (4, (i6 a4)), (6, (.ptr 1006 0 [])), (14, (.ptr 1014 0 [])), (15, (.ptr 1015 0 []))] : EL)) (r5.fSeconds, r5.fOut, r5.fIn)) ((fun m17 : Int × (List Int) × (List Int) => ([(1006, some (.box 30 (.d (e_api_Series a0)))), (1014, some (.box 30 (.d (e_api_Series r4.1)))), (1015, some (.box 30 (.st [(i6 r5.fPort), (i6 m17.1), (.sref 100300 1 0 m17.2.2.length), (.sref 13153 1 0 m17.2.1.length)]))), (13153, some (.row 3 1 (m17.2.1.map (eI .i64)))), (100300, some (.row 3 1 (m17.2.2.map (eI .i64))))] : OL)) (r5.fSeconds, r5.fOut, r5.fIn)) hB)

noncomputable def ext26_slices_Clone_R (a0 : (List Int)) : Option (List Int) := chk (decide (a0.length ≤ LIM)) <|
  some a0
theorem ext26_slices_Clone_R_ac (a0 : (List Int)) (r : List Int) (h : ext26_slices_Clone_R a0 = some r) : AC Try.prog 26 [(.d (.list 1 (a0.map (eI .i64))))] [] (.sref 900000 1 0 r.length) [(900000, some (.row 3 1 (r.map (eI .i64))))] := by
  obtain ⟨hc, h⟩ := chk_some h
  obtain rfl := Option.some.inj h
  exact AC.cloneR cloneOk26 (by simp) (by rw [List.length_map]; exact lim_mulN hc (by decide)) (map_sz (f := (eI .i64)) (fun _ => rfl))

noncomputable def exchangepointlaw40_PercentileOrder_L0 (r2 : api_Series × exchangepointmill_Deck) (r3 : Int × Int) (s35 : Int × Int × Int × Int) : Option (((Int × Int × Int)) ⊕ (Int × Int × Int × Int)) :=
  (if (decide (s35.2.2.2 < (r2.1.fIn.length : Int))) = true then
  jn (fun m99 : Int × Int × Int =>
  some (.inr (m99.1, m99.2.1, m99.2.2, (w64 (s35.2.2.2 + (1 : Int)))))) (fun j100 =>
  (idx r2.1.fIn s35.2.2.2).bind fun x101 =>
  (if (decide (x101 < (0 : Int))) = true then
  j100 (s35.1, s35.2.1, s35.2.2.1)
  else
  (idx r2.1.fIn s35.2.2.2).bind fun x103 =>
  (percentile_Rate x103 r2.1.fSeconds).bind fun r104 =>
  jn (fun m106 : Int =>
  (idx r2.1.fOut s35.2.2.2).bind fun x108 =>
  (percentile_Rate x108 r2.1.fSeconds).bind fun r109 =>
  (if (decide (r3.1 < r109.1)) = true then
  j100 (m106, (w64 (s35.2.1 + (1 : Int))), (w64 (s35.2.2.1 + (1 : Int))))
  else
  j100 (m106, s35.2.1, (w64 (s35.2.2.1 + (1 : Int)))))) (fun j107 =>
  (if (decide (r3.1 < r104.1)) = true then
  j107 (w64 (s35.1 + (1 : Int)))
  else
  j107 s35.1))))
  else
  some (.inl (s35.1, s35.2.1, s35.2.2.1)))
noncomputable def exchangepointlaw40_PercentileOrder (a0 : (List Int)) (a1 : Int) (a2 : Int) (a3 : Int) : Option (Bool) :=
  (exchangepointmill_New a0).bind fun r1 =>
  (exchangepointmill_Deck_Series r1 (7 : Int)).bind fun r2 =>
  (percentile_Used r2.1 (95 : Int)).bind fun r3 =>
  (if (r3.2 != (0 : Int)) = true then
  jn (fun m7 : Bool =>
  some m7) (fun j8 =>
  (if (r3.2 == (39 : Int)) = true then
  (exchangepointlaw40_awake).bind fun r10 =>
  j8 r10
  else
  j8 false))
  else
  (exchangepointmill_Mod a1 (r2.1.fIn.length : Int)).bind fun r11 =>
  (exchangepointref40_Copy r2.1).bind fun r12 =>
  chk ((decide (0 ≤ r11) && decide (r11.toNat ≤ r2.1.fIn.length) && decide (r2.1.fIn.length ≤ r2.1.fIn.length))) <|
  (ext26_slices_Clone_R ((r2.1.fIn.take r2.1.fIn.length).drop r11.toNat)).bind fun r14 =>
  chk ((decide (0 ≤ r11) && decide (0 ≤ r11.toNat) && decide (r11.toNat ≤ r2.1.fIn.length))) <|
  chk (decide ((r14 ++ ((r2.1.fIn.take r11.toNat).drop 0)).length ≤ LIM)) <|
  chk ((decide (0 ≤ r11) && decide (r11.toNat ≤ r2.1.fOut.length) && decide (r2.1.fOut.length ≤ r2.1.fOut.length))) <|
  (ext26_slices_Clone_R ((r2.1.fOut.take r2.1.fOut.length).drop r11.toNat)).bind fun r18 =>
  chk ((decide (0 ≤ r11) && decide (0 ≤ r11.toNat) && decide (r11.toNat ≤ r2.1.fOut.length))) <|
  chk (decide ((r18 ++ ((r2.1.fOut.take r11.toNat).drop 0)).length ≤ LIM)) <|
  (percentile_Used (api_Series.mk r12.fPort r12.fSeconds (r14 ++ ((r2.1.fIn.take r11.toNat).drop 0)) (r18 ++ ((r2.1.fOut.take r11.toNat).drop 0))) (95 : Int)).bind fun r21 =>
  (exchangepointmill_Mod a2 (r2.1.fIn.length : Int)).bind fun r22 =>
  (exchangepointref40_Copy_2 r2.1).bind fun r23 =>
  (idx r23.fIn r22).bind fun x24 =>
  (idx r23.fIn r22).bind fun x25 =>
  jn (fun m32 : (List Int) =>
  (percentile_Used (api_Series.mk r23.fPort r23.fSeconds m32 r23.fOut) (95 : Int)).bind fun r34 =>
  (loop (exchangepointlaw40_PercentileOrder_L0 r2 r3) ((0 : Int), (0 : Int), (0 : Int), (0 : Int))).bind fun p86 =>
  jn (fun m116 : Bool =>
  some m116) (fun j117 =>
  (if ((((((r21.2 == (0 : Int)) && (r34.2 == (0 : Int))) && (r21.1 == r3.1)) && (decide (r3.1 ≤ r34.1))) && (decide ((w64 (p86.1 * (100 : Int))) ≤ (w64 ((5 : Int) * p86.2.2))))) && (decide ((w64 (p86.2.1 * (100 : Int))) ≤ (w64 ((5 : Int) * p86.2.2))))) = true then
  (exchangepointlaw40_awake).bind fun r119 =>
  j117 r119
  else
  j117 false))) (fun j33 =>
  (if (decide ((0 : Int) ≤ x25)) = true then
  (idx r23.fIn r22).bind fun x121 =>
  (idx r23.fIn r22).bind fun x122 =>
  (exchangepointmill_Mod a3 (1099511627776 : Int)).bind fun r123 =>
  (idx r23.fIn r22).bind fun x124 =>
  (idx r23.fIn r22).bind fun x125 =>
  j33 (r23.fIn.set r22.toNat (minI (1125899906842624 : Int) (w64 (x122 + r123))))
  else
  j33 r23.fIn)))
set_option maxHeartbeats 4000000 in
set_option maxRecDepth 100000 in
theorem exchangepointlaw40_PercentileOrder_ac (a0 : (List Int)) (a1 : Int) (a2 : Int) (a3 : Int) (r : Bool) (h : exchangepointlaw40_PercentileOrder a0 a1 a2 a3 = some r) : AC Try.prog 6 [(.d (.list 1 (a0.map (eI .i64)))), (.d (.int .i64 a1)), (.d (.int .i64 a2)), (.d (.int .i64 a3))] [] (.d (.bool r)) [] := by
  refine AC.of_code2 Try.func6 rfl rfl (Nat.le_of_ble_eq_true (by rfl)) fun B hB hN => ?_
  delta exchangepointlaw40_PercentileOrder at h
  refine AWp.seq ?_
  refine AWp.region (oc (OpJ.assign (ltN hN rfl) (Opd.bool false))
  (OpJs.nil)) (by rfl) (by rfl) ?_
  refine seqQ_n ?_
  refine AWp.ghost (mp [] [(0, (.d (.list 1 (a0.map (eI .i64))))), (1, (i6 a1)), (2, (i6 a2)), (3, (i6 a3))] [] hB) ?_
  refine AWp.seq ?_
  obtain ⟨r1, hr1, h⟩ := bindS h
  obtain ⟨r2, hr2, h⟩ := bindS h
  refine AWp.region (oc (mv hN (ot 0 (.d (.list 1 (a0.map (eI .i64))))))
  (oc (OpJ.callFn hB fnOk11 (exchangepointmill_New_ac a0 r1 hr1) [(1005, 100000)] (by kernel_rfl) (ltN hN rfl) (by kernel_rfl) (OpdL.cons (ot 28 (.d (.list 1 (a0.map (eI .i64))))) OpdL.nil))
  (oc (OpJ.callFn hB fnOk12 (exchangepointmill_Deck_Series_ac r1 (7 : Int) r2 hr2) [(0, 100000)] (by kernel_rfl) (ltN hN rfl) (by kernel_rfl) (OpdL.cons (ot 29 (.ptr 100000 0 [])) (OpdL.cons (Opd.int .i64 (7)) OpdL.nil)))
  (oc (OpJ.alloc hB tyZ30 (nm := 1009) (by decide) (ltN hN rfl))
  (oc (OpJ.storeB (bt := 30) (c := (.st [(i6 (0 : Int)), (i6 (0 : Int)), .nils, .nils])) (v := (.d (e_api_Series r2.1))) (c' := (.d (e_api_Series r2.1))) tyS30 (SetAt.here _ _) (by rfl) (by rfl) (by simp) rfl (ot 9 (.ptr 1009 0 [])) (ot 30 (.d (e_api_Series r2.1))))
  (OpJs.nil)))))) (by rfl) (by rfl) ?_
  refine seqQ_n ?_
  refine AWp.ghost (mp [] [(1, (i6 a1)), (2, (i6 a2)), (3, (i6 a3)), (9, (.ptr 1009 0 []))] [(1009, some (.box 30 (.d (e_api_Series r2.1))))] hB) ?_
  refine AWp.seq ?_
  obtain ⟨r3, hr3, h⟩ := bindS h
  refine AWp.region (oc (lb hN 30 (.d (e_api_Series r2.1)) (.d (e_api_Series r2.1)) tyS30 (At.here _) (ot 9 (.ptr 1009 0 [])))
  (oc (OpJ.callFn hB fnOk18 (percentile_Used_ac r2.1 (95 : Int) r3 hr3) [] (by kernel_rfl) (ltN hN rfl) (by kernel_rfl) (OpdL.cons (ot 32 (.d (e_api_Series r2.1))) (OpdL.cons (Opd.int .i64 (95)) OpdL.nil)))
  (oc (mv hN (ot 33 (.tup [(i6 r3.1), (i6 r3.2)])))
  (oc (OpJ.extract (v := (i6 r3.1)) (by rfl) rfl (ltN hN rfl) (ot 31 (.tup [(i6 r3.1), (i6 r3.2)])))
  (oc (OpJ.extract (v := (i6 r3.2)) (by rfl) rfl (ltN hN rfl) (ot 31 (.tup [(i6 r3.1), (i6 r3.2)])))
  (oc (OpJ.assign (ltN hN rfl) (ot 34 (i6 r3.1)))
  (oc (OpJ.assign (ltN hN rfl) (ot 35 (i6 r3.2)))
  (OpJs.nil)))))))) (by rfl) (by rfl) ?_
  refine seqQ_n ?_
  refine AWp.ghost (mp [] [(1, (i6 a1)), (2, (i6 a2)), (3, (i6 a3)), (9, (.ptr 1009 0 [])), (10, (i6 r3.1)), (11, (i6 r3.2))] [(1009, some (.box 30 (.d (e_api_Series r2.1))))] hB) ?_
  refine AWp.seq ?_
  refine AWp.seq ?_
  refine AWp.region (oc (mv hN (ot 11 (i6 r3.2)))
  (oc (OpJ.neqI (ltN hN rfl) (ot 36 (i6 r3.2)) (Opd.int .i64 (0)))
  (OpJs.nil))) (by rfl) (by rfl) ?_
  refine seqQ_n ?_
  refine AWp.ghost (mp [] [(1, (i6 a1)), (2, (i6 a2)), (3, (i6 a3)), (9, (.ptr 1009 0 [])), (10, (i6 r3.1)), (11, (i6 r3.2)), (37, (bo (r3.2 != (0 : Int))))] [(1009, some (.box 30 (.d (e_api_Series r2.1))))] hB) ?_
  refine AWp.cond (b := (r3.2 != (0 : Int))) (by rfl) (fun hg4 => ?_) (fun hg4 => ?_)
  · replace h := ite_t hg4 h
    refine AWp.seq ?_
    refine AWp.cut h (fun m7 : Bool => ([(8, (bo m7))] : EL)) (fun m7 : Bool => ([] : OL)) (fun m7 h E' O' hmat => ?_) (fun j8 hjj8 h => ?_)
    · refine seqQ_n ?_
      refine AWp.ghost hmat ?_
      refine AWp.ret ?_
      refine seqQ_r ?_
      obtain rfl := Option.some.inj h
      exact ⟨.inl rfl, _, _, (mp [] [(8, (bo m7))] [] hB), [(bo m7)], (Res.tmp (by rfl) (by rfl) Res.nil), rfl, by rfl, by rfl, by rfl⟩
    · rcases Bool.eq_false_or_eq_true (r3.2 == (39 : Int)) with hg9 | hg9
      · replace h := ite_t hg9 h
        obtain ⟨r10, hr10, h⟩ := bindS h
        refine AWp.region (oc (mv hN (ot 11 (i6 r3.2)))
          (oc (OpJ.eqlI (ltN hN rfl) (ot 38 (i6 r3.2)) (Opd.int .i64 (39)))
          (oc (OpJ.val (v' := .d (.bool true)) (by rw [hg9]) (mv hN (ot 39 (bo (r3.2 == (39 : Int))))))
          (oc (OpJ.guarded (by rfl) (OpJ.callFn hB fnOk9 (exchangepointlaw40_awake_ac  r10 hr10) [] (by kernel_rfl) (ltN hN rfl) (by kernel_rfl) OpdL.nil))
          (oc (OpJ.pickT (ltN hN rfl) (ot 40 (bo true)) (ot 41 (bo r10)))
          (oc (OpJ.assign (ltN hN rfl) (ot 42 (bo r10)))
          (OpJs.nil))))))) (by rfl) (by rfl) ?_
        exact hjj8 _ h _ _ (Mat.trans (mp [] [(8, (bo r10))] [] hB) (mp [] ((fun m7 : Bool => ([(8, (bo m7))] : EL)) r10) ((fun m7 : Bool => ([] : OL)) r10) hB))
      · replace h := ite_f hg9 h
        refine AWp.region (oc (mv hN (ot 11 (i6 r3.2)))
          (oc (OpJ.eqlI (ltN hN rfl) (ot 38 (i6 r3.2)) (Opd.int .i64 (39)))
          (oc (OpJ.val (v' := .d (.bool false)) (by rw [hg9]) (mv hN (ot 39 (bo (r3.2 == (39 : Int))))))
          (oc (OpJ.skipU (ltN hN rfl) (by rfl))
          (oc (OpJ.pickF (ltN hN rfl) (ot 40 (bo false)) (Opd.bool false))
          (oc (OpJ.assign (ltN hN rfl) (ot 42 (bo false)))
          (OpJs.nil))))))) (by rfl) (by rfl) ?_
        exact hjj8 _ h _ _ (Mat.trans (mp [] [(8, (bo false))] [] hB) (mp [] ((fun m7 : Bool => ([(8, (bo m7))] : EL)) false) ((fun m7 : Bool => ([] : OL)) false) hB))
  · replace h := ite_f hg4 h
    refine AWp.skip ?_
    refine seqQ_n ?_
    refine AWp.seq ?_
    obtain ⟨r11, hr11, h⟩ := bindS h
    refine AWp.region (oc (mv hN (ot 1 (i6 a1)))
      (oc (ov (.ptr 1009 2 [2]) (fp hN Try.underlying30 2 tyS22 (.box 30 (.d (e_api_Series r2.1))) (ot 9 (.ptr 1009 0 []))))
      (oc (lb hN 30 (.d (e_api_Series r2.1)) (.d (.list 1 (r2.1.fIn.map (eI .i64)))) tyS22 (ad (.list 1 (r2.1.fIn.map (eI .i64)))) (ot 44 (.ptr 1009 2 [2])))
      (oc (OpJ.val (v' := (i6 (r2.1.fIn.length : Int))) (by simp) (OpJ.lenD Try.underlying22 (ltN hN rfl) (ot 45 (.d (.list 1 (r2.1.fIn.map (eI .i64)))))))
      (oc (OpJ.callFn hB fnOk10 (exchangepointmill_Mod_ac a1 (r2.1.fIn.length : Int) r11 hr11) [] (by kernel_rfl) (ltN hN rfl) (by kernel_rfl) (OpdL.cons (ot 43 (i6 a1)) (OpdL.cons (ot 46 (i6 (r2.1.fIn.length : Int))) OpdL.nil)))
      (oc (OpJ.assign (ltN hN rfl) (ot 47 (i6 r11)))
      (OpJs.nil))))))) (by rfl) (by rfl) ?_
    refine seqQ_n ?_
    refine AWp.ghost (mp [] [(2, (i6 a2)), (3, (i6 a3)), (9, (.ptr 1009 0 [])), (10, (i6 r3.1)), (12, (i6 r11))] [(1009, some (.box 30 (.d (e_api_Series r2.1))))] hB) ?_
    refine AWp.seq ?_
    obtain ⟨r12, hr12, h⟩ := bindS h
    refine AWp.region (oc (lb hN 30 (.d (e_api_Series r2.1)) (.d (e_api_Series r2.1)) tyS30 (At.here _) (ot 9 (.ptr 1009 0 [])))
      (oc (OpJ.callFn hB fnOk13 (exchangepointref40_Copy_ac r2.1 r12 hr12) [] (by kernel_rfl) (ltN hN rfl) (by kernel_rfl) (OpdL.cons (ot 48 (.d (e_api_Series r2.1))) OpdL.nil))
      (oc (OpJ.alloc hB tyZ30 (nm := 1013) (by decide) (ltN hN rfl))
      (oc (OpJ.storeB (bt := 30) (c := (.st [(i6 (0 : Int)), (i6 (0 : Int)), .nils, .nils])) (v := (.d (e_api_Series r12))) (c' := (.d (e_api_Series r12))) tyS30 (SetAt.here _ _) (by rfl) (by rfl) (by simp) rfl (ot 13 (.ptr 1013 0 [])) (ot 49 (.d (e_api_Series r12))))
      (OpJs.nil))))) (by rfl) (by rfl) ?_
    refine seqQ_n ?_
    refine AWp.ghost (mp [] [(2, (i6 a2)), (3, (i6 a3)), (9, (.ptr 1009 0 [])), (10, (i6 r3.1)), (12, (i6 r11)), (13, (.ptr 1013 0 []))] [(1009, some (.box 30 (.d (e_api_Series r2.1)))), (1013, some (.box 30 (.d (e_api_Series r12))))] hB) ?_
    refine AWp.seq ?_
    obtain ⟨hc13, h⟩ := chk_some h
    obtain ⟨r14, hr14, h⟩ := bindS h
    obtain ⟨hc15, h⟩ := chk_some h
    obtain ⟨hc16, h⟩ := chk_some h
    refine AWp.draws (by kernel_rfl) (oc (ov (.ptr 1009 2 [2]) (fp hN Try.underlying30 2 tyS22 (.box 30 (.d (e_api_Series r2.1))) (ot 9 (.ptr 1009 0 []))))
      (oc (lb hN 30 (.d (e_api_Series r2.1)) (.d (.list 1 (r2.1.fIn.map (eI .i64)))) tyS22 (ad (.list 1 (r2.1.fIn.map (eI .i64)))) (ot 50 (.ptr 1009 2 [2])))
      (oc (mv hN (ot 12 (i6 r11)))
      (oc (OpJ.cutD Try.underlying22 tyS3 (es := r2.1.fIn.map (eI .i64)) (es' := ((r2.1.fIn.take r2.1.fIn.length).drop r11.toNat).map (eI .i64)) (l := r11.toNat) (h := r2.1.fIn.length) (.inr ⟨_, _, _, rfl, (ot 52 (i6 r11)), (of_decide_eq_true (and_l2 (and_l2 hc13))), rfl⟩) (.inl ⟨rfl, by simp, rfl⟩) (of_decide_eq_true (and_r2 (and_l2 hc13))) (by first | (simp; done) | simpa using (of_decide_eq_true (and_r2 hc13))) (by first | rw [List.map_drop, List.map_take] | simp [List.map_take, List.map_drop]) (ltN hN rfl) (ot 51 (.d (.list 1 (r2.1.fIn.map (eI .i64))))))
      (oc (OpJ.callFn hB fnOk26 (ext26_slices_Clone_R_ac ((r2.1.fIn.take r2.1.fIn.length).drop r11.toNat) r14 hr14) [(900000, 100600)] (by kernel_rfl) (ltN hN rfl) (by kernel_rfl) (OpdL.cons (ot 53 (.d (.list 1 (((r2.1.fIn.take r2.1.fIn.length).drop r11.toNat).map (eI .i64))))) OpdL.nil))
      (oc (ov (.ptr 1009 2 [2]) (fp hN Try.underlying30 2 tyS22 (.box 30 (.d (e_api_Series r2.1))) (ot 9 (.ptr 1009 0 []))))
      (oc (lb hN 30 (.d (e_api_Series r2.1)) (.d (.list 1 (r2.1.fIn.map (eI .i64)))) tyS22 (ad (.list 1 (r2.1.fIn.map (eI .i64)))) (ot 55 (.ptr 1009 2 [2])))
      (oc (mv hN (ot 12 (i6 r11)))
      (oc (OpJ.cutD Try.underlying22 tyS3 (es := r2.1.fIn.map (eI .i64)) (es' := ((r2.1.fIn.take r11.toNat).drop 0).map (eI .i64)) (l := 0) (h := r11.toNat) (.inl ⟨rfl, rfl, rfl⟩) (.inr ⟨_, _, _, rfl, (ot 57 (i6 r11)), (of_decide_eq_true (and_l2 (and_l2 hc15))), rfl⟩) (of_decide_eq_true (and_r2 (and_l2 hc15))) (by first | (simp; done) | simpa using (of_decide_eq_true (and_r2 hc15))) (by first | rw [List.map_drop, List.map_take] | simp [List.map_take, List.map_drop]) (ltN hN rfl) (ot 56 (.d (.list 1 (r2.1.fIn.map (eI .i64))))))
      (oc (OpJ.append hB Try.underlying22 tyE3 (nm := 1059) (by decide) (es := r14.map (eI .i64)) (ys := ((r2.1.fIn.take r11.toNat).drop 0).map (eI .i64)) (es' := (r14 ++ ((r2.1.fIn.take r11.toNat).drop 0)).map (eI .i64)) (len := (r14 ++ ((r2.1.fIn.take r11.toNat).drop 0)).length) (by simp) (by simp) (map_sz (f := (eI .i64)) (fun _ => rfl)) (by rw [List.length_map]; exact lim_mulN hc16 (by decide)) (by rw [List.length_map]; exact lim_leN hc16) (ltN hN rfl) (by simp) (ot 54 (.sref 100600 1 0 r14.length)) (ot 58 (.d (.list 1 (((r2.1.fIn.take r11.toNat).drop 0).map (eI .i64))))))
      (oc (ov (.ptr 1013 2 [2]) (fp hN Try.underlying30 2 tyS22 (.box 30 (.d (e_api_Series r12))) (ot 13 (.ptr 1013 0 []))))
      (oc (OpJ.storeB (bt := 30) (c := (.d (e_api_Series r12))) (v := (.sref 1059 1 0 ((r14 ++ ((r2.1.fIn.take r11.toNat).drop 0)).length))) (c' := (.st [(i6 r12.fPort), (i6 r12.fSeconds), (.sref 1059 1 0 ((r14 ++ ((r2.1.fIn.take r11.toNat).drop 0)).length)), (.d (.list 1 (r12.fOut.map (eI .i64))))])) tyS22 (SetAt.lift (fs := [(.int .i64 r12.fPort), (.int .i64 r12.fSeconds), (.list 1 (r12.fIn.map (eI .i64))), (.list 1 (r12.fOut.map (eI .i64)))]) (SetAt.st1 (by rfl) (by rfl) (SetAt.here _ _) (by rfl) (by rfl) (by first | rfl | omega))) (by rfl) (by rfl) (by simp) rfl (ot 60 (.ptr 1013 2 [2])) (ot 59 (.sref 1059 1 0 ((r14 ++ ((r2.1.fIn.take r11.toNat).drop 0)).length))))
      (OpJs.nil))))))))))))) (by kernel_rfl) (by rfl) (by rfl) ?_
    refine seqQ_n ?_
    refine AWp.ghost (mp [] [(2, (i6 a2)), (3, (i6 a3)), (9, (.ptr 1009 0 [])), (10, (i6 r3.1)), (12, (i6 r11)), (13, (.ptr 1013 0 []))] [(1009, some (.box 30 (.d (e_api_Series r2.1)))), (1013, some (.box 30 (.st [(i6 r12.fPort), (i6 r12.fSeconds), (.sref 1059 1 0 ((r14 ++ ((r2.1.fIn.take r11.toNat).drop 0)).length)), (.d (.list 1 (r12.fOut.map (eI .i64))))]))), (1059, some (.row 3 1 ((r14 ++ ((r2.1.fIn.take r11.toNat).drop 0)).map (eI .i64))))] hB) ?_
    refine AWp.seq ?_
    obtain ⟨hc17, h⟩ := chk_some h
    obtain ⟨r18, hr18, h⟩ := bindS h
    obtain ⟨hc19, h⟩ := chk_some h
    obtain ⟨hc20, h⟩ := chk_some h
    refine AWp.draws (by kernel_rfl) (oc (ov (.ptr 1009 3 [3]) (fp hN Try.underlying30 3 tyS22 (.box 30 (.d (e_api_Series r2.1))) (ot 9 (.ptr 1009 0 []))))
      (oc (lb hN 30 (.d (e_api_Series r2.1)) (.d (.list 1 (r2.1.fOut.map (eI .i64)))) tyS22 (ad (.list 1 (r2.1.fOut.map (eI .i64)))) (ot 61 (.ptr 1009 3 [3])))
      (oc (mv hN (ot 12 (i6 r11)))
      (oc (OpJ.cutD Try.underlying22 tyS3 (es := r2.1.fOut.map (eI .i64)) (es' := ((r2.1.fOut.take r2.1.fOut.length).drop r11.toNat).map (eI .i64)) (l := r11.toNat) (h := r2.1.fOut.length) (.inr ⟨_, _, _, rfl, (ot 63 (i6 r11)), (of_decide_eq_true (and_l2 (and_l2 hc17))), rfl⟩) (.inl ⟨rfl, by simp, rfl⟩) (of_decide_eq_true (and_r2 (and_l2 hc17))) (by first | (simp; done) | simpa using (of_decide_eq_true (and_r2 hc17))) (by first | rw [List.map_drop, List.map_take] | simp [List.map_take, List.map_drop]) (ltN hN rfl) (ot 62 (.d (.list 1 (r2.1.fOut.map (eI .i64))))))
      (oc (OpJ.callFn hB fnOk26 (ext26_slices_Clone_R_ac ((r2.1.fOut.take r2.1.fOut.length).drop r11.toNat) r18 hr18) [(900000, 100700)] (by kernel_rfl) (ltN hN rfl) (by kernel_rfl) (OpdL.cons (ot 64 (.d (.list 1 (((r2.1.fOut.take r2.1.fOut.length).drop r11.toNat).map (eI .i64))))) OpdL.nil))
      (oc (ov (.ptr 1009 3 [3]) (fp hN Try.underlying30 3 tyS22 (.box 30 (.d (e_api_Series r2.1))) (ot 9 (.ptr 1009 0 []))))
      (oc (lb hN 30 (.d (e_api_Series r2.1)) (.d (.list 1 (r2.1.fOut.map (eI .i64)))) tyS22 (ad (.list 1 (r2.1.fOut.map (eI .i64)))) (ot 66 (.ptr 1009 3 [3])))
      (oc (mv hN (ot 12 (i6 r11)))
      (oc (OpJ.cutD Try.underlying22 tyS3 (es := r2.1.fOut.map (eI .i64)) (es' := ((r2.1.fOut.take r11.toNat).drop 0).map (eI .i64)) (l := 0) (h := r11.toNat) (.inl ⟨rfl, rfl, rfl⟩) (.inr ⟨_, _, _, rfl, (ot 68 (i6 r11)), (of_decide_eq_true (and_l2 (and_l2 hc19))), rfl⟩) (of_decide_eq_true (and_r2 (and_l2 hc19))) (by first | (simp; done) | simpa using (of_decide_eq_true (and_r2 hc19))) (by first | rw [List.map_drop, List.map_take] | simp [List.map_take, List.map_drop]) (ltN hN rfl) (ot 67 (.d (.list 1 (r2.1.fOut.map (eI .i64))))))
      (oc (OpJ.append hB Try.underlying22 tyE3 (nm := 1070) (by decide) (es := r18.map (eI .i64)) (ys := ((r2.1.fOut.take r11.toNat).drop 0).map (eI .i64)) (es' := (r18 ++ ((r2.1.fOut.take r11.toNat).drop 0)).map (eI .i64)) (len := (r18 ++ ((r2.1.fOut.take r11.toNat).drop 0)).length) (by simp) (by simp) (map_sz (f := (eI .i64)) (fun _ => rfl)) (by rw [List.length_map]; exact lim_mulN hc20 (by decide)) (by rw [List.length_map]; exact lim_leN hc20) (ltN hN rfl) (by simp) (ot 65 (.sref 100700 1 0 r18.length)) (ot 69 (.d (.list 1 (((r2.1.fOut.take r11.toNat).drop 0).map (eI .i64))))))
      (oc (ov (.ptr 1013 3 [3]) (fp hN Try.underlying30 3 tyS22 (.box 30 (.st [(i6 r12.fPort), (i6 r12.fSeconds), (.sref 1059 1 0 ((r14 ++ ((r2.1.fIn.take r11.toNat).drop 0)).length)), (.d (.list 1 (r12.fOut.map (eI .i64))))])) (ot 13 (.ptr 1013 0 []))))
      (oc (OpJ.storeB (bt := 30) (c := (.st [(i6 r12.fPort), (i6 r12.fSeconds), (.sref 1059 1 0 ((r14 ++ ((r2.1.fIn.take r11.toNat).drop 0)).length)), (.d (.list 1 (r12.fOut.map (eI .i64))))])) (v := (.sref 1070 1 0 ((r18 ++ ((r2.1.fOut.take r11.toNat).drop 0)).length))) (c' := (.st [(i6 r12.fPort), (i6 r12.fSeconds), (.sref 1059 1 0 ((r14 ++ ((r2.1.fIn.take r11.toNat).drop 0)).length)), (.sref 1070 1 0 ((r18 ++ ((r2.1.fOut.take r11.toNat).drop 0)).length))])) tyS22 (SetAt.st1 (f := (.d (.list 1 (r12.fOut.map (eI .i64))))) (by rfl) (by rfl) (SetAt.here _ _) (by rfl) (by rfl) (by first | rfl | omega)) (by rfl) (by rfl) (by simp) rfl (ot 71 (.ptr 1013 3 [3])) (ot 70 (.sref 1070 1 0 ((r18 ++ ((r2.1.fOut.take r11.toNat).drop 0)).length))))
      (OpJs.nil))))))))))))) (by kernel_rfl) (by rfl) (by rfl) ?_
    refine seqQ_n ?_
    refine AWp.ghost (mp [] [(2, (i6 a2)), (3, (i6 a3)), (9, (.ptr 1009 0 [])), (10, (i6 r3.1)), (13, (.ptr 1013 0 []))] [(1009, some (.box 30 (.d (e_api_Series r2.1)))), (1013, some (.box 30 (.st [(i6 r12.fPort), (i6 r12.fSeconds), (.sref 1059 1 0 ((r14 ++ ((r2.1.fIn.take r11.toNat).drop 0)).length)), (.sref 1070 1 0 ((r18 ++ ((r2.1.fOut.take r11.toNat).drop 0)).length))]))), (1059, some (.row 3 1 ((r14 ++ ((r2.1.fIn.take r11.toNat).drop 0)).map (eI .i64)))), (1070, some (.row 3 1 ((r18 ++ ((r2.1.fOut.take r11.toNat).drop 0)).map (eI .i64))))] hB) ?_
    refine AWp.seq ?_
    refine AWp.ghost (Mat.freezeP (n := 1059) (e := 3) (sz := 1) (es := (r14 ++ ((r2.1.fIn.take r11.toNat).drop 0)).map (eI .i64)) (Ts := []) (Bs := [(1013, some (.box 30 (.st [(i6 r12.fPort), (i6 r12.fSeconds), (.d (.list 1 ((r14 ++ ((r2.1.fIn.take r11.toNat).drop 0)).map (eI .i64)))), (.sref 1070 1 0 ((r18 ++ ((r2.1.fOut.take r11.toNat).drop 0)).length))])))]) (by rfl) TwT.nil (TwB.cons (x := (.st [(i6 r12.fPort), (i6 r12.fSeconds), (.sref 1059 1 0 ((r14 ++ ((r2.1.fIn.take r11.toNat).drop 0)).length)), (.sref 1070 1 0 ((r18 ++ ((r2.1.fOut.take r11.toNat).drop 0)).length))])) (by rfl) (Tw.st (TwL.cons (Tw.same _) (TwL.cons (Tw.same _) (TwL.cons (FrzL.all (by first | rfl | (simp; done) | (simp; omega))) (TwL.cons (Tw.same _) TwL.nil))))) TwB.nil)) ?_
    refine AWp.ghost (Mat.freezeP (n := 1070) (e := 3) (sz := 1) (es := (r18 ++ ((r2.1.fOut.take r11.toNat).drop 0)).map (eI .i64)) (Ts := []) (Bs := [(1013, some (.box 30 (.st [(i6 r12.fPort), (i6 r12.fSeconds), (.d (.list 1 ((r14 ++ ((r2.1.fIn.take r11.toNat).drop 0)).map (eI .i64)))), (.d (.list 1 ((r18 ++ ((r2.1.fOut.take r11.toNat).drop 0)).map (eI .i64))))])))]) (by rfl) TwT.nil (TwB.cons (x := (.st [(i6 r12.fPort), (i6 r12.fSeconds), (.d (.list 1 ((r14 ++ ((r2.1.fIn.take r11.toNat).drop 0)).map (eI .i64)))), (.sref 1070 1 0 ((r18 ++ ((r2.1.fOut.take r11.toNat).drop 0)).length))])) (by rfl) (Tw.st (TwL.cons (Tw.same _) (TwL.cons (Tw.same _) (TwL.cons (Tw.same _) (TwL.cons (FrzL.all (by first | rfl | (simp; done) | (simp; omega))) TwL.nil))))) TwB.nil)) ?_
    obtain ⟨r21, hr21, h⟩ := bindS h
    refine AWp.region (oc (lb hN 30 (.st [(i6 r12.fPort), (i6 r12.fSeconds), (.d (.list 1 ((r14 ++ ((r2.1.fIn.take r11.toNat).drop 0)).map (eI .i64)))), (.d (.list 1 ((r18 ++ ((r2.1.fOut.take r11.toNat).drop 0)).map (eI .i64))))]) (.st [(i6 r12.fPort), (i6 r12.fSeconds), (.d (.list 1 ((r14 ++ ((r2.1.fIn.take r11.toNat).drop 0)).map (eI .i64)))), (.d (.list 1 ((r18 ++ ((r2.1.fOut.take r11.toNat).drop 0)).map (eI .i64))))]) tyS30 (At.here _) (ot 13 (.ptr 1013 0 [])))
      (oc (OpJ.callFn hB fnOk18 (percentile_Used_ac (api_Series.mk r12.fPort r12.fSeconds (r14 ++ ((r2.1.fIn.take r11.toNat).drop 0)) (r18 ++ ((r2.1.fOut.take r11.toNat).drop 0))) (95 : Int) r21 hr21) [] (by kernel_rfl) (ltN hN rfl) (by kernel_rfl) (OpdL.cons (Opd.tw (ot 73 (.st [(i6 r12.fPort), (i6 r12.fSeconds), (.d (.list 1 ((r14 ++ ((r2.1.fIn.take r11.toNat).drop 0)).map (eI .i64)))), (.d (.list 1 ((r18 ++ ((r2.1.fOut.take r11.toNat).drop 0)).map (eI .i64))))])) (Tw.leaf ⟨_, (Co.st (CoL.cons (Co.d _) (CoL.cons (Co.d _) (CoL.cons (Co.d _) (CoL.cons (Co.d _) CoL.nil))))), rfl⟩)) (OpdL.cons (Opd.int .i64 (95)) OpdL.nil)))
      (oc (mv hN (ot 74 (.tup [(i6 r21.1), (i6 r21.2)])))
      (oc (OpJ.extract (v := (i6 r21.1)) (by rfl) rfl (ltN hN rfl) (ot 72 (.tup [(i6 r21.1), (i6 r21.2)])))
      (oc (OpJ.extract (v := (i6 r21.2)) (by rfl) rfl (ltN hN rfl) (ot 72 (.tup [(i6 r21.1), (i6 r21.2)])))
      (oc (OpJ.assign (ltN hN rfl) (ot 75 (i6 r21.1)))
      (oc (OpJ.assign (ltN hN rfl) (ot 76 (i6 r21.2)))
      (OpJs.nil)))))))) (by rfl) (by rfl) ?_
    refine seqQ_n ?_
    refine AWp.ghost (mp [] [(2, (i6 a2)), (3, (i6 a3)), (9, (.ptr 1009 0 [])), (10, (i6 r3.1)), (14, (i6 r21.1)), (15, (i6 r21.2))] [(1009, some (.box 30 (.d (e_api_Series r2.1))))] hB) ?_
    refine AWp.seq ?_
    obtain ⟨r22, hr22, h⟩ := bindS h
    refine AWp.region (oc (mv hN (ot 2 (i6 a2)))
      (oc (ov (.ptr 1009 2 [2]) (fp hN Try.underlying30 2 tyS22 (.box 30 (.d (e_api_Series r2.1))) (ot 9 (.ptr 1009 0 []))))
      (oc (lb hN 30 (.d (e_api_Series r2.1)) (.d (.list 1 (r2.1.fIn.map (eI .i64)))) tyS22 (ad (.list 1 (r2.1.fIn.map (eI .i64)))) (ot 78 (.ptr 1009 2 [2])))
      (oc (OpJ.val (v' := (i6 (r2.1.fIn.length : Int))) (by simp) (OpJ.lenD Try.underlying22 (ltN hN rfl) (ot 79 (.d (.list 1 (r2.1.fIn.map (eI .i64)))))))
      (oc (OpJ.callFn hB fnOk10 (exchangepointmill_Mod_ac a2 (r2.1.fIn.length : Int) r22 hr22) [] (by kernel_rfl) (ltN hN rfl) (by kernel_rfl) (OpdL.cons (ot 77 (i6 a2)) (OpdL.cons (ot 80 (i6 (r2.1.fIn.length : Int))) OpdL.nil)))
      (oc (OpJ.assign (ltN hN rfl) (ot 81 (i6 r22)))
      (OpJs.nil))))))) (by rfl) (by rfl) ?_
    refine seqQ_n ?_
    refine AWp.ghost (mp [] [(3, (i6 a3)), (9, (.ptr 1009 0 [])), (10, (i6 r3.1)), (14, (i6 r21.1)), (15, (i6 r21.2)), (16, (i6 r22))] [(1009, some (.box 30 (.d (e_api_Series r2.1))))] hB) ?_
    refine AWp.seq ?_
    obtain ⟨r23, hr23, h⟩ := bindS h
    refine AWp.region (oc (lb hN 30 (.d (e_api_Series r2.1)) (.d (e_api_Series r2.1)) tyS30 (At.here _) (ot 9 (.ptr 1009 0 [])))
      (oc (OpJ.callFn hB fnOk13 (exchangepointref40_Copy_2_ac r2.1 r23 hr23) [(900000, 101000)] (by kernel_rfl) (ltN hN rfl) (by kernel_rfl) (OpdL.cons (ot 82 (.d (e_api_Series r2.1))) OpdL.nil))
      (oc (OpJ.alloc hB tyZ30 (nm := 1017) (by decide) (ltN hN rfl))
      (oc (OpJ.storeB (bt := 30) (c := (.st [(i6 (0 : Int)), (i6 (0 : Int)), .nils, .nils])) (v := (.st [(i6 r23.fPort), (i6 r23.fSeconds), (.sref 101000 1 0 r23.fIn.length), (.d (.list 1 (r23.fOut.map (eI .i64))))])) (c' := (.st [(i6 r23.fPort), (i6 r23.fSeconds), (.sref 101000 1 0 r23.fIn.length), (.d (.list 1 (r23.fOut.map (eI .i64))))])) tyS30 (SetAt.here _ _) (by rfl) (by rfl) (by simp) rfl (ot 17 (.ptr 1017 0 [])) (ot 83 (.st [(i6 r23.fPort), (i6 r23.fSeconds), (.sref 101000 1 0 r23.fIn.length), (.d (.list 1 (r23.fOut.map (eI .i64))))])))
      (OpJs.nil))))) (by rfl) (by rfl) ?_
    refine seqQ_n ?_
    refine AWp.ghost (mp [] [(3, (i6 a3)), (9, (.ptr 1009 0 [])), (10, (i6 r3.1)), (14, (i6 r21.1)), (15, (i6 r21.2)), (16, (i6 r22)), (17, (.ptr 1017 0 []))] [(1009, some (.box 30 (.d (e_api_Series r2.1)))), (1017, some (.box 30 (.st [(i6 r23.fPort), (i6 r23.fSeconds), (.sref 101000 1 0 r23.fIn.length), (.d (.list 1 (r23.fOut.map (eI .i64))))]))), (101000, some (.row 3 1 (r23.fIn.map (eI .i64))))] hB) ?_
    refine AWp.seq ?_
    refine AWp.seq ?_
    obtain ⟨x24, hx24, h⟩ := bindS h
    obtain ⟨x25, hx25, h⟩ := bindS h
    refine AWp.region (oc (ov (.ptr 1017 2 [2]) (fp hN Try.underlying30 2 tyS22 (.box 30 (.st [(i6 r23.fPort), (i6 r23.fSeconds), (.sref 101000 1 0 r23.fIn.length), (.d (.list 1 (r23.fOut.map (eI .i64))))])) (ot 17 (.ptr 1017 0 []))))
      (oc (lb hN 30 (.st [(i6 r23.fPort), (i6 r23.fSeconds), (.sref 101000 1 0 r23.fIn.length), (.d (.list 1 (r23.fOut.map (eI .i64))))]) (.sref 101000 1 0 r23.fIn.length) tyS22 (At.st1 (f := (.sref 101000 1 0 r23.fIn.length)) (by rfl) (by rfl) (At.here _) (by first | rfl | omega)) (ot 84 (.ptr 1017 2 [2])))
      (oc (mv hN (ot 16 (i6 r22)))
      (oc (OpJ.val (v' := (.ptr 101000 (r22.toNat * 1) [r22.toNat])) (by simp) (OpJ.indexS Try.underlying22 tyS3 (obj := (.row 3 1 (r23.fIn.map (eI .i64)))) (idx_some hx24).1 (by have := idx_lt hx24; first | (simpa using this) | ((try simp only [List.length_map] at this); (try simp only [List.length_map]); omega)) (ltN hN rfl) (ot 85 (.sref 101000 1 0 r23.fIn.length)) (ot 86 (i6 r22))))
      (oc (OpJ.loadR (e := 3) (sz := 1) (es := r23.fIn.map (eI .i64)) tyS3 (get_map (eI .i64) (idx_some hx25).2) (o := 0) (v := (.int .i64 x25)) (At.here _) (by rfl) (by rfl) (by rfl) (ltN hN rfl) (ot 87 (.ptr 101000 (r22.toNat * 1) [r22.toNat])))
      (oc (OpJ.geq (ltN hN rfl) (ot 88 (i6 x25)) (Opd.int .i64 (0)))
      (OpJs.nil))))))) (by rfl) (by rfl) ?_
    refine seqQ_n ?_
    refine AWp.ghost (mp [] [(3, (i6 a3)), (9, (.ptr 1009 0 [])), (10, (i6 r3.1)), (14, (i6 r21.1)), (15, (i6 r21.2)), (16, (i6 r22)), (17, (.ptr 1017 0 [])), (89, (bo (decide ((0 : Int) ≤ x25))))] [(1009, some (.box 30 (.d (e_api_Series r2.1)))), (1017, some (.box 30 (.st [(i6 r23.fPort), (i6 r23.fSeconds), (.sref 101000 1 0 r23.fIn.length), (.d (.list 1 (r23.fOut.map (eI .i64))))]))), (101000, some (.row 3 1 (r23.fIn.map (eI .i64))))] hB) ?_
    refine AWp.cut h (fun m32 : (List Int) => ([(9, (.ptr 1009 0 [])), (10, (i6 r3.1)), (14, (i6 r21.1)), (15, (i6 r21.2)), (17, (.ptr 1017 0 []))] : EL)) (fun m32 : (List Int) => ([(1009, some (.box 30 (.d (e_api_Series r2.1)))), (1017, some (.box 30 (.st [(i6 r23.fPort), (i6 r23.fSeconds), (.sref 101000 1 0 m32.length), (.d (.list 1 (r23.fOut.map (eI .i64))))]))), (101000, some (.row 3 1 (m32.map (eI .i64))))] : OL)) (fun m32 h E' O' hmat => ?_) (fun j33 hjj33 h => ?_)
    · refine seqQ_n ?_
      refine AWp.ghost hmat ?_
      refine AWp.seq ?_
      refine AWp.ghost (Mat.freezeP (n := 101000) (e := 3) (sz := 1) (es := m32.map (eI .i64)) (Ts := []) (Bs := [(1017, some (.box 30 (.st [(i6 r23.fPort), (i6 r23.fSeconds), (.d (.list 1 (m32.map (eI .i64)))), (.d (.list 1 (r23.fOut.map (eI .i64))))])))]) (by rfl) TwT.nil (TwB.cons (x := (.st [(i6 r23.fPort), (i6 r23.fSeconds), (.sref 101000 1 0 m32.length), (.d (.list 1 (r23.fOut.map (eI .i64))))])) (by rfl) (Tw.st (TwL.cons (Tw.same _) (TwL.cons (Tw.same _) (TwL.cons (FrzL.all (by first | rfl | (simp; done) | (simp; omega))) (TwL.cons (Tw.same _) TwL.nil))))) TwB.nil)) ?_
      obtain ⟨r34, hr34, h⟩ := bindS h
      refine AWp.region (oc (lb hN 30 (.st [(i6 r23.fPort), (i6 r23.fSeconds), (.d (.list 1 (m32.map (eI .i64)))), (.d (.list 1 (r23.fOut.map (eI .i64))))]) (.st [(i6 r23.fPort), (i6 r23.fSeconds), (.d (.list 1 (m32.map (eI .i64)))), (.d (.list 1 (r23.fOut.map (eI .i64))))]) tyS30 (At.here _) (ot 17 (.ptr 1017 0 [])))
        (oc (OpJ.callFn hB fnOk18 (percentile_Used_ac (api_Series.mk r23.fPort r23.fSeconds m32 r23.fOut) (95 : Int) r34 hr34) [] (by kernel_rfl) (ltN hN rfl) (by kernel_rfl) (OpdL.cons (Opd.tw (ot 104 (.st [(i6 r23.fPort), (i6 r23.fSeconds), (.d (.list 1 (m32.map (eI .i64)))), (.d (.list 1 (r23.fOut.map (eI .i64))))])) (Tw.leaf ⟨_, (Co.st (CoL.cons (Co.d _) (CoL.cons (Co.d _) (CoL.cons (Co.d _) (CoL.cons (Co.d _) CoL.nil))))), rfl⟩)) (OpdL.cons (Opd.int .i64 (95)) OpdL.nil)))
        (oc (mv hN (ot 105 (.tup [(i6 r34.1), (i6 r34.2)])))
        (oc (OpJ.extract (v := (i6 r34.1)) (by rfl) rfl (ltN hN rfl) (ot 103 (.tup [(i6 r34.1), (i6 r34.2)])))
        (oc (OpJ.extract (v := (i6 r34.2)) (by rfl) rfl (ltN hN rfl) (ot 103 (.tup [(i6 r34.1), (i6 r34.2)])))
        (oc (OpJ.assign (ltN hN rfl) (ot 106 (i6 r34.1)))
        (oc (OpJ.assign (ltN hN rfl) (ot 107 (i6 r34.2)))
        (OpJs.nil)))))))) (by rfl) (by rfl) ?_
      refine seqQ_n ?_
      refine AWp.ghost (mp [] [(9, (.ptr 1009 0 [])), (10, (i6 r3.1)), (14, (i6 r21.1)), (15, (i6 r21.2)), (18, (i6 r34.1)), (19, (i6 r34.2))] [(1009, some (.box 30 (.d (e_api_Series r2.1))))] hB) ?_
      refine AWp.seq ?_
      refine AWp.region (oc (OpJ.assign (ltN hN rfl) (Opd.int .i64 (0)))
        (oc (OpJ.assign (ltN hN rfl) (Opd.int .i64 (0)))
        (oc (OpJ.assign (ltN hN rfl) (Opd.int .i64 (0)))
        (OpJs.nil)))) (by rfl) (by rfl) ?_
      refine seqQ_n ?_
      refine AWp.ghost (mp [] [(9, (.ptr 1009 0 [])), (10, (i6 r3.1)), (14, (i6 r21.1)), (15, (i6 r21.2)), (18, (i6 r34.1)), (19, (i6 r34.2)), (20, (i6 (0 : Int))), (21, (i6 (0 : Int))), (22, (i6 (0 : Int)))] [(1009, some (.box 30 (.d (e_api_Series r2.1))))] hB) ?_
      refine AWp.seq ?_
      refine AWp.seq ?_
      refine AWp.region (oc (ov (.ptr 1009 2 [2]) (fp hN Try.underlying30 2 tyS22 (.box 30 (.d (e_api_Series r2.1))) (ot 9 (.ptr 1009 0 []))))
        (oc (lb hN 30 (.d (e_api_Series r2.1)) (.d (.list 1 (r2.1.fIn.map (eI .i64)))) tyS22 (ad (.list 1 (r2.1.fIn.map (eI .i64)))) (ot 108 (.ptr 1009 2 [2])))
        (oc (OpJ.val (v' := (i6 (r2.1.fIn.length : Int))) (by simp) (OpJ.lenD Try.underlying22 (ltN hN rfl) (ot 109 (.d (.list 1 (r2.1.fIn.map (eI .i64)))))))
        (oc (mv hN (Opd.int .i64 (0)))
        (OpJs.nil))))) (by rfl) (by rfl) ?_
      refine seqQ_n ?_
      refine AWp.ghost (mp [] [(9, (.ptr 1009 0 [])), (10, (i6 r3.1)), (14, (i6 r21.1)), (15, (i6 r21.2)), (18, (i6 r34.1)), (19, (i6 r34.2)), (20, (i6 (0 : Int))), (21, (i6 (0 : Int))), (22, (i6 (0 : Int))), (110, (i6 (r2.1.fIn.length : Int))), (111, (i6 (0 : Int)))] [(1009, some (.box 30 (.d (e_api_Series r2.1))))] hB) ?_
      refine AWp.block ?_
      obtain ⟨p86, hx113, h⟩ := bindS h
      refine AWp.ghost (mp [] ((fun s35 : Int × Int × Int × Int => ([(9, (.ptr 1009 0 [])), (10, (i6 r3.1)), (14, (i6 r21.1)), (15, (i6 r21.2)), (18, (i6 r34.1)), (19, (i6 r34.2)), (20, (i6 s35.1)), (21, (i6 s35.2.1)), (22, (i6 s35.2.2.1)), (110, (i6 (r2.1.fIn.length : Int))), (111, (i6 s35.2.2.2))] : EL)) ((0 : Int), (0 : Int), (0 : Int), (0 : Int))) ((fun s35 : Int × Int × Int × Int => ([(1009, some (.box 30 (.d (e_api_Series r2.1))))] : OL)) ((0 : Int), (0 : Int), (0 : Int), (0 : Int))) hB) ?_
      refine AWp.loopS (exchangepointlaw40_PercentileOrder_L0 r2 r3) (fun s35 : Int × Int × Int × Int => ([(9, (.ptr 1009 0 [])), (10, (i6 r3.1)), (14, (i6 r21.1)), (15, (i6 r21.2)), (18, (i6 r34.1)), (19, (i6 r34.2)), (20, (i6 s35.1)), (21, (i6 s35.2.1)), (22, (i6 s35.2.2.1)), (110, (i6 (r2.1.fIn.length : Int))), (111, (i6 s35.2.2.2))] : EL)) (fun s35 : Int × Int × Int × Int => ([(1009, some (.box 30 (.d (e_api_Series r2.1))))] : OL)) (fun (p86 : (Int × Int × Int)) e E' O' => e = .exit 0 ∧ Mat B E' O' ([(10, (i6 r3.1)), (14, (i6 r21.1)), (15, (i6 r21.2)), (18, (i6 r34.1)), (19, (i6 r34.2)), (20, (i6 p86.1)), (21, (i6 p86.2.1)), (22, (i6 p86.2.2))] : EL) ([] : OL)) hx113 (fun s35 y h => ?_) (fun e E' O' hR => ?_)
      · unfold exchangepointlaw40_PercentileOrder_L0 at h
        show AWp _ _ _ _ ([(9, (.ptr 1009 0 [])), (10, (i6 r3.1)), (14, (i6 r21.1)), (15, (i6 r21.2)), (18, (i6 r34.1)), (19, (i6 r34.2)), (20, (i6 s35.1)), (21, (i6 s35.2.1)), (22, (i6 s35.2.2.1)), (110, (i6 (r2.1.fIn.length : Int))), (111, (i6 s35.2.2.2))] : EL) ([(1009, some (.box 30 (.d (e_api_Series r2.1))))] : OL)
        refine AWp.seq ?_
        refine AWp.region (oc (OpJ.lss (ltN hN rfl) (ot 111 (i6 s35.2.2.2)) (ot 110 (i6 (r2.1.fIn.length : Int))))
          (OpJs.nil)) (by rfl) (by rfl) ?_
        refine seqQ_n ?_
        refine AWp.ghost (mp [] [(9, (.ptr 1009 0 [])), (10, (i6 r3.1)), (14, (i6 r21.1)), (15, (i6 r21.2)), (18, (i6 r34.1)), (19, (i6 r34.2)), (20, (i6 s35.1)), (21, (i6 s35.2.1)), (22, (i6 s35.2.2.1)), (110, (i6 (r2.1.fIn.length : Int))), (111, (i6 s35.2.2.2)), (112, (bo (decide (s35.2.2.2 < (r2.1.fIn.length : Int)))))] [(1009, some (.box 30 (.d (e_api_Series r2.1))))] hB) ?_
        refine AWp.seq ?_
        refine AWp.cond (b := (decide (s35.2.2.2 < (r2.1.fIn.length : Int)))) (by rfl) (fun hg87 => ?_) (fun hg87 => ?_)
        · replace h := ite_t hg87 h
          refine AWp.skip ?_
          refine seqQ_n ?_
          refine AWp.seq ?_
          refine AWp.cut h (fun m99 : Int × Int × Int => ([(9, (.ptr 1009 0 [])), (10, (i6 r3.1)), (14, (i6 r21.1)), (15, (i6 r21.2)), (18, (i6 r34.1)), (19, (i6 r34.2)), (20, (i6 m99.1)), (21, (i6 m99.2.1)), (22, (i6 m99.2.2)), (110, (i6 (r2.1.fIn.length : Int))), (111, (i6 s35.2.2.2))] : EL)) (fun m99 : Int × Int × Int => ([(1009, some (.box 30 (.d (e_api_Series r2.1))))] : OL)) (fun m99 h E' O' hmat => ?_) (fun j100 hjj100 h => ?_)
          · refine seqQ_n ?_
            refine AWp.ghost hmat ?_
            refine AWp.region (oc (OpJ.add (ltN hN rfl) (ot 111 (i6 s35.2.2.2)) (Opd.int .i64 (1)))
              (oc (mv hN (ot 154 (i6 (w64 (s35.2.2.2 + (1 : Int))))))
              (OpJs.nil))) (by rfl) (by rfl) ?_
            obtain rfl := Option.some.inj h
            exact ⟨rfl, (Mat.trans (mp [] [(9, (.ptr 1009 0 [])), (10, (i6 r3.1)), (14, (i6 r21.1)), (15, (i6 r21.2)), (18, (i6 r34.1)), (19, (i6 r34.2)), (20, (i6 m99.1)), (21, (i6 m99.2.1)), (22, (i6 m99.2.2)), (110, (i6 (r2.1.fIn.length : Int))), (111, (i6 (w64 (s35.2.2.2 + (1 : Int)))))] [(1009, some (.box 30 (.d (e_api_Series r2.1))))] hB) (mp [] ((fun s35 : Int × Int × Int × Int => ([(9, (.ptr 1009 0 [])), (10, (i6 r3.1)), (14, (i6 r21.1)), (15, (i6 r21.2)), (18, (i6 r34.1)), (19, (i6 r34.2)), (20, (i6 s35.1)), (21, (i6 s35.2.1)), (22, (i6 s35.2.2.1)), (110, (i6 (r2.1.fIn.length : Int))), (111, (i6 s35.2.2.2))] : EL)) (m99.1, m99.2.1, m99.2.2, (w64 (s35.2.2.2 + (1 : Int))))) ((fun s35 : Int × Int × Int × Int => ([(1009, some (.box 30 (.d (e_api_Series r2.1))))] : OL)) (m99.1, m99.2.1, m99.2.2, (w64 (s35.2.2.2 + (1 : Int))))) hB))⟩
          · refine AWp.block ?_
            refine AWp.seq ?_
            refine AWp.region (oc (mv hN (ot 111 (i6 s35.2.2.2)))
              (oc (OpJ.assign (ltN hN rfl) (ot 113 (i6 s35.2.2.2)))
              (OpJs.nil))) (by rfl) (by rfl) ?_
            refine seqQ_n ?_
            refine AWp.ghost (mp [] [(9, (.ptr 1009 0 [])), (10, (i6 r3.1)), (14, (i6 r21.1)), (15, (i6 r21.2)), (18, (i6 r34.1)), (19, (i6 r34.2)), (20, (i6 s35.1)), (21, (i6 s35.2.1)), (22, (i6 s35.2.2.1)), (23, (i6 s35.2.2.2)), (110, (i6 (r2.1.fIn.length : Int))), (111, (i6 s35.2.2.2))] [(1009, some (.box 30 (.d (e_api_Series r2.1))))] hB) ?_
            refine AWp.seq ?_
            refine AWp.seq ?_
            obtain ⟨x101, hx101, h⟩ := bindS h
            refine AWp.region (oc (ov (.ptr 1009 2 [2]) (fp hN Try.underlying30 2 tyS22 (.box 30 (.d (e_api_Series r2.1))) (ot 9 (.ptr 1009 0 []))))
              (oc (lb hN 30 (.d (e_api_Series r2.1)) (.d (.list 1 (r2.1.fIn.map (eI .i64)))) tyS22 (ad (.list 1 (r2.1.fIn.map (eI .i64)))) (ot 114 (.ptr 1009 2 [2])))
              (oc (mv hN (ot 23 (i6 s35.2.2.2)))
              (oc (OpJ.indexD (el := (.int .i64 x101)) Try.underlying22 tyS3 (idx_some hx101).1 (get_map (eI .i64) (idx_some hx101).2) (ltN hN rfl) (ot 115 (.d (.list 1 (r2.1.fIn.map (eI .i64))))) (ot 116 (i6 s35.2.2.2)))
              (oc (OpJ.loadD tyS3 (by rfl) (by rfl) (ltN hN rfl) (ot 117 (.dptr (.int .i64 x101))))
              (oc (OpJ.lss (ltN hN rfl) (ot 118 (i6 x101)) (Opd.int .i64 (0)))
              (OpJs.nil))))))) (by rfl) (by rfl) ?_
            refine seqQ_n ?_
            refine AWp.ghost (mp [] [(9, (.ptr 1009 0 [])), (10, (i6 r3.1)), (14, (i6 r21.1)), (15, (i6 r21.2)), (18, (i6 r34.1)), (19, (i6 r34.2)), (20, (i6 s35.1)), (21, (i6 s35.2.1)), (22, (i6 s35.2.2.1)), (23, (i6 s35.2.2.2)), (110, (i6 (r2.1.fIn.length : Int))), (111, (i6 s35.2.2.2)), (119, (bo (decide (x101 < (0 : Int)))))] [(1009, some (.box 30 (.d (e_api_Series r2.1))))] hB) ?_
            refine AWp.cond (b := (decide (x101 < (0 : Int)))) (by rfl) (fun hg102 => ?_) (fun hg102 => ?_)
            · replace h := ite_t hg102 h
              refine AWp.exit ?_
              refine seqQ_e ?_
              refine blkQ_hit ?_
              exact hjj100 _ h _ _ (mp [] ((fun m99 : Int × Int × Int => ([(9, (.ptr 1009 0 [])), (10, (i6 r3.1)), (14, (i6 r21.1)), (15, (i6 r21.2)), (18, (i6 r34.1)), (19, (i6 r34.2)), (20, (i6 m99.1)), (21, (i6 m99.2.1)), (22, (i6 m99.2.2)), (110, (i6 (r2.1.fIn.length : Int))), (111, (i6 s35.2.2.2))] : EL)) (s35.1, s35.2.1, s35.2.2.1)) ((fun m99 : Int × Int × Int => ([(1009, some (.box 30 (.d (e_api_Series r2.1))))] : OL)) (s35.1, s35.2.1, s35.2.2.1)) hB)
            · replace h := ite_f hg102 h
              refine AWp.skip ?_
              refine seqQ_n ?_
              refine AWp.seq ?_
              refine AWp.region (oc (mv hN (ot 22 (i6 s35.2.2.1)))
                (oc (OpJ.add (ltN hN rfl) (ot 120 (i6 s35.2.2.1)) (Opd.int .i64 (1)))
                (oc (OpJ.assign (ltN hN rfl) (ot 121 (i6 (w64 (s35.2.2.1 + (1 : Int))))))
                (OpJs.nil)))) (by rfl) (by rfl) ?_
              refine seqQ_n ?_
              refine AWp.ghost (mp [] [(9, (.ptr 1009 0 [])), (10, (i6 r3.1)), (14, (i6 r21.1)), (15, (i6 r21.2)), (18, (i6 r34.1)), (19, (i6 r34.2)), (20, (i6 s35.1)), (21, (i6 s35.2.1)), (22, (i6 (w64 (s35.2.2.1 + (1 : Int))))), (23, (i6 s35.2.2.2)), (110, (i6 (r2.1.fIn.length : Int))), (111, (i6 s35.2.2.2))] [(1009, some (.box 30 (.d (e_api_Series r2.1))))] hB) ?_
              refine AWp.seq ?_
              refine AWp.seq ?_
              obtain ⟨x103, hx103, h⟩ := bindS h
              obtain ⟨r104, hr104, h⟩ := bindS h
              refine AWp.draws (by kernel_rfl) (oc (ov (.ptr 1009 2 [2]) (fp hN Try.underlying30 2 tyS22 (.box 30 (.d (e_api_Series r2.1))) (ot 9 (.ptr 1009 0 []))))
                (oc (lb hN 30 (.d (e_api_Series r2.1)) (.d (.list 1 (r2.1.fIn.map (eI .i64)))) tyS22 (ad (.list 1 (r2.1.fIn.map (eI .i64)))) (ot 123 (.ptr 1009 2 [2])))
                (oc (mv hN (ot 23 (i6 s35.2.2.2)))
                (oc (OpJ.indexD (el := (.int .i64 x103)) Try.underlying22 tyS3 (idx_some hx103).1 (get_map (eI .i64) (idx_some hx103).2) (ltN hN rfl) (ot 124 (.d (.list 1 (r2.1.fIn.map (eI .i64))))) (ot 125 (i6 s35.2.2.2)))
                (oc (OpJ.loadD tyS3 (by rfl) (by rfl) (ltN hN rfl) (ot 126 (.dptr (.int .i64 x103))))
                (oc (ov (.ptr 1009 1 [1]) (fp hN Try.underlying30 1 tyS3 (.box 30 (.d (e_api_Series r2.1))) (ot 9 (.ptr 1009 0 []))))
                (oc (lb hN 30 (.d (e_api_Series r2.1)) (i6 r2.1.fSeconds) tyS3 (ad (.int .i64 r2.1.fSeconds)) (ot 128 (.ptr 1009 1 [1])))
                (oc (OpJ.callFn hB fnOk20 (percentile_Rate_ac x103 r2.1.fSeconds r104 hr104) [] (by kernel_rfl) (ltN hN rfl) (by kernel_rfl) (OpdL.cons (ot 127 (i6 x103)) (OpdL.cons (ot 129 (i6 r2.1.fSeconds)) OpdL.nil)))
                (oc (mv hN (ot 130 (.tup [(i6 r104.1), (i6 r104.2)])))
                (oc (OpJ.extract (v := (i6 r104.1)) (by rfl) rfl (ltN hN rfl) (ot 122 (.tup [(i6 r104.1), (i6 r104.2)])))
                (oc (OpJ.extract (v := (i6 r104.2)) (by rfl) rfl (ltN hN rfl) (ot 122 (.tup [(i6 r104.1), (i6 r104.2)])))
                (oc (OpJ.assign (ltN hN rfl) (ot 131 (i6 r104.1)))
                (oc (OpJ.assign (ltN hN rfl) (ot 132 (i6 r104.2)))
                (OpJs.nil)))))))))))))) (by kernel_rfl) (by rfl) (by rfl) ?_
              refine seqQ_n ?_
              refine AWp.ghost (mp [] [(9, (.ptr 1009 0 [])), (10, (i6 r3.1)), (14, (i6 r21.1)), (15, (i6 r21.2)), (18, (i6 r34.1)), (19, (i6 r34.2)), (20, (i6 s35.1)), (21, (i6 s35.2.1)), (22, (i6 (w64 (s35.2.2.1 + (1 : Int))))), (23, (i6 s35.2.2.2)), (24, (i6 r104.1)), (110, (i6 (r2.1.fIn.length : Int))), (111, (i6 s35.2.2.2))] [(1009, some (.box 30 (.d (e_api_Series r2.1))))] hB) ?_
              refine AWp.seq ?_
              refine AWp.region (oc (mv hN (ot 24 (i6 r104.1)))
                (oc (mv hN (ot 10 (i6 r3.1)))
                (oc (OpJ.gtr (ltN hN rfl) (ot 133 (i6 r104.1)) (ot 134 (i6 r3.1)))
                (OpJs.nil)))) (by rfl) (by rfl) ?_
              refine seqQ_n ?_
              refine AWp.ghost (mp [] [(9, (.ptr 1009 0 [])), (10, (i6 r3.1)), (14, (i6 r21.1)), (15, (i6 r21.2)), (18, (i6 r34.1)), (19, (i6 r34.2)), (20, (i6 s35.1)), (21, (i6 s35.2.1)), (22, (i6 (w64 (s35.2.2.1 + (1 : Int))))), (23, (i6 s35.2.2.2)), (110, (i6 (r2.1.fIn.length : Int))), (111, (i6 s35.2.2.2)), (135, (bo (decide (r3.1 < r104.1))))] [(1009, some (.box 30 (.d (e_api_Series r2.1))))] hB) ?_
              refine AWp.cut h (fun m106 : Int => ([(9, (.ptr 1009 0 [])), (10, (i6 r3.1)), (14, (i6 r21.1)), (15, (i6 r21.2)), (18, (i6 r34.1)), (19, (i6 r34.2)), (20, (i6 m106)), (21, (i6 s35.2.1)), (22, (i6 (w64 (s35.2.2.1 + (1 : Int))))), (23, (i6 s35.2.2.2)), (110, (i6 (r2.1.fIn.length : Int))), (111, (i6 s35.2.2.2))] : EL)) (fun m106 : Int => ([(1009, some (.box 30 (.d (e_api_Series r2.1))))] : OL)) (fun m106 h E' O' hmat => ?_) (fun j107 hjj107 h => ?_)
              · refine seqQ_n ?_
                refine AWp.ghost hmat ?_
                refine AWp.seq ?_
                obtain ⟨x108, hx108, h⟩ := bindS h
                obtain ⟨r109, hr109, h⟩ := bindS h
                refine AWp.draws (by kernel_rfl) (oc (ov (.ptr 1009 3 [3]) (fp hN Try.underlying30 3 tyS22 (.box 30 (.d (e_api_Series r2.1))) (ot 9 (.ptr 1009 0 []))))
                  (oc (lb hN 30 (.d (e_api_Series r2.1)) (.d (.list 1 (r2.1.fOut.map (eI .i64)))) tyS22 (ad (.list 1 (r2.1.fOut.map (eI .i64)))) (ot 139 (.ptr 1009 3 [3])))
                  (oc (mv hN (ot 23 (i6 s35.2.2.2)))
                  (oc (OpJ.indexD (el := (.int .i64 x108)) Try.underlying22 tyS3 (idx_some hx108).1 (get_map (eI .i64) (idx_some hx108).2) (ltN hN rfl) (ot 140 (.d (.list 1 (r2.1.fOut.map (eI .i64))))) (ot 141 (i6 s35.2.2.2)))
                  (oc (OpJ.loadD tyS3 (by rfl) (by rfl) (ltN hN rfl) (ot 142 (.dptr (.int .i64 x108))))
                  (oc (ov (.ptr 1009 1 [1]) (fp hN Try.underlying30 1 tyS3 (.box 30 (.d (e_api_Series r2.1))) (ot 9 (.ptr 1009 0 []))))
                  (oc (lb hN 30 (.d (e_api_Series r2.1)) (i6 r2.1.fSeconds) tyS3 (ad (.int .i64 r2.1.fSeconds)) (ot 144 (.ptr 1009 1 [1])))
                  (oc (OpJ.callFn hB fnOk20 (percentile_Rate_ac x108 r2.1.fSeconds r109 hr109) [] (by kernel_rfl) (ltN hN rfl) (by kernel_rfl) (OpdL.cons (ot 143 (i6 x108)) (OpdL.cons (ot 145 (i6 r2.1.fSeconds)) OpdL.nil)))
                  (oc (mv hN (ot 146 (.tup [(i6 r109.1), (i6 r109.2)])))
                  (oc (OpJ.extract (v := (i6 r109.1)) (by rfl) rfl (ltN hN rfl) (ot 138 (.tup [(i6 r109.1), (i6 r109.2)])))
                  (oc (OpJ.extract (v := (i6 r109.2)) (by rfl) rfl (ltN hN rfl) (ot 138 (.tup [(i6 r109.1), (i6 r109.2)])))
                  (oc (OpJ.assign (ltN hN rfl) (ot 147 (i6 r109.1)))
                  (oc (OpJ.assign (ltN hN rfl) (ot 148 (i6 r109.2)))
                  (OpJs.nil)))))))))))))) (by kernel_rfl) (by rfl) (by rfl) ?_
                refine seqQ_n ?_
                refine AWp.ghost (mp [] [(9, (.ptr 1009 0 [])), (10, (i6 r3.1)), (14, (i6 r21.1)), (15, (i6 r21.2)), (18, (i6 r34.1)), (19, (i6 r34.2)), (20, (i6 m106)), (21, (i6 s35.2.1)), (22, (i6 (w64 (s35.2.2.1 + (1 : Int))))), (26, (i6 r109.1)), (110, (i6 (r2.1.fIn.length : Int))), (111, (i6 s35.2.2.2))] [(1009, some (.box 30 (.d (e_api_Series r2.1))))] hB) ?_
                refine AWp.seq ?_
                refine AWp.region (oc (mv hN (ot 26 (i6 r109.1)))
                  (oc (mv hN (ot 10 (i6 r3.1)))
                  (oc (OpJ.gtr (ltN hN rfl) (ot 149 (i6 r109.1)) (ot 150 (i6 r3.1)))
                  (OpJs.nil)))) (by rfl) (by rfl) ?_
                refine seqQ_n ?_
                refine AWp.ghost (mp [] [(9, (.ptr 1009 0 [])), (10, (i6 r3.1)), (14, (i6 r21.1)), (15, (i6 r21.2)), (18, (i6 r34.1)), (19, (i6 r34.2)), (20, (i6 m106)), (21, (i6 s35.2.1)), (22, (i6 (w64 (s35.2.2.1 + (1 : Int))))), (110, (i6 (r2.1.fIn.length : Int))), (111, (i6 s35.2.2.2)), (151, (bo (decide (r3.1 < r109.1))))] [(1009, some (.box 30 (.d (e_api_Series r2.1))))] hB) ?_
                refine AWp.cond (b := (decide (r3.1 < r109.1))) (by rfl) (fun hg110 => ?_) (fun hg110 => ?_)
                · replace h := ite_t hg110 h
                  refine AWp.region (oc (mv hN (ot 21 (i6 s35.2.1)))
                    (oc (OpJ.add (ltN hN rfl) (ot 152 (i6 s35.2.1)) (Opd.int .i64 (1)))
                    (oc (OpJ.assign (ltN hN rfl) (ot 153 (i6 (w64 (s35.2.1 + (1 : Int))))))
                    (OpJs.nil)))) (by rfl) (by rfl) ?_
                  refine blkQ_n ?_
                  exact hjj100 _ h _ _ (Mat.trans (mp [] [(9, (.ptr 1009 0 [])), (10, (i6 r3.1)), (14, (i6 r21.1)), (15, (i6 r21.2)), (18, (i6 r34.1)), (19, (i6 r34.2)), (20, (i6 m106)), (21, (i6 (w64 (s35.2.1 + (1 : Int))))), (22, (i6 (w64 (s35.2.2.1 + (1 : Int))))), (110, (i6 (r2.1.fIn.length : Int))), (111, (i6 s35.2.2.2))] [(1009, some (.box 30 (.d (e_api_Series r2.1))))] hB) (mp [] ((fun m99 : Int × Int × Int => ([(9, (.ptr 1009 0 [])), (10, (i6 r3.1)), (14, (i6 r21.1)), (15, (i6 r21.2)), (18, (i6 r34.1)), (19, (i6 r34.2)), (20, (i6 m99.1)), (21, (i6 m99.2.1)), (22, (i6 m99.2.2)), (110, (i6 (r2.1.fIn.length : Int))), (111, (i6 s35.2.2.2))] : EL)) (m106, (w64 (s35.2.1 + (1 : Int))), (w64 (s35.2.2.1 + (1 : Int))))) ((fun m99 : Int × Int × Int => ([(1009, some (.box 30 (.d (e_api_Series r2.1))))] : OL)) (m106, (w64 (s35.2.1 + (1 : Int))), (w64 (s35.2.2.1 + (1 : Int))))) hB))
                · replace h := ite_f hg110 h
                  refine AWp.skip ?_
                  refine blkQ_n ?_
                  exact hjj100 _ h _ _ (mp [] ((fun m99 : Int × Int × Int => ([(9, (.ptr 1009 0 [])), (10, (i6 r3.1)), (14, (i6 r21.1)), (15, (i6 r21.2)), (18, (i6 r34.1)), (19, (i6 r34.2)), (20, (i6 m99.1)), (21, (i6 m99.2.1)), (22, (i6 m99.2.2)), (110, (i6 (r2.1.fIn.length : Int))), (111, (i6 s35.2.2.2))] : EL)) (m106, s35.2.1, (w64 (s35.2.2.1 + (1 : Int))))) ((fun m99 : Int × Int × Int => ([(1009, some (.box 30 (.d (e_api_Series r2.1))))] : OL)) (m106, s35.2.1, (w64 (s35.2.2.1 + (1 : Int))))) hB)
              · refine AWp.cond (b := (decide (r3.1 < r104.1))) (by rfl) (fun hg111 => ?_) (fun hg111 => ?_)
                · replace h := ite_t hg111 h
                  refine AWp.region (oc (mv hN (ot 20 (i6 s35.1)))
                    (oc (OpJ.add (ltN hN rfl) (ot 136 (i6 s35.1)) (Opd.int .i64 (1)))
                    (oc (OpJ.assign (ltN hN rfl) (ot 137 (i6 (w64 (s35.1 + (1 : Int))))))
                    (OpJs.nil)))) (by rfl) (by rfl) ?_
                  exact hjj107 _ h _ _ (Mat.trans (mp [] [(9, (.ptr 1009 0 [])), (10, (i6 r3.1)), (14, (i6 r21.1)), (15, (i6 r21.2)), (18, (i6 r34.1)), (19, (i6 r34.2)), (20, (i6 (w64 (s35.1 + (1 : Int))))), (21, (i6 s35.2.1)), (22, (i6 (w64 (s35.2.2.1 + (1 : Int))))), (23, (i6 s35.2.2.2)), (110, (i6 (r2.1.fIn.length : Int))), (111, (i6 s35.2.2.2))] [(1009, some (.box 30 (.d (e_api_Series r2.1))))] hB) (mp [] ((fun m106 : Int => ([(9, (.ptr 1009 0 [])), (10, (i6 r3.1)), (14, (i6 r21.1)), (15, (i6 r21.2)), (18, (i6 r34.1)), (19, (i6 r34.2)), (20, (i6 m106)), (21, (i6 s35.2.1)), (22, (i6 (w64 (s35.2.2.1 + (1 : Int))))), (23, (i6 s35.2.2.2)), (110, (i6 (r2.1.fIn.length : Int))), (111, (i6 s35.2.2.2))] : EL)) (w64 (s35.1 + (1 : Int)))) ((fun m106 : Int => ([(1009, some (.box 30 (.d (e_api_Series r2.1))))] : OL)) (w64 (s35.1 + (1 : Int)))) hB))
                · replace h := ite_f hg111 h
                  refine AWp.skip ?_
                  exact hjj107 _ h _ _ (mp [] ((fun m106 : Int => ([(9, (.ptr 1009 0 [])), (10, (i6 r3.1)), (14, (i6 r21.1)), (15, (i6 r21.2)), (18, (i6 r34.1)), (19, (i6 r34.2)), (20, (i6 m106)), (21, (i6 s35.2.1)), (22, (i6 (w64 (s35.2.2.1 + (1 : Int))))), (23, (i6 s35.2.2.2)), (110, (i6 (r2.1.fIn.length : Int))), (111, (i6 s35.2.2.2))] : EL)) s35.1) ((fun m106 : Int => ([(1009, some (.box 30 (.d (e_api_Series r2.1))))] : OL)) s35.1) hB)
        · replace h := ite_f hg87 h
          refine AWp.exit ?_
          refine seqQ_e ?_
          obtain rfl := Option.some.inj h
          exact ⟨(fun hc => by cases hc), rfl, (mp [] ((fun p86 : Int × Int × Int => ([(10, (i6 r3.1)), (14, (i6 r21.1)), (15, (i6 r21.2)), (18, (i6 r34.1)), (19, (i6 r34.2)), (20, (i6 p86.1)), (21, (i6 p86.2.1)), (22, (i6 p86.2.2))] : EL)) (s35.1, s35.2.1, s35.2.2.1)) ((fun p86 : Int × Int × Int => ([] : OL)) (s35.1, s35.2.1, s35.2.2.1)) hB)⟩
      · obtain ⟨rfl, hmat⟩ := hR
        refine blkQ_hit ?_
        refine seqQ_n ?_
        refine AWp.ghost hmat ?_
        refine AWp.seq ?_
        refine AWp.cut h (fun m116 : Bool => ([(8, (bo m116))] : EL)) (fun m116 : Bool => ([] : OL)) (fun m116 h E' O' hmat => ?_) (fun j117 hjj117 h => ?_)
        · refine seqQ_n ?_
          refine AWp.ghost hmat ?_
          refine AWp.ret ?_
          obtain rfl := Option.some.inj h
          exact ⟨.inl rfl, _, _, (mp [] [(8, (bo m116))] [] hB), [(bo m116)], (Res.tmp (by rfl) (by rfl) Res.nil), rfl, by rfl, by rfl, by rfl⟩
        · rcases Bool.eq_false_or_eq_true ((((((r21.2 == (0 : Int)) && (r34.2 == (0 : Int))) && (r21.1 == r3.1)) && (decide (r3.1 ≤ r34.1))) && (decide ((w64 (p86.1 * (100 : Int))) ≤ (w64 ((5 : Int) * p86.2.2))))) && (decide ((w64 (p86.2.1 * (100 : Int))) ≤ (w64 ((5 : Int) * p86.2.2))))) with hg118 | hg118
          · replace h := ite_t hg118 h
            obtain ⟨r119, hr119, h⟩ := bindS h
            refine AWp.region (oc (mv hN (ot 15 (i6 r21.2)))
              (oc (OpJ.eqlI (ltN hN rfl) (ot 155 (i6 r21.2)) (Opd.int .i64 (0)))
              (oc (mv hN (ot 156 (bo (r21.2 == (0 : Int)))))
              (oc (op hN (i6 r34.2) (mv hN (ot 19 (i6 r34.2))) (OptL.keep rfl OptL.nil) (GuardV.plain _))
              (oc (op hN (bo (r34.2 == (0 : Int))) (OpJ.eqlI (ltN hN rfl) (ot 158 (i6 r34.2)) (Opd.int .i64 (0))) (OptL.opt OptL.nil) (GuardV.plain _))
              (oc (OpJ.pickAnd rfl (ltN hN rfl) (ot 157 (bo (r21.2 == (0 : Int)))) (ot 159 (.opt ((r21.2 == (0 : Int)) == true) (bo (r34.2 == (0 : Int))))))
              (oc (mv hN (ot 160 (bo ((r21.2 == (0 : Int)) && (r34.2 == (0 : Int))))))
              (oc (op hN (i6 r21.1) (mv hN (ot 14 (i6 r21.1))) (OptL.keep rfl OptL.nil) (GuardV.plain _))
              (oc (op hN (i6 r3.1) (mv hN (ot 10 (i6 r3.1))) (OptL.keep rfl OptL.nil) (GuardV.plain _))
              (oc (op hN (bo (r21.1 == r3.1)) (OpJ.eqlI (ltN hN rfl) (ot 162 (i6 r21.1)) (ot 163 (i6 r3.1))) (OptL.opt (OptL.opt OptL.nil)) (GuardV.plain _))
              (oc (OpJ.pickAnd rfl (ltN hN rfl) (ot 161 (bo ((r21.2 == (0 : Int)) && (r34.2 == (0 : Int))))) (ot 164 (.opt (((r21.2 == (0 : Int)) && (r34.2 == (0 : Int))) == true) (bo (r21.1 == r3.1)))))
              (oc (mv hN (ot 165 (bo (((r21.2 == (0 : Int)) && (r34.2 == (0 : Int))) && (r21.1 == r3.1)))))
              (oc (op hN (i6 r34.1) (mv hN (ot 18 (i6 r34.1))) (OptL.keep rfl OptL.nil) (GuardV.plain _))
              (oc (op hN (i6 r3.1) (mv hN (ot 10 (i6 r3.1))) (OptL.keep rfl OptL.nil) (GuardV.plain _))
              (oc (op hN (bo (decide (r3.1 ≤ r34.1))) (OpJ.geq (ltN hN rfl) (ot 167 (i6 r34.1)) (ot 168 (i6 r3.1))) (OptL.opt (OptL.opt OptL.nil)) (GuardV.plain _))
              (oc (OpJ.pickAnd rfl (ltN hN rfl) (ot 166 (bo (((r21.2 == (0 : Int)) && (r34.2 == (0 : Int))) && (r21.1 == r3.1)))) (ot 169 (.opt ((((r21.2 == (0 : Int)) && (r34.2 == (0 : Int))) && (r21.1 == r3.1)) == true) (bo (decide (r3.1 ≤ r34.1))))))
              (oc (mv hN (ot 170 (bo ((((r21.2 == (0 : Int)) && (r34.2 == (0 : Int))) && (r21.1 == r3.1)) && (decide (r3.1 ≤ r34.1))))))
              (oc (op hN (i6 p86.1) (mv hN (ot 20 (i6 p86.1))) (OptL.keep rfl OptL.nil) (GuardV.plain _))
              (oc (op hN (i6 (w64 (p86.1 * (100 : Int)))) (OpJ.mul (ltN hN rfl) (ot 172 (i6 p86.1)) (Opd.int .i64 (100))) (OptL.opt OptL.nil) (GuardV.plain _))
              (oc (op hN (i6 p86.2.2) (mv hN (ot 22 (i6 p86.2.2))) (OptL.keep rfl OptL.nil) (GuardV.plain _))
              (oc (op hN (i6 (w64 ((5 : Int) * p86.2.2))) (OpJ.mul (ltN hN rfl) (Opd.int .i64 (5)) (ot 174 (i6 p86.2.2))) (OptL.opt OptL.nil) (GuardV.plain _))
              (oc (op hN (bo (decide ((w64 (p86.1 * (100 : Int))) ≤ (w64 ((5 : Int) * p86.2.2))))) (OpJ.leq (ltN hN rfl) (ot 173 (i6 (w64 (p86.1 * (100 : Int))))) (ot 175 (i6 (w64 ((5 : Int) * p86.2.2))))) (OptL.opt (OptL.opt OptL.nil)) (GuardV.plain _))
              (oc (OpJ.pickAnd rfl (ltN hN rfl) (ot 171 (bo ((((r21.2 == (0 : Int)) && (r34.2 == (0 : Int))) && (r21.1 == r3.1)) && (decide (r3.1 ≤ r34.1))))) (ot 176 (.opt (((((r21.2 == (0 : Int)) && (r34.2 == (0 : Int))) && (r21.1 == r3.1)) && (decide (r3.1 ≤ r34.1))) == true) (bo (decide ((w64 (p86.1 * (100 : Int))) ≤ (w64 ((5 : Int) * p86.2.2))))))))
              (oc (mv hN (ot 177 (bo (((((r21.2 == (0 : Int)) && (r34.2 == (0 : Int))) && (r21.1 == r3.1)) && (decide (r3.1 ≤ r34.1))) && (decide ((w64 (p86.1 * (100 : Int))) ≤ (w64 ((5 : Int) * p86.2.2))))))))
              (oc (op hN (i6 p86.2.1) (mv hN (ot 21 (i6 p86.2.1))) (OptL.keep rfl OptL.nil) (GuardV.plain _))
              (oc (op hN (i6 (w64 (p86.2.1 * (100 : Int)))) (OpJ.mul (ltN hN rfl) (ot 179 (i6 p86.2.1)) (Opd.int .i64 (100))) (OptL.opt OptL.nil) (GuardV.plain _))
              (oc (op hN (i6 p86.2.2) (mv hN (ot 22 (i6 p86.2.2))) (OptL.keep rfl OptL.nil) (GuardV.plain _))
              (oc (op hN (i6 (w64 ((5 : Int) * p86.2.2))) (OpJ.mul (ltN hN rfl) (Opd.int .i64 (5)) (ot 181 (i6 p86.2.2))) (OptL.opt OptL.nil) (GuardV.plain _))
              (oc (op hN (bo (decide ((w64 (p86.2.1 * (100 : Int))) ≤ (w64 ((5 : Int) * p86.2.2))))) (OpJ.leq (ltN hN rfl) (ot 180 (i6 (w64 (p86.2.1 * (100 : Int))))) (ot 182 (i6 (w64 ((5 : Int) * p86.2.2))))) (OptL.opt (OptL.opt OptL.nil)) (GuardV.plain _))
              (oc (OpJ.pickAnd rfl (ltN hN rfl) (ot 178 (bo (((((r21.2 == (0 : Int)) && (r34.2 == (0 : Int))) && (r21.1 == r3.1)) && (decide (r3.1 ≤ r34.1))) && (decide ((w64 (p86.1 * (100 : Int))) ≤ (w64 ((5 : Int) * p86.2.2))))))) (ot 183 (.opt ((((((r21.2 == (0 : Int)) && (r34.2 == (0 : Int))) && (r21.1 == r3.1)) && (decide (r3.1 ≤ r34.1))) && (decide ((w64 (p86.1 * (100 : Int))) ≤ (w64 ((5 : Int) * p86.2.2))))) == true) (bo (decide ((w64 (p86.2.1 * (100 : Int))) ≤ (w64 ((5 : Int) * p86.2.2))))))))
              (oc (OpJ.val (v' := .d (.bool true)) (by rw [hg118]) (mv hN (ot 184 (bo ((((((r21.2 == (0 : Int)) && (r34.2 == (0 : Int))) && (r21.1 == r3.1)) && (decide (r3.1 ≤ r34.1))) && (decide ((w64 (p86.1 * (100 : Int))) ≤ (w64 ((5 : Int) * p86.2.2))))) && (decide ((w64 (p86.2.1 * (100 : Int))) ≤ (w64 ((5 : Int) * p86.2.2)))))))))
              (oc (OpJ.guarded (by rfl) (OpJ.callFn hB fnOk9 (exchangepointlaw40_awake_ac  r119 hr119) [] (by kernel_rfl) (ltN hN rfl) (by kernel_rfl) OpdL.nil))
              (oc (OpJ.pickT (ltN hN rfl) (ot 185 (bo true)) (ot 186 (bo r119)))
              (oc (OpJ.assign (ltN hN rfl) (ot 187 (bo r119)))
              (OpJs.nil))))))))))))))))))))))))))))))))))) (by rfl) (by rfl) ?_
            exact hjj117 _ h _ _ (Mat.trans (mp [] [(8, (bo r119))] [] hB) (mp [] ((fun m116 : Bool => ([(8, (bo m116))] : EL)) r119) ((fun m116 : Bool => ([] : OL)) r119) hB))
          · replace h := ite_f hg118 h
            refine AWp.region (oc (mv hN (ot 15 (i6 r21.2)))
              (oc (OpJ.eqlI (ltN hN rfl) (ot 155 (i6 r21.2)) (Opd.int .i64 (0)))
              (oc (mv hN (ot 156 (bo (r21.2 == (0 : Int)))))
              (oc (op hN (i6 r34.2) (mv hN (ot 19 (i6 r34.2))) (OptL.keep rfl OptL.nil) (GuardV.plain _))
              (oc (op hN (bo (r34.2 == (0 : Int))) (OpJ.eqlI (ltN hN rfl) (ot 158 (i6 r34.2)) (Opd.int .i64 (0))) (OptL.opt OptL.nil) (GuardV.plain _))
              (oc (OpJ.pickAnd rfl (ltN hN rfl) (ot 157 (bo (r21.2 == (0 : Int)))) (ot 159 (.opt ((r21.2 == (0 : Int)) == true) (bo (r34.2 == (0 : Int))))))
              (oc (mv hN (ot 160 (bo ((r21.2 == (0 : Int)) && (r34.2 == (0 : Int))))))
              (oc (op hN (i6 r21.1) (mv hN (ot 14 (i6 r21.1))) (OptL.keep rfl OptL.nil) (GuardV.plain _))
              (oc (op hN (i6 r3.1) (mv hN (ot 10 (i6 r3.1))) (OptL.keep rfl OptL.nil) (GuardV.plain _))
              (oc (op hN (bo (r21.1 == r3.1)) (OpJ.eqlI (ltN hN rfl) (ot 162 (i6 r21.1)) (ot 163 (i6 r3.1))) (OptL.opt (OptL.opt OptL.nil)) (GuardV.plain _))
              (oc (OpJ.pickAnd rfl (ltN hN rfl) (ot 161 (bo ((r21.2 == (0 : Int)) && (r34.2 == (0 : Int))))) (ot 164 (.opt (((r21.2 == (0 : Int)) && (r34.2 == (0 : Int))) == true) (bo (r21.1 == r3.1)))))
              (oc (mv hN (ot 165 (bo (((r21.2 == (0 : Int)) && (r34.2 == (0 : Int))) && (r21.1 == r3.1)))))
              (oc (op hN (i6 r34.1) (mv hN (ot 18 (i6 r34.1))) (OptL.keep rfl OptL.nil) (GuardV.plain _))
              (oc (op hN (i6 r3.1) (mv hN (ot 10 (i6 r3.1))) (OptL.keep rfl OptL.nil) (GuardV.plain _))
              (oc (op hN (bo (decide (r3.1 ≤ r34.1))) (OpJ.geq (ltN hN rfl) (ot 167 (i6 r34.1)) (ot 168 (i6 r3.1))) (OptL.opt (OptL.opt OptL.nil)) (GuardV.plain _))
              (oc (OpJ.pickAnd rfl (ltN hN rfl) (ot 166 (bo (((r21.2 == (0 : Int)) && (r34.2 == (0 : Int))) && (r21.1 == r3.1)))) (ot 169 (.opt ((((r21.2 == (0 : Int)) && (r34.2 == (0 : Int))) && (r21.1 == r3.1)) == true) (bo (decide (r3.1 ≤ r34.1))))))
              (oc (mv hN (ot 170 (bo ((((r21.2 == (0 : Int)) && (r34.2 == (0 : Int))) && (r21.1 == r3.1)) && (decide (r3.1 ≤ r34.1))))))
              (oc (op hN (i6 p86.1) (mv hN (ot 20 (i6 p86.1))) (OptL.keep rfl OptL.nil) (GuardV.plain _))
              (oc (op hN (i6 (w64 (p86.1 * (100 : Int)))) (OpJ.mul (ltN hN rfl) (ot 172 (i6 p86.1)) (Opd.int .i64 (100))) (OptL.opt OptL.nil) (GuardV.plain _))
              (oc (op hN (i6 p86.2.2) (mv hN (ot 22 (i6 p86.2.2))) (OptL.keep rfl OptL.nil) (GuardV.plain _))
              (oc (op hN (i6 (w64 ((5 : Int) * p86.2.2))) (OpJ.mul (ltN hN rfl) (Opd.int .i64 (5)) (ot 174 (i6 p86.2.2))) (OptL.opt OptL.nil) (GuardV.plain _))
              (oc (op hN (bo (decide ((w64 (p86.1 * (100 : Int))) ≤ (w64 ((5 : Int) * p86.2.2))))) (OpJ.leq (ltN hN rfl) (ot 173 (i6 (w64 (p86.1 * (100 : Int))))) (ot 175 (i6 (w64 ((5 : Int) * p86.2.2))))) (OptL.opt (OptL.opt OptL.nil)) (GuardV.plain _))
              (oc (OpJ.pickAnd rfl (ltN hN rfl) (ot 171 (bo ((((r21.2 == (0 : Int)) && (r34.2 == (0 : Int))) && (r21.1 == r3.1)) && (decide (r3.1 ≤ r34.1))))) (ot 176 (.opt (((((r21.2 == (0 : Int)) && (r34.2 == (0 : Int))) && (r21.1 == r3.1)) && (decide (r3.1 ≤ r34.1))) == true) (bo (decide ((w64 (p86.1 * (100 : Int))) ≤ (w64 ((5 : Int) * p86.2.2))))))))
              (oc (mv hN (ot 177 (bo (((((r21.2 == (0 : Int)) && (r34.2 == (0 : Int))) && (r21.1 == r3.1)) && (decide (r3.1 ≤ r34.1))) && (decide ((w64 (p86.1 * (100 : Int))) ≤ (w64 ((5 : Int) * p86.2.2))))))))
              (oc (op hN (i6 p86.2.1) (mv hN (ot 21 (i6 p86.2.1))) (OptL.keep rfl OptL.nil) (GuardV.plain _))
              (oc (op hN (i6 (w64 (p86.2.1 * (100 : Int)))) (OpJ.mul (ltN hN rfl) (ot 179 (i6 p86.2.1)) (Opd.int .i64 (100))) (OptL.opt OptL.nil) (GuardV.plain _))
              (oc (op hN (i6 p86.2.2) (mv hN (ot 22 (i6 p86.2.2))) (OptL.keep rfl OptL.nil) (GuardV.plain _))
              (oc (op hN (i6 (w64 ((5 : Int) * p86.2.2))) (OpJ.mul (ltN hN rfl) (Opd.int .i64 (5)) (ot 181 (i6 p86.2.2))) (OptL.opt OptL.nil) (GuardV.plain _))
              (oc (op hN (bo (decide ((w64 (p86.2.1 * (100 : Int))) ≤ (w64 ((5 : Int) * p86.2.2))))) (OpJ.leq (ltN hN rfl) (ot 180 (i6 (w64 (p86.2.1 * (100 : Int))))) (ot 182 (i6 (w64 ((5 : Int) * p86.2.2))))) (OptL.opt (OptL.opt OptL.nil)) (GuardV.plain _))
              (oc (OpJ.pickAnd rfl (ltN hN rfl) (ot 178 (bo (((((r21.2 == (0 : Int)) && (r34.2 == (0 : Int))) && (r21.1 == r3.1)) && (decide (r3.1 ≤ r34.1))) && (decide ((w64 (p86.1 * (100 : Int))) ≤ (w64 ((5 : Int) * p86.2.2))))))) (ot 183 (.opt ((((((r21.2 == (0 : Int)) && (r34.2 == (0 : Int))) && (r21.1 == r3.1)) && (decide (r3.1 ≤ r34.1))) && (decide ((w64 (p86.1 * (100 : Int))) ≤ (w64 ((5 : Int) * p86.2.2))))) == true) (bo (decide ((w64 (p86.2.1 * (100 : Int))) ≤ (w64 ((5 : Int) * p86.2.2))))))))
              (oc (OpJ.val (v' := .d (.bool false)) (by rw [hg118]) (mv hN (ot 184 (bo ((((((r21.2 == (0 : Int)) && (r34.2 == (0 : Int))) && (r21.1 == r3.1)) && (decide (r3.1 ≤ r34.1))) && (decide ((w64 (p86.1 * (100 : Int))) ≤ (w64 ((5 : Int) * p86.2.2))))) && (decide ((w64 (p86.2.1 * (100 : Int))) ≤ (w64 ((5 : Int) * p86.2.2)))))))))
              (oc (OpJ.skipU (ltN hN rfl) (by rfl))
              (oc (OpJ.pickF (ltN hN rfl) (ot 185 (bo false)) (Opd.bool false))
              (oc (OpJ.assign (ltN hN rfl) (ot 187 (bo false)))
              (OpJs.nil))))))))))))))))))))))))))))))))))) (by rfl) (by rfl) ?_
            exact hjj117 _ h _ _ (Mat.trans (mp [] [(8, (bo false))] [] hB) (mp [] ((fun m116 : Bool => ([(8, (bo m116))] : EL)) false) ((fun m116 : Bool => ([] : OL)) false) hB))
    · refine AWp.cond (b := (decide ((0 : Int) ≤ x25))) (by rfl) (fun hg120 => ?_) (fun hg120 => ?_)
      · replace h := ite_t hg120 h
        obtain ⟨x121, hx121, h⟩ := bindS h
        obtain ⟨x122, hx122, h⟩ := bindS h
        obtain ⟨r123, hr123, h⟩ := bindS h
        obtain ⟨x124, hx124, h⟩ := bindS h
        obtain ⟨x125, hx125, h⟩ := bindS h
        refine AWp.draws (by kernel_rfl) (oc (ov (.ptr 1017 2 [2]) (fp hN Try.underlying30 2 tyS22 (.box 30 (.st [(i6 r23.fPort), (i6 r23.fSeconds), (.sref 101000 1 0 r23.fIn.length), (.d (.list 1 (r23.fOut.map (eI .i64))))])) (ot 17 (.ptr 1017 0 []))))
          (oc (lb hN 30 (.st [(i6 r23.fPort), (i6 r23.fSeconds), (.sref 101000 1 0 r23.fIn.length), (.d (.list 1 (r23.fOut.map (eI .i64))))]) (.sref 101000 1 0 r23.fIn.length) tyS22 (At.st1 (f := (.sref 101000 1 0 r23.fIn.length)) (by rfl) (by rfl) (At.here _) (by first | rfl | omega)) (ot 90 (.ptr 1017 2 [2])))
          (oc (mv hN (ot 16 (i6 r22)))
          (oc (ov (.ptr 1017 2 [2]) (fp hN Try.underlying30 2 tyS22 (.box 30 (.st [(i6 r23.fPort), (i6 r23.fSeconds), (.sref 101000 1 0 r23.fIn.length), (.d (.list 1 (r23.fOut.map (eI .i64))))])) (ot 17 (.ptr 1017 0 []))))
          (oc (lb hN 30 (.st [(i6 r23.fPort), (i6 r23.fSeconds), (.sref 101000 1 0 r23.fIn.length), (.d (.list 1 (r23.fOut.map (eI .i64))))]) (.sref 101000 1 0 r23.fIn.length) tyS22 (At.st1 (f := (.sref 101000 1 0 r23.fIn.length)) (by rfl) (by rfl) (At.here _) (by first | rfl | omega)) (ot 93 (.ptr 1017 2 [2])))
          (oc (mv hN (ot 16 (i6 r22)))
          (oc (OpJ.val (v' := (.ptr 101000 (r22.toNat * 1) [r22.toNat])) (by simp) (OpJ.indexS Try.underlying22 tyS3 (obj := (.row 3 1 (r23.fIn.map (eI .i64)))) (idx_some hx121).1 (by have := idx_lt hx121; first | (simpa using this) | ((try simp only [List.length_map] at this); (try simp only [List.length_map]); omega)) (ltN hN rfl) (ot 94 (.sref 101000 1 0 r23.fIn.length)) (ot 95 (i6 r22))))
          (oc (OpJ.loadR (e := 3) (sz := 1) (es := r23.fIn.map (eI .i64)) tyS3 (get_map (eI .i64) (idx_some hx122).2) (o := 0) (v := (.int .i64 x122)) (At.here _) (by rfl) (by rfl) (by rfl) (ltN hN rfl) (ot 96 (.ptr 101000 (r22.toNat * 1) [r22.toNat])))
          (oc (mv hN (ot 3 (i6 a3)))
          (oc (OpJ.callFn hB fnOk10 (exchangepointmill_Mod_ac a3 (1099511627776 : Int) r123 hr123) [] (by kernel_rfl) (ltN hN rfl) (by kernel_rfl) (OpdL.cons (ot 98 (i6 a3)) (OpdL.cons (Opd.int .i64 (1099511627776)) OpdL.nil)))
          (oc (OpJ.add (ltN hN rfl) (ot 97 (i6 x122)) (ot 99 (i6 r123)))
          (oc (OpJ.min (ltN hN rfl) (Opd.int .i64 (1125899906842624)) (ot 100 (i6 (w64 (x122 + r123)))))
          (oc (OpJ.val (v' := (.ptr 101000 (r22.toNat * 1) [r22.toNat])) (by simp) (OpJ.indexS Try.underlying22 tyS3 (obj := (.row 3 1 (r23.fIn.map (eI .i64)))) (idx_some hx124).1 (by have := idx_lt hx124; first | (simpa using this) | ((try simp only [List.length_map] at this); (try simp only [List.length_map]); omega)) (ltN hN rfl) (ot 91 (.sref 101000 1 0 r23.fIn.length)) (ot 92 (i6 r22))))
          (oc (OpJ.storeR (e := 3) (sz := 1) (es := r23.fIn.map (eI .i64)) (es' := (r23.fIn.set r22.toNat (minI (1125899906842624 : Int) (w64 (x122 + r123)))).map (eI .i64)) tyS3 (get_map (eI .i64) (idx_some hx125).2) (o := 0) (v := (.int .i64 (minI (1125899906842624 : Int) (w64 (x122 + r123))))) (el' := (.int .i64 (minI (1125899906842624 : Int) (w64 (x122 + r123))))) (SetAt.here _ _) (by rfl) (map_set _ _ _ _) (by rfl) (by rfl) (ot 102 (.ptr 101000 (r22.toNat * 1) [r22.toNat])) (ot 101 (i6 (minI (1125899906842624 : Int) (w64 (x122 + r123))))))
          (OpJs.nil))))))))))))))) (by kernel_rfl) (by rfl) (by rfl) ?_
        exact hjj33 _ h _ _ (Mat.trans (mp [] [(9, (.ptr 1009 0 [])), (10, (i6 r3.1)), (14, (i6 r21.1)), (15, (i6 r21.2)), (17, (.ptr 1017 0 []))] [(1009, some (.box 30 (.d (e_api_Series r2.1)))), (1017, some (.box 30 (.st [(i6 r23.fPort), (i6 r23.fSeconds), (.sref 101000 1 0 r23.fIn.length), (.d (.list 1 (r23.fOut.map (eI .i64))))]))), (101000, some (.row 3 1 ((r23.fIn.set r22.toNat (minI (1125899906842624 : Int) (w64 (x122 + r123)))).map (eI .i64))))] hB) (Mat.trans (Mat.lenP (Ts := []) (Bs := [(1017, some (.box 30 (.st [(i6 r23.fPort), (i6 r23.fSeconds), (.sref 101000 1 0 ((r23.fIn.set r22.toNat (minI (1125899906842624 : Int) (w64 (x122 + r123)))).length)), (.d (.list 1 (r23.fOut.map (eI .i64))))])))]) TwT.nil (TwB.cons (x := (.st [(i6 r23.fPort), (i6 r23.fSeconds), (.sref 101000 1 0 r23.fIn.length), (.d (.list 1 (r23.fOut.map (eI .i64))))])) (by rfl) (Tw.st (TwL.cons (Tw.same _) (TwL.cons (Tw.same _) (TwL.cons (Tw.leaf ⟨_, _, _, _, _, rfl, rfl, (by first | rfl | (simp; done) | (simp; omega))⟩) (TwL.cons (Tw.same _) TwL.nil))))) TwB.nil)) (mp [] ((fun m32 : (List Int) => ([(9, (.ptr 1009 0 [])), (10, (i6 r3.1)), (14, (i6 r21.1)), (15, (i6 r21.2)), (17, (.ptr 1017 0 []))] : EL)) (r23.fIn.set r22.toNat (minI (1125899906842624 : Int) (w64 (x122 + r123))))) ((fun m32 : (List Int) => ([(1009, some (.box 30 (.d (e_api_Series r2.1)))), (1017, some (.box 30 (.st [(i6 r23.fPort), (i6 r23.fSeconds), (.sref 101000 1 0 m32.length), (.d (.list 1 (r23.fOut.map (eI .i64))))]))), (101000, some (.row 3 1 (m32.map (eI .i64))))] : OL)) (r23.fIn.set r22.toNat (minI (1125899906842624 : Int) (w64 (x122 + r123))))) hB)))
      · replace h := ite_f hg120 h
        refine AWp.skip ?_
        exact hjj33 _ h _ _ (mp [] ((fun m32 : (List Int) => ([(9, (.ptr 1009 0 [])), (10, (i6 r3.1)), (14, (i6 r21.1)), (15, (i6 r21.2)), (17, (.ptr 1017 0 []))] : EL)) r23.fIn) ((fun m32 : (List Int) => ([(1009, some (.box 30 (.d (e_api_Series r2.1)))), (1017, some (.box 30 (.st [(i6 r23.fPort), (i6 r23.fSeconds), (.sref 101000 1 0 m32.length), (.d (.list 1 (r23.fOut.map (eI .i64))))]))), (101000, some (.row 3 1 (m32.map (eI .i64))))] : OL)) r23.fIn) hB)


end Go.Proofs.Ytgbfjigliajbkaa
