/- Printed by gen.py: the Go functions as plain functions, and that the code does what they say. -/
import Derived.Test.YtgbfjigliajbkaaChecked
import Derived.Test.YtgbfjigliajbkaaVcY
import Derived.KernelRfl
import Derived.Test.YtgbfjigliajbkaaFnsC
import Derived.Test.YtgbfjigliajbkaaExt
namespace Go.Proofs.Ytgbfjigliajbkaa
open Go Go.Vc
noncomputable def exchangepointref40_Merge_L0 (a0 : api_Series) (a1 : api_Series) (s10 : Int × (List Int) × (List Int)) : Option (((Unit) ⊕ ((List Int) × (List Int))) ⊕ (Int × (List Int) × (List Int))) :=
  (if (decide (s10.1 < (a1.fIn.length : Int))) = true then
  (idx a1.fIn s10.1).bind fun x118 =>
  jn (fun m143 : (List Int) × (List Int) =>
  some (.inr ((w64 (s10.1 + (1 : Int))), m143.1, m143.2))) (fun j144 =>
  (if (x118 == (-1 : Int)) = true then
  j144 (s10.2.1, s10.2.2)
  else
  (idx a0.fIn s10.1).bind fun x146 =>
  (if (x146 == (-1 : Int)) = true then
  (idx a1.fIn s10.1).bind fun x148 =>
  (idx a1.fOut s10.1).bind fun x149 =>
  (idx s10.2.2 s10.1).bind fun x150 =>
  (idx s10.2.2 s10.1).bind fun x151 =>
  (idx s10.2.1 s10.1).bind fun x152 =>
  (idx s10.2.1 s10.1).bind fun x153 =>
  j144 ((s10.2.1.set s10.1.toNat x149), (s10.2.2.set s10.1.toNat x148))
  else
  jn (fun m161 : Bool =>
  (if m161 = true then
  some (.inl (.inl ()))
  else
  j144 (s10.2.1, s10.2.2))) (fun j162 =>
  (idx a0.fIn s10.1).bind fun x164 =>
  (idx a1.fIn s10.1).bind fun x165 =>
  (if (x164 != x165) = true then
  j162 true
  else
  (idx a0.fOut s10.1).bind fun x167 =>
  (idx a1.fOut s10.1).bind fun x168 =>
  j162 (x167 != x168))))))
  else
  some (.inl (.inr (s10.2.1, s10.2.2))))
noncomputable def exchangepointref40_Merge (a0 : api_Series) (a1 : api_Series) : Option (api_Series × Int) :=
  jn (fun m5 : Bool =>
  (if m5 = true then
  some ((api_Series.mk (0 : Int) (0 : Int) ([] : List Int) ([] : List Int)), (1 : Int))
  else
  (if (((a0.fPort != a1.fPort) || (a0.fSeconds != a1.fSeconds)) || ((a0.fIn.length : Int) != (a1.fIn.length : Int))) = true then
  some ((api_Series.mk (0 : Int) (0 : Int) ([] : List Int) ([] : List Int)), (7 : Int))
  else
  (exchangepointref40_Copy_3 a0).bind fun r9 =>
  (loop (exchangepointref40_Merge_L0 a0 a1) ((0 : Int), r9.fOut, r9.fIn)).bind fun x169 => match x169 with
  | (.inl _) =>
    some ((api_Series.mk (0 : Int) (0 : Int) ([] : List Int) ([] : List Int)), (8 : Int))
  | (.inr p116) =>
    some ((api_Series.mk r9.fPort r9.fSeconds p116.2 p116.1), (0 : Int))))) (fun j6 =>
  (exchangepointref40_Valid a0).bind fun r171 =>
  (if (!r171) = true then
  j6 true
  else
  (exchangepointref40_Valid a1).bind fun r173 =>
  j6 (!r173)))
set_option maxHeartbeats 4000000 in
set_option maxRecDepth 100000 in
theorem exchangepointref40_Merge_ac (a0 : api_Series) (a1 : api_Series) (r : api_Series × Int) (h : exchangepointref40_Merge a0 a1 = some r) : AC Try.prog 27 [(.d (e_api_Series a0)), (.d (e_api_Series a1))] [] (.tup [(.d (e_api_Series r.1)), (.d (.int .i64 r.2))]) [] := by
  refine AC.of_code2 Try.func27 rfl rfl (Nat.le_of_ble_eq_true (by rfl)) fun B hB hN => ?_
  delta exchangepointref40_Merge at h
  refine AWp.seq ?_
  refine AWp.region (oc (OpJ.box hB (nm := 1002) (by decide) (by simp) rfl (ltN hN rfl) (ot 0 (.d (e_api_Series a0))))
  (oc (OpJ.box hB (nm := 1003) (by decide) (by simp) rfl (ltN hN rfl) (ot 1 (.d (e_api_Series a1))))
  (oc (OpJ.alloc hB tyZ30 (nm := 1004) (by decide) (ltN hN rfl))
  (oc (OpJ.assign (ltN hN rfl) (Opd.int .i64 (0)))
  (OpJs.nil))))) (by rfl) (by rfl) ?_
  refine seqQ_n ?_
  refine AWp.ghost (mp [] [(2, (.ptr 1002 0 [])), (3, (.ptr 1003 0 [])), (4, (.ptr 1004 0 []))] [(1002, some (.box 30 (.d (e_api_Series a0)))), (1003, some (.box 30 (.d (e_api_Series a1)))), (1004, some (.box 30 (.st [(i6 (0 : Int)), (i6 (0 : Int)), .nils, .nils])))] hB) ?_
  refine AWp.seq ?_
  refine AWp.seq ?_
  refine AWp.cut h (fun m5 : Bool => ([(2, (.ptr 1002 0 [])), (3, (.ptr 1003 0 [])), (4, (.ptr 1004 0 [])), (15, (bo m5))] : EL)) (fun m5 : Bool => ([(1002, some (.box 30 (.d (e_api_Series a0)))), (1003, some (.box 30 (.d (e_api_Series a1)))), (1004, some (.box 30 (.st [(i6 (0 : Int)), (i6 (0 : Int)), .nils, .nils])))] : OL)) (fun m5 h E' O' hmat => ?_) (fun j6 hjj6 h => ?_)
  · refine seqQ_n ?_
    refine AWp.ghost hmat ?_
    refine AWp.cond (b := m5) (by rfl) (fun hg7 => ?_) (fun hg7 => ?_)
    · replace h := ite_t hg7 h
      refine AWp.seq ?_
      refine AWp.region (oc (OpJ.build (places := [(0, 1), (1, 1), (2, 1), (3, 1)]) ⟨Try.underlying30, fun w => by kernel_rfl⟩ tyZS30 Opds.nil (by kernel_rfl) (r := (.st [(i6 (0 : Int)), (i6 (0 : Int)), .nils, .nils])) (by rfl) (ltN hN rfl))
        (oc (OpJ.storeB (bt := 30) (c := (.st [(i6 (0 : Int)), (i6 (0 : Int)), .nils, .nils])) (v := (.st [(i6 (0 : Int)), (i6 (0 : Int)), .nils, .nils])) (c' := (.st [(i6 (0 : Int)), (i6 (0 : Int)), .nils, .nils])) tyS30 (SetAt.here _ _) (by rfl) (by rfl) (by simp) rfl (ot 4 (.ptr 1004 0 [])) (ot 16 (.st [(i6 (0 : Int)), (i6 (0 : Int)), .nils, .nils])))
        (oc (OpJ.assign (ltN hN rfl) (Opd.int .i64 (1)))
        (OpJs.nil)))) (by rfl) (by rfl) ?_
      refine seqQ_n ?_
      refine AWp.ghost (mp [] [(4, (.ptr 1004 0 [])), (5, (i6 (1 : Int)))] [(1004, some (.box 30 (.st [(i6 (0 : Int)), (i6 (0 : Int)), .nils, .nils])))] hB) ?_
      refine AWp.ret ?_
      refine seqQ_r ?_
      obtain rfl := Option.some.inj h
      exact ⟨.inl rfl, _, _, (Mat.trans (Mat.coeP (Ts := []) (Bs := [(1004, some (.box 30 (.d (.st [(.int .i64 (0 : Int)), (.int .i64 (0 : Int)), (.list 1 (([] : List Int).map (eI .i64))), (.list 1 (([] : List Int).map (eI .i64)))]))))]) TwT.nil (TwB.cons (x := (.st [(i6 (0 : Int)), (i6 (0 : Int)), .nils, .nils])) (by rfl) (Tw.leaf ⟨_, (Co.st (CoL.cons (Co.d _) (CoL.cons (Co.d _) (CoL.cons (Co.nils 1) (CoL.cons (Co.nils 1) CoL.nil))))), rfl⟩) TwB.nil)) (mp [] [(4, (.ptr 1004 0 [])), (5, (i6 (1 : Int)))] [(1004, some (.box 30 (.d (.st [(.int .i64 (0 : Int)), (.int .i64 (0 : Int)), (.list 1 (([] : List Int).map (eI .i64))), (.list 1 (([] : List Int).map (eI .i64)))]))))] hB)), [(.d (.st [(.int .i64 (0 : Int)), (.int .i64 (0 : Int)), (.list 1 (([] : List Int).map (eI .i64))), (.list 1 (([] : List Int).map (eI .i64)))])), (i6 (1 : Int))], (Res.cell (c := (.d (.st [(.int .i64 (0 : Int)), (.int .i64 (0 : Int)), (.list 1 (([] : List Int).map (eI .i64))), (.list 1 (([] : List Int).map (eI .i64)))]))) (by rfl) (by rfl) tyS30 (by rfl) (by rfl) (by rfl) (Res.tmp (by rfl) (by rfl) Res.nil)), rfl, by rfl, by rfl, by rfl⟩
    · replace h := ite_f hg7 h
      refine AWp.skip ?_
      refine seqQ_n ?_
      refine AWp.seq ?_
      refine AWp.seq ?_
      refine AWp.region (oc (ov (.ptr 1002 0 [0]) (fp hN Try.underlying30 0 tyS3 (.box 30 (.d (e_api_Series a0))) (ot 2 (.ptr 1002 0 []))))
        (oc (lb hN 30 (.d (e_api_Series a0)) (i6 a0.fPort) tyS3 (ad (.int .i64 a0.fPort)) (ot 17 (.ptr 1002 0 [0])))
        (oc (ov (.ptr 1003 0 [0]) (fp hN Try.underlying30 0 tyS3 (.box 30 (.d (e_api_Series a1))) (ot 3 (.ptr 1003 0 []))))
        (oc (lb hN 30 (.d (e_api_Series a1)) (i6 a1.fPort) tyS3 (ad (.int .i64 a1.fPort)) (ot 19 (.ptr 1003 0 [0])))
        (oc (OpJ.neqI (ltN hN rfl) (ot 18 (i6 a0.fPort)) (ot 20 (i6 a1.fPort)))
        (oc (mv hN (ot 21 (bo (a0.fPort != a1.fPort))))
        (oc (op hN (.ptr 1002 1 [1]) (ov (.ptr 1002 1 [1]) (fp hN Try.underlying30 1 tyS3 (.box 30 (.d (e_api_Series a0))) (ot 2 (.ptr 1002 0 [])))) (OptL.keep rfl OptL.nil) (GuardV.plain _))
        (oc (op hN (i6 a0.fSeconds) (lb hN 30 (.d (e_api_Series a0)) (i6 a0.fSeconds) tyS3 (ad (.int .i64 a0.fSeconds)) (ot 23 (.ptr 1002 1 [1]))) (OptL.opt OptL.nil) (GuardV.plain _))
        (oc (op hN (.ptr 1003 1 [1]) (ov (.ptr 1003 1 [1]) (fp hN Try.underlying30 1 tyS3 (.box 30 (.d (e_api_Series a1))) (ot 3 (.ptr 1003 0 [])))) (OptL.keep rfl OptL.nil) (GuardV.plain _))
        (oc (op hN (i6 a1.fSeconds) (lb hN 30 (.d (e_api_Series a1)) (i6 a1.fSeconds) tyS3 (ad (.int .i64 a1.fSeconds)) (ot 25 (.ptr 1003 1 [1]))) (OptL.opt OptL.nil) (GuardV.plain _))
        (oc (op hN (bo (a0.fSeconds != a1.fSeconds)) (OpJ.neqI (ltN hN rfl) (ot 24 (i6 a0.fSeconds)) (ot 26 (i6 a1.fSeconds))) (OptL.opt (OptL.opt OptL.nil)) (GuardV.plain _))
        (oc (OpJ.pickOr rfl (ltN hN rfl) (ot 22 (bo (a0.fPort != a1.fPort))) (ot 27 (.opt ((a0.fPort != a1.fPort) == false) (bo (a0.fSeconds != a1.fSeconds)))))
        (oc (mv hN (ot 28 (bo ((a0.fPort != a1.fPort) || (a0.fSeconds != a1.fSeconds)))))
        (oc (op hN (.ptr 1002 2 [2]) (ov (.ptr 1002 2 [2]) (fp hN Try.underlying30 2 tyS22 (.box 30 (.d (e_api_Series a0))) (ot 2 (.ptr 1002 0 [])))) (OptL.keep rfl OptL.nil) (GuardV.plain _))
        (oc (op hN (.d (.list 1 (a0.fIn.map (eI .i64)))) (lb hN 30 (.d (e_api_Series a0)) (.d (.list 1 (a0.fIn.map (eI .i64)))) tyS22 (ad (.list 1 (a0.fIn.map (eI .i64)))) (ot 30 (.ptr 1002 2 [2]))) (OptL.opt OptL.nil) (GuardV.plain _))
        (oc (op hN (i6 (a0.fIn.length : Int)) (OpJ.val (v' := (i6 (a0.fIn.length : Int))) (by simp) (OpJ.lenD Try.underlying22 (ltN hN rfl) (ot 31 (.d (.list 1 (a0.fIn.map (eI .i64))))))) (OptL.opt OptL.nil) (GuardV.plain _))
        (oc (op hN (.ptr 1003 2 [2]) (ov (.ptr 1003 2 [2]) (fp hN Try.underlying30 2 tyS22 (.box 30 (.d (e_api_Series a1))) (ot 3 (.ptr 1003 0 [])))) (OptL.keep rfl OptL.nil) (GuardV.plain _))
        (oc (op hN (.d (.list 1 (a1.fIn.map (eI .i64)))) (lb hN 30 (.d (e_api_Series a1)) (.d (.list 1 (a1.fIn.map (eI .i64)))) tyS22 (ad (.list 1 (a1.fIn.map (eI .i64)))) (ot 33 (.ptr 1003 2 [2]))) (OptL.opt OptL.nil) (GuardV.plain _))
        (oc (op hN (i6 (a1.fIn.length : Int)) (OpJ.val (v' := (i6 (a1.fIn.length : Int))) (by simp) (OpJ.lenD Try.underlying22 (ltN hN rfl) (ot 34 (.d (.list 1 (a1.fIn.map (eI .i64))))))) (OptL.opt OptL.nil) (GuardV.plain _))
        (oc (op hN (bo ((a0.fIn.length : Int) != (a1.fIn.length : Int))) (OpJ.neqI (ltN hN rfl) (ot 32 (i6 (a0.fIn.length : Int))) (ot 35 (i6 (a1.fIn.length : Int)))) (OptL.opt (OptL.opt OptL.nil)) (GuardV.plain _))
        (oc (OpJ.pickOr rfl (ltN hN rfl) (ot 29 (bo ((a0.fPort != a1.fPort) || (a0.fSeconds != a1.fSeconds)))) (ot 36 (.opt (((a0.fPort != a1.fPort) || (a0.fSeconds != a1.fSeconds)) == false) (bo ((a0.fIn.length : Int) != (a1.fIn.length : Int))))))
        (OpJs.nil)))))))))))))))))))))) (by rfl) (by rfl) ?_
      refine seqQ_n ?_
      refine AWp.ghost (mp [] [(2, (.ptr 1002 0 [])), (3, (.ptr 1003 0 [])), (4, (.ptr 1004 0 [])), (37, (bo (((a0.fPort != a1.fPort) || (a0.fSeconds != a1.fSeconds)) || ((a0.fIn.length : Int) != (a1.fIn.length : Int)))))] [(1002, some (.box 30 (.d (e_api_Series a0)))), (1003, some (.box 30 (.d (e_api_Series a1)))), (1004, some (.box 30 (.st [(i6 (0 : Int)), (i6 (0 : Int)), .nils, .nils])))] hB) ?_
      refine AWp.cond (b := (((a0.fPort != a1.fPort) || (a0.fSeconds != a1.fSeconds)) || ((a0.fIn.length : Int) != (a1.fIn.length : Int)))) (by rfl) (fun hg8 => ?_) (fun hg8 => ?_)
      · replace h := ite_t hg8 h
        refine AWp.seq ?_
        refine AWp.region (oc (OpJ.build (places := [(0, 1), (1, 1), (2, 1), (3, 1)]) ⟨Try.underlying30, fun w => by kernel_rfl⟩ tyZS30 Opds.nil (by kernel_rfl) (r := (.st [(i6 (0 : Int)), (i6 (0 : Int)), .nils, .nils])) (by rfl) (ltN hN rfl))
          (oc (OpJ.storeB (bt := 30) (c := (.st [(i6 (0 : Int)), (i6 (0 : Int)), .nils, .nils])) (v := (.st [(i6 (0 : Int)), (i6 (0 : Int)), .nils, .nils])) (c' := (.st [(i6 (0 : Int)), (i6 (0 : Int)), .nils, .nils])) tyS30 (SetAt.here _ _) (by rfl) (by rfl) (by simp) rfl (ot 4 (.ptr 1004 0 [])) (ot 38 (.st [(i6 (0 : Int)), (i6 (0 : Int)), .nils, .nils])))
          (oc (OpJ.assign (ltN hN rfl) (Opd.int .i64 (7)))
          (OpJs.nil)))) (by rfl) (by rfl) ?_
        refine seqQ_n ?_
        refine AWp.ghost (mp [] [(4, (.ptr 1004 0 [])), (5, (i6 (7 : Int)))] [(1004, some (.box 30 (.st [(i6 (0 : Int)), (i6 (0 : Int)), .nils, .nils])))] hB) ?_
        refine AWp.ret ?_
        refine seqQ_r ?_
        obtain rfl := Option.some.inj h
        exact ⟨.inl rfl, _, _, (Mat.trans (Mat.coeP (Ts := []) (Bs := [(1004, some (.box 30 (.d (.st [(.int .i64 (0 : Int)), (.int .i64 (0 : Int)), (.list 1 (([] : List Int).map (eI .i64))), (.list 1 (([] : List Int).map (eI .i64)))]))))]) TwT.nil (TwB.cons (x := (.st [(i6 (0 : Int)), (i6 (0 : Int)), .nils, .nils])) (by rfl) (Tw.leaf ⟨_, (Co.st (CoL.cons (Co.d _) (CoL.cons (Co.d _) (CoL.cons (Co.nils 1) (CoL.cons (Co.nils 1) CoL.nil))))), rfl⟩) TwB.nil)) (mp [] [(4, (.ptr 1004 0 [])), (5, (i6 (7 : Int)))] [(1004, some (.box 30 (.d (.st [(.int .i64 (0 : Int)), (.int .i64 (0 : Int)), (.list 1 (([] : List Int).map (eI .i64))), (.list 1 (([] : List Int).map (eI .i64)))]))))] hB)), [(.d (.st [(.int .i64 (0 : Int)), (.int .i64 (0 : Int)), (.list 1 (([] : List Int).map (eI .i64))), (.list 1 (([] : List Int).map (eI .i64)))])), (i6 (7 : Int))], (Res.cell (c := (.d (.st [(.int .i64 (0 : Int)), (.int .i64 (0 : Int)), (.list 1 (([] : List Int).map (eI .i64))), (.list 1 (([] : List Int).map (eI .i64)))]))) (by rfl) (by rfl) tyS30 (by rfl) (by rfl) (by rfl) (Res.tmp (by rfl) (by rfl) Res.nil)), rfl, by rfl, by rfl, by rfl⟩
      · replace h := ite_f hg8 h
        refine AWp.skip ?_
        refine seqQ_n ?_
        refine AWp.seq ?_
        obtain ⟨r9, hr9, h⟩ := bindS h
        refine AWp.region (oc (lb hN 30 (.d (e_api_Series a0)) (.d (e_api_Series a0)) tyS30 (At.here _) (ot 2 (.ptr 1002 0 [])))
          (oc (OpJ.callFn hB fnOk13 (exchangepointref40_Copy_3_ac a0 r9 hr9) [(900000, 100200), (900001, 100201)] (by kernel_rfl) (ltN hN rfl) (by kernel_rfl) (OpdL.cons (ot 39 (.d (e_api_Series a0))) OpdL.nil))
          (oc (OpJ.alloc hB tyZ30 (nm := 1006) (by decide) (ltN hN rfl))
          (oc (OpJ.storeB (bt := 30) (c := (.st [(i6 (0 : Int)), (i6 (0 : Int)), .nils, .nils])) (v := (.st [(i6 r9.fPort), (i6 r9.fSeconds), (.sref 100200 1 0 r9.fIn.length), (.sref 100201 1 0 r9.fOut.length)])) (c' := (.st [(i6 r9.fPort), (i6 r9.fSeconds), (.sref 100200 1 0 r9.fIn.length), (.sref 100201 1 0 r9.fOut.length)])) tyS30 (SetAt.here _ _) (by rfl) (by rfl) (by simp) rfl (ot 6 (.ptr 1006 0 [])) (ot 40 (.st [(i6 r9.fPort), (i6 r9.fSeconds), (.sref 100200 1 0 r9.fIn.length), (.sref 100201 1 0 r9.fOut.length)])))
          (OpJs.nil))))) (by rfl) (by rfl) ?_
        refine seqQ_n ?_
        refine AWp.ghost (mp [] [(2, (.ptr 1002 0 [])), (3, (.ptr 1003 0 [])), (4, (.ptr 1004 0 [])), (6, (.ptr 1006 0 []))] [(1002, some (.box 30 (.d (e_api_Series a0)))), (1003, some (.box 30 (.d (e_api_Series a1)))), (1004, some (.box 30 (.st [(i6 (0 : Int)), (i6 (0 : Int)), .nils, .nils]))), (1006, some (.box 30 (.st [(i6 r9.fPort), (i6 r9.fSeconds), (.sref 100200 1 0 r9.fIn.length), (.sref 100201 1 0 r9.fOut.length)]))), (100200, some (.row 3 1 (r9.fIn.map (eI .i64)))), (100201, some (.row 3 1 (r9.fOut.map (eI .i64))))] hB) ?_
        refine AWp.seq ?_
        refine AWp.seq ?_
        refine AWp.region (oc (ov (.ptr 1003 2 [2]) (fp hN Try.underlying30 2 tyS22 (.box 30 (.d (e_api_Series a1))) (ot 3 (.ptr 1003 0 []))))
          (oc (lb hN 30 (.d (e_api_Series a1)) (.d (.list 1 (a1.fIn.map (eI .i64)))) tyS22 (ad (.list 1 (a1.fIn.map (eI .i64)))) (ot 41 (.ptr 1003 2 [2])))
          (oc (OpJ.val (v' := (i6 (a1.fIn.length : Int))) (by simp) (OpJ.lenD Try.underlying22 (ltN hN rfl) (ot 42 (.d (.list 1 (a1.fIn.map (eI .i64)))))))
          (oc (mv hN (Opd.int .i64 (0)))
          (OpJs.nil))))) (by rfl) (by rfl) ?_
        refine seqQ_n ?_
        refine AWp.ghost (mp [] [(2, (.ptr 1002 0 [])), (3, (.ptr 1003 0 [])), (4, (.ptr 1004 0 [])), (6, (.ptr 1006 0 [])), (43, (i6 (a1.fIn.length : Int))), (44, (i6 (0 : Int)))] [(1002, some (.box 30 (.d (e_api_Series a0)))), (1003, some (.box 30 (.d (e_api_Series a1)))), (1004, some (.box 30 (.st [(i6 (0 : Int)), (i6 (0 : Int)), .nils, .nils]))), (1006, some (.box 30 (.st [(i6 r9.fPort), (i6 r9.fSeconds), (.sref 100200 1 0 r9.fIn.length), (.sref 100201 1 0 r9.fOut.length)]))), (100200, some (.row 3 1 (r9.fIn.map (eI .i64)))), (100201, some (.row 3 1 (r9.fOut.map (eI .i64))))] hB) ?_
        refine AWp.block ?_
        obtain ⟨x169, hx170, h⟩ := bindS h
        refine AWp.ghost (mp [] ((fun s10 : Int × (List Int) × (List Int) => ([(2, (.ptr 1002 0 [])), (3, (.ptr 1003 0 [])), (4, (.ptr 1004 0 [])), (6, (.ptr 1006 0 [])), (43, (i6 (a1.fIn.length : Int))), (44, (i6 s10.1))] : EL)) ((0 : Int), r9.fOut, r9.fIn)) ((fun s10 : Int × (List Int) × (List Int) => ([(1002, some (.box 30 (.d (e_api_Series a0)))), (1003, some (.box 30 (.d (e_api_Series a1)))), (1004, some (.box 30 (.st [(i6 (0 : Int)), (i6 (0 : Int)), .nils, .nils]))), (1006, some (.box 30 (.st [(i6 r9.fPort), (i6 r9.fSeconds), (.sref 100200 1 0 s10.2.2.length), (.sref 100201 1 0 s10.2.1.length)]))), (100200, some (.row 3 1 (s10.2.2.map (eI .i64)))), (100201, some (.row 3 1 (s10.2.1.map (eI .i64))))] : OL)) ((0 : Int), r9.fOut, r9.fIn)) hB) ?_
        refine AWp.loopS (exchangepointref40_Merge_L0 a0 a1) (fun s10 : Int × (List Int) × (List Int) => ([(2, (.ptr 1002 0 [])), (3, (.ptr 1003 0 [])), (4, (.ptr 1004 0 [])), (6, (.ptr 1006 0 [])), (43, (i6 (a1.fIn.length : Int))), (44, (i6 s10.1))] : EL)) (fun s10 : Int × (List Int) × (List Int) => ([(1002, some (.box 30 (.d (e_api_Series a0)))), (1003, some (.box 30 (.d (e_api_Series a1)))), (1004, some (.box 30 (.st [(i6 (0 : Int)), (i6 (0 : Int)), .nils, .nils]))), (1006, some (.box 30 (.st [(i6 r9.fPort), (i6 r9.fSeconds), (.sref 100200 1 0 s10.2.2.length), (.sref 100201 1 0 s10.2.1.length)]))), (100200, some (.row 3 1 (s10.2.2.map (eI .i64)))), (100201, some (.row 3 1 (s10.2.1.map (eI .i64))))] : OL)) (fun (x : (Unit) ⊕ ((List Int) × (List Int))) e E' O' => match x with | (.inl _p) => e = .ret ∧ Mat B E' O' ([(4, (.ptr 1004 0 [])), (5, (i6 (8 : Int)))] : EL) ([(1004, some (.box 30 (.st [(i6 (0 : Int)), (i6 (0 : Int)), .nils, .nils])))] : OL) | (.inr p116) => e = .exit 0 ∧ Mat B E' O' ([(4, (.ptr 1004 0 [])), (6, (.ptr 1006 0 []))] : EL) ([(1004, some (.box 30 (.st [(i6 (0 : Int)), (i6 (0 : Int)), .nils, .nils]))), (1006, some (.box 30 (.st [(i6 r9.fPort), (i6 r9.fSeconds), (.sref 100200 1 0 p116.2.length), (.sref 100201 1 0 p116.1.length)]))), (100200, some (.row 3 1 (p116.2.map (eI .i64)))), (100201, some (.row 3 1 (p116.1.map (eI .i64))))] : OL)) hx170 (fun s10 y h => ?_) (fun e E' O' hR => ?_)
        · unfold exchangepointref40_Merge_L0 at h
          show AWp _ _ _ _ ([(2, (.ptr 1002 0 [])), (3, (.ptr 1003 0 [])), (4, (.ptr 1004 0 [])), (6, (.ptr 1006 0 [])), (43, (i6 (a1.fIn.length : Int))), (44, (i6 s10.1))] : EL) ([(1002, some (.box 30 (.d (e_api_Series a0)))), (1003, some (.box 30 (.d (e_api_Series a1)))), (1004, some (.box 30 (.st [(i6 (0 : Int)), (i6 (0 : Int)), .nils, .nils]))), (1006, some (.box 30 (.st [(i6 r9.fPort), (i6 r9.fSeconds), (.sref 100200 1 0 s10.2.2.length), (.sref 100201 1 0 s10.2.1.length)]))), (100200, some (.row 3 1 (s10.2.2.map (eI .i64)))), (100201, some (.row 3 1 (s10.2.1.map (eI .i64))))] : OL)
          refine AWp.seq ?_
          refine AWp.region (oc (OpJ.lss (ltN hN rfl) (ot 44 (i6 s10.1)) (ot 43 (i6 (a1.fIn.length : Int))))
            (OpJs.nil)) (by rfl) (by rfl) ?_
          refine seqQ_n ?_
          refine AWp.ghost (mp [] [(2, (.ptr 1002 0 [])), (3, (.ptr 1003 0 [])), (4, (.ptr 1004 0 [])), (6, (.ptr 1006 0 [])), (43, (i6 (a1.fIn.length : Int))), (44, (i6 s10.1)), (45, (bo (decide (s10.1 < (a1.fIn.length : Int)))))] [(1002, some (.box 30 (.d (e_api_Series a0)))), (1003, some (.box 30 (.d (e_api_Series a1)))), (1004, some (.box 30 (.st [(i6 (0 : Int)), (i6 (0 : Int)), .nils, .nils]))), (1006, some (.box 30 (.st [(i6 r9.fPort), (i6 r9.fSeconds), (.sref 100200 1 0 s10.2.2.length), (.sref 100201 1 0 s10.2.1.length)]))), (100200, some (.row 3 1 (s10.2.2.map (eI .i64)))), (100201, some (.row 3 1 (s10.2.1.map (eI .i64))))] hB) ?_
          refine AWp.seq ?_
          refine AWp.cond (b := (decide (s10.1 < (a1.fIn.length : Int)))) (by rfl) (fun hg117 => ?_) (fun hg117 => ?_)
          · replace h := ite_t hg117 h
            refine AWp.skip ?_
            refine seqQ_n ?_
            refine AWp.seq ?_
            refine AWp.block ?_
            refine AWp.seq ?_
            refine AWp.region (oc (mv hN (ot 44 (i6 s10.1)))
              (oc (OpJ.assign (ltN hN rfl) (ot 46 (i6 s10.1)))
              (OpJs.nil))) (by rfl) (by rfl) ?_
            refine seqQ_n ?_
            refine AWp.ghost (mp [] [(2, (.ptr 1002 0 [])), (3, (.ptr 1003 0 [])), (4, (.ptr 1004 0 [])), (6, (.ptr 1006 0 [])), (7, (i6 s10.1)), (43, (i6 (a1.fIn.length : Int))), (44, (i6 s10.1))] [(1002, some (.box 30 (.d (e_api_Series a0)))), (1003, some (.box 30 (.d (e_api_Series a1)))), (1004, some (.box 30 (.st [(i6 (0 : Int)), (i6 (0 : Int)), .nils, .nils]))), (1006, some (.box 30 (.st [(i6 r9.fPort), (i6 r9.fSeconds), (.sref 100200 1 0 s10.2.2.length), (.sref 100201 1 0 s10.2.1.length)]))), (100200, some (.row 3 1 (s10.2.2.map (eI .i64)))), (100201, some (.row 3 1 (s10.2.1.map (eI .i64))))] hB) ?_
            refine AWp.block ?_
            refine AWp.seq ?_
            obtain ⟨x118, hx118, h⟩ := bindS h
            refine AWp.region (oc (ov (.ptr 1003 2 [2]) (fp hN Try.underlying30 2 tyS22 (.box 30 (.d (e_api_Series a1))) (ot 3 (.ptr 1003 0 []))))
              (oc (lb hN 30 (.d (e_api_Series a1)) (.d (.list 1 (a1.fIn.map (eI .i64)))) tyS22 (ad (.list 1 (a1.fIn.map (eI .i64)))) (ot 48 (.ptr 1003 2 [2])))
              (oc (mv hN (ot 7 (i6 s10.1)))
              (oc (OpJ.indexD (el := (.int .i64 x118)) Try.underlying22 tyS3 (idx_some hx118).1 (get_map (eI .i64) (idx_some hx118).2) (ltN hN rfl) (ot 49 (.d (.list 1 (a1.fIn.map (eI .i64))))) (ot 50 (i6 s10.1)))
              (oc (OpJ.loadD tyS3 (by rfl) (by rfl) (ltN hN rfl) (ot 51 (.dptr (.int .i64 x118))))
              (oc (OpJ.eqlI (ltN hN rfl) (ot 52 (i6 x118)) (Opd.int .i64 (-1)))
              (oc (OpJ.assign (ltN hN rfl) (ot 53 (bo (x118 == (-1 : Int)))))
              (OpJs.nil)))))))) (by rfl) (by rfl) ?_
            refine seqQ_n ?_
            refine AWp.ghost (mp [] [(2, (.ptr 1002 0 [])), (3, (.ptr 1003 0 [])), (4, (.ptr 1004 0 [])), (6, (.ptr 1006 0 [])), (7, (i6 s10.1)), (43, (i6 (a1.fIn.length : Int))), (44, (i6 s10.1)), (47, (bo (x118 == (-1 : Int))))] [(1002, some (.box 30 (.d (e_api_Series a0)))), (1003, some (.box 30 (.d (e_api_Series a1)))), (1004, some (.box 30 (.st [(i6 (0 : Int)), (i6 (0 : Int)), .nils, .nils]))), (1006, some (.box 30 (.st [(i6 r9.fPort), (i6 r9.fSeconds), (.sref 100200 1 0 s10.2.2.length), (.sref 100201 1 0 s10.2.1.length)]))), (100200, some (.row 3 1 (s10.2.2.map (eI .i64)))), (100201, some (.row 3 1 (s10.2.1.map (eI .i64))))] hB) ?_
            refine AWp.cut h (fun m143 : (List Int) × (List Int) => ([(2, (.ptr 1002 0 [])), (3, (.ptr 1003 0 [])), (4, (.ptr 1004 0 [])), (6, (.ptr 1006 0 [])), (43, (i6 (a1.fIn.length : Int))), (44, (i6 s10.1))] : EL)) (fun m143 : (List Int) × (List Int) => ([(1002, some (.box 30 (.d (e_api_Series a0)))), (1003, some (.box 30 (.d (e_api_Series a1)))), (1004, some (.box 30 (.st [(i6 (0 : Int)), (i6 (0 : Int)), .nils, .nils]))), (1006, some (.box 30 (.st [(i6 r9.fPort), (i6 r9.fSeconds), (.sref 100200 1 0 m143.2.length), (.sref 100201 1 0 m143.1.length)]))), (100200, some (.row 3 1 (m143.2.map (eI .i64)))), (100201, some (.row 3 1 (m143.1.map (eI .i64))))] : OL)) (fun m143 h E' O' hmat => ?_) (fun j144 hjj144 h => ?_)
            · refine blkQ_n ?_
              refine blkQ_n ?_
              refine seqQ_n ?_
              refine AWp.ghost hmat ?_
              refine AWp.region (oc (OpJ.add (ltN hN rfl) (ot 44 (i6 s10.1)) (Opd.int .i64 (1)))
                (oc (mv hN (ot 105 (i6 (w64 (s10.1 + (1 : Int))))))
                (OpJs.nil))) (by rfl) (by rfl) ?_
              obtain rfl := Option.some.inj h
              exact ⟨rfl, (Mat.trans (mp [] [(2, (.ptr 1002 0 [])), (3, (.ptr 1003 0 [])), (4, (.ptr 1004 0 [])), (6, (.ptr 1006 0 [])), (43, (i6 (a1.fIn.length : Int))), (44, (i6 (w64 (s10.1 + (1 : Int)))))] [(1002, some (.box 30 (.d (e_api_Series a0)))), (1003, some (.box 30 (.d (e_api_Series a1)))), (1004, some (.box 30 (.st [(i6 (0 : Int)), (i6 (0 : Int)), .nils, .nils]))), (1006, some (.box 30 (.st [(i6 r9.fPort), (i6 r9.fSeconds), (.sref 100200 1 0 m143.2.length), (.sref 100201 1 0 m143.1.length)]))), (100200, some (.row 3 1 (m143.2.map (eI .i64)))), (100201, some (.row 3 1 (m143.1.map (eI .i64))))] hB) (mp [] ((fun s10 : Int × (List Int) × (List Int) => ([(2, (.ptr 1002 0 [])), (3, (.ptr 1003 0 [])), (4, (.ptr 1004 0 [])), (6, (.ptr 1006 0 [])), (43, (i6 (a1.fIn.length : Int))), (44, (i6 s10.1))] : EL)) ((w64 (s10.1 + (1 : Int))), m143.1, m143.2)) ((fun s10 : Int × (List Int) × (List Int) => ([(1002, some (.box 30 (.d (e_api_Series a0)))), (1003, some (.box 30 (.d (e_api_Series a1)))), (1004, some (.box 30 (.st [(i6 (0 : Int)), (i6 (0 : Int)), .nils, .nils]))), (1006, some (.box 30 (.st [(i6 r9.fPort), (i6 r9.fSeconds), (.sref 100200 1 0 s10.2.2.length), (.sref 100201 1 0 s10.2.1.length)]))), (100200, some (.row 3 1 (s10.2.2.map (eI .i64)))), (100201, some (.row 3 1 (s10.2.1.map (eI .i64))))] : OL)) ((w64 (s10.1 + (1 : Int))), m143.1, m143.2)) hB))⟩
            · refine AWp.cond (b := (x118 == (-1 : Int))) (by rfl) (fun hg145 => ?_) (fun hg145 => ?_)
              · replace h := ite_t hg145 h
                refine AWp.skip ?_
                exact hjj144 _ h _ _ (mp [] ((fun m143 : (List Int) × (List Int) => ([(2, (.ptr 1002 0 [])), (3, (.ptr 1003 0 [])), (4, (.ptr 1004 0 [])), (6, (.ptr 1006 0 [])), (43, (i6 (a1.fIn.length : Int))), (44, (i6 s10.1))] : EL)) (s10.2.1, s10.2.2)) ((fun m143 : (List Int) × (List Int) => ([(1002, some (.box 30 (.d (e_api_Series a0)))), (1003, some (.box 30 (.d (e_api_Series a1)))), (1004, some (.box 30 (.st [(i6 (0 : Int)), (i6 (0 : Int)), .nils, .nils]))), (1006, some (.box 30 (.st [(i6 r9.fPort), (i6 r9.fSeconds), (.sref 100200 1 0 m143.2.length), (.sref 100201 1 0 m143.1.length)]))), (100200, some (.row 3 1 (m143.2.map (eI .i64)))), (100201, some (.row 3 1 (m143.1.map (eI .i64))))] : OL)) (s10.2.1, s10.2.2)) hB)
              · replace h := ite_f hg145 h
                refine AWp.seq ?_
                obtain ⟨x146, hx146, h⟩ := bindS h
                refine AWp.region (oc (ov (.ptr 1002 2 [2]) (fp hN Try.underlying30 2 tyS22 (.box 30 (.d (e_api_Series a0))) (ot 2 (.ptr 1002 0 []))))
                  (oc (lb hN 30 (.d (e_api_Series a0)) (.d (.list 1 (a0.fIn.map (eI .i64)))) tyS22 (ad (.list 1 (a0.fIn.map (eI .i64)))) (ot 55 (.ptr 1002 2 [2])))
                  (oc (mv hN (ot 7 (i6 s10.1)))
                  (oc (OpJ.indexD (el := (.int .i64 x146)) Try.underlying22 tyS3 (idx_some hx146).1 (get_map (eI .i64) (idx_some hx146).2) (ltN hN rfl) (ot 56 (.d (.list 1 (a0.fIn.map (eI .i64))))) (ot 57 (i6 s10.1)))
                  (oc (OpJ.loadD tyS3 (by rfl) (by rfl) (ltN hN rfl) (ot 58 (.dptr (.int .i64 x146))))
                  (oc (OpJ.eqlI (ltN hN rfl) (ot 59 (i6 x146)) (Opd.int .i64 (-1)))
                  (oc (OpJ.assign (ltN hN rfl) (ot 60 (bo (x146 == (-1 : Int)))))
                  (OpJs.nil)))))))) (by rfl) (by rfl) ?_
                refine seqQ_n ?_
                refine AWp.ghost (mp [] [(2, (.ptr 1002 0 [])), (3, (.ptr 1003 0 [])), (4, (.ptr 1004 0 [])), (6, (.ptr 1006 0 [])), (7, (i6 s10.1)), (43, (i6 (a1.fIn.length : Int))), (44, (i6 s10.1)), (54, (bo (x146 == (-1 : Int))))] [(1002, some (.box 30 (.d (e_api_Series a0)))), (1003, some (.box 30 (.d (e_api_Series a1)))), (1004, some (.box 30 (.st [(i6 (0 : Int)), (i6 (0 : Int)), .nils, .nils]))), (1006, some (.box 30 (.st [(i6 r9.fPort), (i6 r9.fSeconds), (.sref 100200 1 0 s10.2.2.length), (.sref 100201 1 0 s10.2.1.length)]))), (100200, some (.row 3 1 (s10.2.2.map (eI .i64)))), (100201, some (.row 3 1 (s10.2.1.map (eI .i64))))] hB) ?_
                refine AWp.cond (b := (x146 == (-1 : Int))) (by rfl) (fun hg147 => ?_) (fun hg147 => ?_)
                · replace h := ite_t hg147 h
                  obtain ⟨x148, hx148, h⟩ := bindS h
                  obtain ⟨x149, hx149, h⟩ := bindS h
                  obtain ⟨x150, hx150, h⟩ := bindS h
                  obtain ⟨x151, hx151, h⟩ := bindS h
                  obtain ⟨x152, hx152, h⟩ := bindS h
                  obtain ⟨x153, hx153, h⟩ := bindS h
                  refine AWp.draws (by kernel_rfl) (oc (ov (.ptr 1006 2 [2]) (fp hN Try.underlying30 2 tyS22 (.box 30 (.st [(i6 r9.fPort), (i6 r9.fSeconds), (.sref 100200 1 0 s10.2.2.length), (.sref 100201 1 0 s10.2.1.length)])) (ot 6 (.ptr 1006 0 []))))
                    (oc (lb hN 30 (.st [(i6 r9.fPort), (i6 r9.fSeconds), (.sref 100200 1 0 s10.2.2.length), (.sref 100201 1 0 s10.2.1.length)]) (.sref 100200 1 0 s10.2.2.length) tyS22 (At.st1 (f := (.sref 100200 1 0 s10.2.2.length)) (by rfl) (by rfl) (At.here _) (by first | rfl | omega)) (ot 61 (.ptr 1006 2 [2])))
                    (oc (mv hN (ot 7 (i6 s10.1)))
                    (oc (ov (.ptr 1006 3 [3]) (fp hN Try.underlying30 3 tyS22 (.box 30 (.st [(i6 r9.fPort), (i6 r9.fSeconds), (.sref 100200 1 0 s10.2.2.length), (.sref 100201 1 0 s10.2.1.length)])) (ot 6 (.ptr 1006 0 []))))
                    (oc (lb hN 30 (.st [(i6 r9.fPort), (i6 r9.fSeconds), (.sref 100200 1 0 s10.2.2.length), (.sref 100201 1 0 s10.2.1.length)]) (.sref 100201 1 0 s10.2.1.length) tyS22 (At.st1 (f := (.sref 100201 1 0 s10.2.1.length)) (by rfl) (by rfl) (At.here _) (by first | rfl | omega)) (ot 64 (.ptr 1006 3 [3])))
                    (oc (mv hN (ot 7 (i6 s10.1)))
                    (oc (ov (.ptr 1003 2 [2]) (fp hN Try.underlying30 2 tyS22 (.box 30 (.d (e_api_Series a1))) (ot 3 (.ptr 1003 0 []))))
                    (oc (lb hN 30 (.d (e_api_Series a1)) (.d (.list 1 (a1.fIn.map (eI .i64)))) tyS22 (ad (.list 1 (a1.fIn.map (eI .i64)))) (ot 67 (.ptr 1003 2 [2])))
                    (oc (mv hN (ot 7 (i6 s10.1)))
                    (oc (OpJ.indexD (el := (.int .i64 x148)) Try.underlying22 tyS3 (idx_some hx148).1 (get_map (eI .i64) (idx_some hx148).2) (ltN hN rfl) (ot 68 (.d (.list 1 (a1.fIn.map (eI .i64))))) (ot 69 (i6 s10.1)))
                    (oc (OpJ.loadD tyS3 (by rfl) (by rfl) (ltN hN rfl) (ot 70 (.dptr (.int .i64 x148))))
                    (oc (ov (.ptr 1003 3 [3]) (fp hN Try.underlying30 3 tyS22 (.box 30 (.d (e_api_Series a1))) (ot 3 (.ptr 1003 0 []))))
                    (oc (lb hN 30 (.d (e_api_Series a1)) (.d (.list 1 (a1.fOut.map (eI .i64)))) tyS22 (ad (.list 1 (a1.fOut.map (eI .i64)))) (ot 72 (.ptr 1003 3 [3])))
                    (oc (mv hN (ot 7 (i6 s10.1)))
                    (oc (OpJ.indexD (el := (.int .i64 x149)) Try.underlying22 tyS3 (idx_some hx149).1 (get_map (eI .i64) (idx_some hx149).2) (ltN hN rfl) (ot 73 (.d (.list 1 (a1.fOut.map (eI .i64))))) (ot 74 (i6 s10.1)))
                    (oc (OpJ.loadD tyS3 (by rfl) (by rfl) (ltN hN rfl) (ot 75 (.dptr (.int .i64 x149))))
                    (oc (OpJ.val (v' := (.ptr 100200 (s10.1.toNat * 1) [s10.1.toNat])) (by simp) (OpJ.indexS Try.underlying22 tyS3 (obj := (.row 3 1 (s10.2.2.map (eI .i64)))) (idx_some hx150).1 (by have := idx_lt hx150; first | (simpa using this) | ((try simp only [List.length_map] at this); (try simp only [List.length_map]); omega)) (ltN hN rfl) (ot 62 (.sref 100200 1 0 s10.2.2.length)) (ot 63 (i6 s10.1))))
                    (oc (OpJ.storeR (e := 3) (sz := 1) (es := s10.2.2.map (eI .i64)) (es' := (s10.2.2.set s10.1.toNat x148).map (eI .i64)) tyS3 (get_map (eI .i64) (idx_some hx151).2) (o := 0) (v := (.int .i64 x148)) (el' := (.int .i64 x148)) (SetAt.here _ _) (by rfl) (map_set _ _ _ _) (by rfl) (by rfl) (ot 77 (.ptr 100200 (s10.1.toNat * 1) [s10.1.toNat])) (ot 71 (i6 x148)))
                    (oc (OpJ.val (v' := (.ptr 100201 (s10.1.toNat * 1) [s10.1.toNat])) (by simp) (OpJ.indexS Try.underlying22 tyS3 (obj := (.row 3 1 (s10.2.1.map (eI .i64)))) (idx_some hx152).1 (by have := idx_lt hx152; first | (simpa using this) | ((try simp only [List.length_map] at this); (try simp only [List.length_map]); omega)) (ltN hN rfl) (ot 65 (.sref 100201 1 0 s10.2.1.length)) (ot 66 (i6 s10.1))))
                    (oc (OpJ.storeR (e := 3) (sz := 1) (es := s10.2.1.map (eI .i64)) (es' := (s10.2.1.set s10.1.toNat x149).map (eI .i64)) tyS3 (get_map (eI .i64) (idx_some hx153).2) (o := 0) (v := (.int .i64 x149)) (el' := (.int .i64 x149)) (SetAt.here _ _) (by rfl) (map_set _ _ _ _) (by rfl) (by rfl) (ot 78 (.ptr 100201 (s10.1.toNat * 1) [s10.1.toNat])) (ot 76 (i6 x149)))
                    (OpJs.nil))))))))))))))))))))) (by kernel_rfl) (by rfl) (by rfl) ?_
                  exact hjj144 _ h _ _ (Mat.trans (mp [] [(2, (.ptr 1002 0 [])), (3, (.ptr 1003 0 [])), (4, (.ptr 1004 0 [])), (6, (.ptr 1006 0 [])), (43, (i6 (a1.fIn.length : Int))), (44, (i6 s10.1))] [(1002, some (.box 30 (.d (e_api_Series a0)))), (1003, some (.box 30 (.d (e_api_Series a1)))), (1004, some (.box 30 (.st [(i6 (0 : Int)), (i6 (0 : Int)), .nils, .nils]))), (1006, some (.box 30 (.st [(i6 r9.fPort), (i6 r9.fSeconds), (.sref 100200 1 0 s10.2.2.length), (.sref 100201 1 0 s10.2.1.length)]))), (100200, some (.row 3 1 ((s10.2.2.set s10.1.toNat x148).map (eI .i64)))), (100201, some (.row 3 1 ((s10.2.1.set s10.1.toNat x149).map (eI .i64))))] hB) (Mat.trans (Mat.lenP (Ts := []) (Bs := [(1006, some (.box 30 (.st [(i6 r9.fPort), (i6 r9.fSeconds), (.sref 100200 1 0 ((s10.2.2.set s10.1.toNat x148).length)), (.sref 100201 1 0 s10.2.1.length)])))]) TwT.nil (TwB.cons (x := (.st [(i6 r9.fPort), (i6 r9.fSeconds), (.sref 100200 1 0 s10.2.2.length), (.sref 100201 1 0 s10.2.1.length)])) (by rfl) (Tw.st (TwL.cons (Tw.same _) (TwL.cons (Tw.same _) (TwL.cons (Tw.leaf ⟨_, _, _, _, _, rfl, rfl, (by first | rfl | (simp; done) | (simp; omega))⟩) (TwL.cons (Tw.same _) TwL.nil))))) TwB.nil)) (Mat.trans (Mat.lenP (Ts := []) (Bs := [(1006, some (.box 30 (.st [(i6 r9.fPort), (i6 r9.fSeconds), (.sref 100200 1 0 ((s10.2.2.set s10.1.toNat x148).length)), (.sref 100201 1 0 ((s10.2.1.set s10.1.toNat x149).length))])))]) TwT.nil (TwB.cons (x := (.st [(i6 r9.fPort), (i6 r9.fSeconds), (.sref 100200 1 0 ((s10.2.2.set s10.1.toNat x148).length)), (.sref 100201 1 0 s10.2.1.length)])) (by rfl) (Tw.st (TwL.cons (Tw.same _) (TwL.cons (Tw.same _) (TwL.cons (Tw.same _) (TwL.cons (Tw.leaf ⟨_, _, _, _, _, rfl, rfl, (by first | rfl | (simp; done) | (simp; omega))⟩) TwL.nil))))) TwB.nil)) (mp [] ((fun m143 : (List Int) × (List Int) => ([(2, (.ptr 1002 0 [])), (3, (.ptr 1003 0 [])), (4, (.ptr 1004 0 [])), (6, (.ptr 1006 0 [])), (43, (i6 (a1.fIn.length : Int))), (44, (i6 s10.1))] : EL)) ((s10.2.1.set s10.1.toNat x149), (s10.2.2.set s10.1.toNat x148))) ((fun m143 : (List Int) × (List Int) => ([(1002, some (.box 30 (.d (e_api_Series a0)))), (1003, some (.box 30 (.d (e_api_Series a1)))), (1004, some (.box 30 (.st [(i6 (0 : Int)), (i6 (0 : Int)), .nils, .nils]))), (1006, some (.box 30 (.st [(i6 r9.fPort), (i6 r9.fSeconds), (.sref 100200 1 0 m143.2.length), (.sref 100201 1 0 m143.1.length)]))), (100200, some (.row 3 1 (m143.2.map (eI .i64)))), (100201, some (.row 3 1 (m143.1.map (eI .i64))))] : OL)) ((s10.2.1.set s10.1.toNat x149), (s10.2.2.set s10.1.toNat x148))) hB))))
                · replace h := ite_f hg147 h
                  refine AWp.seq ?_
                  refine AWp.cut h (fun m161 : Bool => ([(2, (.ptr 1002 0 [])), (3, (.ptr 1003 0 [])), (4, (.ptr 1004 0 [])), (6, (.ptr 1006 0 [])), (43, (i6 (a1.fIn.length : Int))), (44, (i6 s10.1)), (79, (bo m161))] : EL)) (fun m161 : Bool => ([(1002, some (.box 30 (.d (e_api_Series a0)))), (1003, some (.box 30 (.d (e_api_Series a1)))), (1004, some (.box 30 (.st [(i6 (0 : Int)), (i6 (0 : Int)), .nils, .nils]))), (1006, some (.box 30 (.st [(i6 r9.fPort), (i6 r9.fSeconds), (.sref 100200 1 0 s10.2.2.length), (.sref 100201 1 0 s10.2.1.length)]))), (100200, some (.row 3 1 (s10.2.2.map (eI .i64)))), (100201, some (.row 3 1 (s10.2.1.map (eI .i64))))] : OL)) (fun m161 h E' O' hmat => ?_) (fun j162 hjj162 h => ?_)
                  · refine seqQ_n ?_
                    refine AWp.ghost hmat ?_
                    refine AWp.cond (b := m161) (by rfl) (fun hg163 => ?_) (fun hg163 => ?_)
                    · replace h := ite_t hg163 h
                      refine AWp.seq ?_
                      refine AWp.region (oc (OpJ.build (places := [(0, 1), (1, 1), (2, 1), (3, 1)]) ⟨Try.underlying30, fun w => by kernel_rfl⟩ tyZS30 Opds.nil (by kernel_rfl) (r := (.st [(i6 (0 : Int)), (i6 (0 : Int)), .nils, .nils])) (by rfl) (ltN hN rfl))
                        (oc (OpJ.storeB (bt := 30) (c := (.st [(i6 (0 : Int)), (i6 (0 : Int)), .nils, .nils])) (v := (.st [(i6 (0 : Int)), (i6 (0 : Int)), .nils, .nils])) (c' := (.st [(i6 (0 : Int)), (i6 (0 : Int)), .nils, .nils])) tyS30 (SetAt.here _ _) (by rfl) (by rfl) (by simp) rfl (ot 4 (.ptr 1004 0 [])) (ot 104 (.st [(i6 (0 : Int)), (i6 (0 : Int)), .nils, .nils])))
                        (oc (OpJ.assign (ltN hN rfl) (Opd.int .i64 (8)))
                        (OpJs.nil)))) (by rfl) (by rfl) ?_
                      refine seqQ_n ?_
                      refine AWp.ghost (mp [] [(4, (.ptr 1004 0 [])), (5, (i6 (8 : Int)))] [(1004, some (.box 30 (.st [(i6 (0 : Int)), (i6 (0 : Int)), .nils, .nils])))] hB) ?_
                      refine AWp.ret ?_
                      refine blkQ_r ?_
                      refine blkQ_r ?_
                      refine seqQ_r ?_
                      obtain rfl := Option.some.inj h
                      exact ⟨(fun hc => by cases hc), rfl, (mp [] ((fun _ : Unit => ([(4, (.ptr 1004 0 [])), (5, (i6 (8 : Int)))] : EL)) ()) ((fun _ : Unit => ([(1004, some (.box 30 (.st [(i6 (0 : Int)), (i6 (0 : Int)), .nils, .nils])))] : OL)) ()) hB)⟩
                    · replace h := ite_f hg163 h
                      refine AWp.skip ?_
                      exact hjj144 _ h _ _ (mp [] ((fun m143 : (List Int) × (List Int) => ([(2, (.ptr 1002 0 [])), (3, (.ptr 1003 0 [])), (4, (.ptr 1004 0 [])), (6, (.ptr 1006 0 [])), (43, (i6 (a1.fIn.length : Int))), (44, (i6 s10.1))] : EL)) (s10.2.1, s10.2.2)) ((fun m143 : (List Int) × (List Int) => ([(1002, some (.box 30 (.d (e_api_Series a0)))), (1003, some (.box 30 (.d (e_api_Series a1)))), (1004, some (.box 30 (.st [(i6 (0 : Int)), (i6 (0 : Int)), .nils, .nils]))), (1006, some (.box 30 (.st [(i6 r9.fPort), (i6 r9.fSeconds), (.sref 100200 1 0 m143.2.length), (.sref 100201 1 0 m143.1.length)]))), (100200, some (.row 3 1 (m143.2.map (eI .i64)))), (100201, some (.row 3 1 (m143.1.map (eI .i64))))] : OL)) (s10.2.1, s10.2.2)) hB)
                  · obtain ⟨x164, hx164, h⟩ := bindS h
                    obtain ⟨x165, hx165, h⟩ := bindS h
                    rcases Bool.eq_false_or_eq_true (x164 != x165) with hg166 | hg166
                    · replace h := ite_t hg166 h
                      refine AWp.draws (by kernel_rfl) (oc (ov (.ptr 1002 2 [2]) (fp hN Try.underlying30 2 tyS22 (.box 30 (.d (e_api_Series a0))) (ot 2 (.ptr 1002 0 []))))
                        (oc (lb hN 30 (.d (e_api_Series a0)) (.d (.list 1 (a0.fIn.map (eI .i64)))) tyS22 (ad (.list 1 (a0.fIn.map (eI .i64)))) (ot 80 (.ptr 1002 2 [2])))
                        (oc (mv hN (ot 7 (i6 s10.1)))
                        (oc (OpJ.indexD (el := (.int .i64 x164)) Try.underlying22 tyS3 (idx_some hx164).1 (get_map (eI .i64) (idx_some hx164).2) (ltN hN rfl) (ot 81 (.d (.list 1 (a0.fIn.map (eI .i64))))) (ot 82 (i6 s10.1)))
                        (oc (OpJ.loadD tyS3 (by rfl) (by rfl) (ltN hN rfl) (ot 83 (.dptr (.int .i64 x164))))
                        (oc (ov (.ptr 1003 2 [2]) (fp hN Try.underlying30 2 tyS22 (.box 30 (.d (e_api_Series a1))) (ot 3 (.ptr 1003 0 []))))
                        (oc (lb hN 30 (.d (e_api_Series a1)) (.d (.list 1 (a1.fIn.map (eI .i64)))) tyS22 (ad (.list 1 (a1.fIn.map (eI .i64)))) (ot 85 (.ptr 1003 2 [2])))
                        (oc (mv hN (ot 7 (i6 s10.1)))
                        (oc (OpJ.indexD (el := (.int .i64 x165)) Try.underlying22 tyS3 (idx_some hx165).1 (get_map (eI .i64) (idx_some hx165).2) (ltN hN rfl) (ot 86 (.d (.list 1 (a1.fIn.map (eI .i64))))) (ot 87 (i6 s10.1)))
                        (oc (OpJ.loadD tyS3 (by rfl) (by rfl) (ltN hN rfl) (ot 88 (.dptr (.int .i64 x165))))
                        (oc (OpJ.neqI (ltN hN rfl) (ot 84 (i6 x164)) (ot 89 (i6 x165)))
                        (oc (OpJ.val (v' := .d (.bool true)) (by rw [hg166]) (mv hN (ot 90 (bo (x164 != x165)))))
                        (oc (OpJ.skipU (ltN hN rfl) (by rfl))
                        (oc (OpJ.skipU (ltN hN rfl) (by rfl))
                        (oc (OpJ.skipU (ltN hN rfl) (by rfl))
                        (oc (OpJ.skipU (ltN hN rfl) (by rfl))
                        (oc (OpJ.skipU (ltN hN rfl) (by rfl))
                        (oc (OpJ.skipU (ltN hN rfl) (by rfl))
                        (oc (OpJ.skipU (ltN hN rfl) (by rfl))
                        (oc (OpJ.skipU (ltN hN rfl) (by rfl))
                        (oc (OpJ.skipU (ltN hN rfl) (by rfl))
                        (oc (OpJ.skipU (ltN hN rfl) (by rfl))
                        (oc (OpJ.skipU (ltN hN rfl) (by rfl))
                        (oc (OpJ.pickT (ltN hN rfl) (ot 91 (bo true)) (Opd.bool true))
                        (oc (OpJ.assign (ltN hN rfl) (ot 103 (bo true)))
                        (OpJs.nil)))))))))))))))))))))))))) (by kernel_rfl) (by rfl) (by rfl) ?_
                      exact hjj162 _ h _ _ (Mat.trans (mp [] [(2, (.ptr 1002 0 [])), (3, (.ptr 1003 0 [])), (4, (.ptr 1004 0 [])), (6, (.ptr 1006 0 [])), (43, (i6 (a1.fIn.length : Int))), (44, (i6 s10.1)), (79, (bo true))] [(1002, some (.box 30 (.d (e_api_Series a0)))), (1003, some (.box 30 (.d (e_api_Series a1)))), (1004, some (.box 30 (.st [(i6 (0 : Int)), (i6 (0 : Int)), .nils, .nils]))), (1006, some (.box 30 (.st [(i6 r9.fPort), (i6 r9.fSeconds), (.sref 100200 1 0 s10.2.2.length), (.sref 100201 1 0 s10.2.1.length)]))), (100200, some (.row 3 1 (s10.2.2.map (eI .i64)))), (100201, some (.row 3 1 (s10.2.1.map (eI .i64))))] hB) (mp [] ((fun m161 : Bool => ([(2, (.ptr 1002 0 [])), (3, (.ptr 1003 0 [])), (4, (.ptr 1004 0 [])), (6, (.ptr 1006 0 [])), (43, (i6 (a1.fIn.length : Int))), (44, (i6 s10.1)), (79, (bo m161))] : EL)) true) ((fun m161 : Bool => ([(1002, some (.box 30 (.d (e_api_Series a0)))), (1003, some (.box 30 (.d (e_api_Series a1)))), (1004, some (.box 30 (.st [(i6 (0 : Int)), (i6 (0 : Int)), .nils, .nils]))), (1006, some (.box 30 (.st [(i6 r9.fPort), (i6 r9.fSeconds), (.sref 100200 1 0 s10.2.2.length), (.sref 100201 1 0 s10.2.1.length)]))), (100200, some (.row 3 1 (s10.2.2.map (eI .i64)))), (100201, some (.row 3 1 (s10.2.1.map (eI .i64))))] : OL)) true) hB))
                    · replace h := ite_f hg166 h
                      obtain ⟨x167, hx167, h⟩ := bindS h
                      obtain ⟨x168, hx168, h⟩ := bindS h
                      refine AWp.draws (by kernel_rfl) (oc (ov (.ptr 1002 2 [2]) (fp hN Try.underlying30 2 tyS22 (.box 30 (.d (e_api_Series a0))) (ot 2 (.ptr 1002 0 []))))
                        (oc (lb hN 30 (.d (e_api_Series a0)) (.d (.list 1 (a0.fIn.map (eI .i64)))) tyS22 (ad (.list 1 (a0.fIn.map (eI .i64)))) (ot 80 (.ptr 1002 2 [2])))
                        (oc (mv hN (ot 7 (i6 s10.1)))
                        (oc (OpJ.indexD (el := (.int .i64 x164)) Try.underlying22 tyS3 (idx_some hx164).1 (get_map (eI .i64) (idx_some hx164).2) (ltN hN rfl) (ot 81 (.d (.list 1 (a0.fIn.map (eI .i64))))) (ot 82 (i6 s10.1)))
                        (oc (OpJ.loadD tyS3 (by rfl) (by rfl) (ltN hN rfl) (ot 83 (.dptr (.int .i64 x164))))
                        (oc (ov (.ptr 1003 2 [2]) (fp hN Try.underlying30 2 tyS22 (.box 30 (.d (e_api_Series a1))) (ot 3 (.ptr 1003 0 []))))
                        (oc (lb hN 30 (.d (e_api_Series a1)) (.d (.list 1 (a1.fIn.map (eI .i64)))) tyS22 (ad (.list 1 (a1.fIn.map (eI .i64)))) (ot 85 (.ptr 1003 2 [2])))
                        (oc (mv hN (ot 7 (i6 s10.1)))
                        (oc (OpJ.indexD (el := (.int .i64 x165)) Try.underlying22 tyS3 (idx_some hx165).1 (get_map (eI .i64) (idx_some hx165).2) (ltN hN rfl) (ot 86 (.d (.list 1 (a1.fIn.map (eI .i64))))) (ot 87 (i6 s10.1)))
                        (oc (OpJ.loadD tyS3 (by rfl) (by rfl) (ltN hN rfl) (ot 88 (.dptr (.int .i64 x165))))
                        (oc (OpJ.neqI (ltN hN rfl) (ot 84 (i6 x164)) (ot 89 (i6 x165)))
                        (oc (OpJ.val (v' := .d (.bool false)) (by rw [hg166]) (mv hN (ot 90 (bo (x164 != x165)))))
                        (oc (OpJ.guarded (by rfl) (ov (.ptr 1002 3 [3]) (fp hN Try.underlying30 3 tyS22 (.box 30 (.d (e_api_Series a0))) (ot 2 (.ptr 1002 0 [])))))
                        (oc (OpJ.guarded (by rfl) (lb hN 30 (.d (e_api_Series a0)) (.d (.list 1 (a0.fOut.map (eI .i64)))) tyS22 (ad (.list 1 (a0.fOut.map (eI .i64)))) (ot 92 (.ptr 1002 3 [3]))))
                        (oc (OpJ.guarded (by rfl) (mv hN (ot 7 (i6 s10.1))))
                        (oc (OpJ.guarded (by rfl) (OpJ.indexD (el := (.int .i64 x167)) Try.underlying22 tyS3 (idx_some hx167).1 (get_map (eI .i64) (idx_some hx167).2) (ltN hN rfl) (ot 93 (.d (.list 1 (a0.fOut.map (eI .i64))))) (ot 94 (i6 s10.1))))
                        (oc (OpJ.guarded (by rfl) (OpJ.loadD tyS3 (by rfl) (by rfl) (ltN hN rfl) (ot 95 (.dptr (.int .i64 x167)))))
                        (oc (OpJ.guarded (by rfl) (ov (.ptr 1003 3 [3]) (fp hN Try.underlying30 3 tyS22 (.box 30 (.d (e_api_Series a1))) (ot 3 (.ptr 1003 0 [])))))
                        (oc (OpJ.guarded (by rfl) (lb hN 30 (.d (e_api_Series a1)) (.d (.list 1 (a1.fOut.map (eI .i64)))) tyS22 (ad (.list 1 (a1.fOut.map (eI .i64)))) (ot 97 (.ptr 1003 3 [3]))))
                        (oc (OpJ.guarded (by rfl) (mv hN (ot 7 (i6 s10.1))))
                        (oc (OpJ.guarded (by rfl) (OpJ.indexD (el := (.int .i64 x168)) Try.underlying22 tyS3 (idx_some hx168).1 (get_map (eI .i64) (idx_some hx168).2) (ltN hN rfl) (ot 98 (.d (.list 1 (a1.fOut.map (eI .i64))))) (ot 99 (i6 s10.1))))
                        (oc (OpJ.guarded (by rfl) (OpJ.loadD tyS3 (by rfl) (by rfl) (ltN hN rfl) (ot 100 (.dptr (.int .i64 x168)))))
                        (oc (OpJ.guarded (by rfl) (OpJ.neqI (ltN hN rfl) (ot 96 (i6 x167)) (ot 101 (i6 x168))))
                        (oc (OpJ.pickF (ltN hN rfl) (ot 91 (bo false)) (ot 102 (bo (x167 != x168))))
                        (oc (OpJ.assign (ltN hN rfl) (ot 103 (bo (x167 != x168))))
                        (OpJs.nil)))))))))))))))))))))))))) (by kernel_rfl) (by rfl) (by rfl) ?_
                      exact hjj162 _ h _ _ (Mat.trans (mp [] [(2, (.ptr 1002 0 [])), (3, (.ptr 1003 0 [])), (4, (.ptr 1004 0 [])), (6, (.ptr 1006 0 [])), (43, (i6 (a1.fIn.length : Int))), (44, (i6 s10.1)), (79, (bo (x167 != x168)))] [(1002, some (.box 30 (.d (e_api_Series a0)))), (1003, some (.box 30 (.d (e_api_Series a1)))), (1004, some (.box 30 (.st [(i6 (0 : Int)), (i6 (0 : Int)), .nils, .nils]))), (1006, some (.box 30 (.st [(i6 r9.fPort), (i6 r9.fSeconds), (.sref 100200 1 0 s10.2.2.length), (.sref 100201 1 0 s10.2.1.length)]))), (100200, some (.row 3 1 (s10.2.2.map (eI .i64)))), (100201, some (.row 3 1 (s10.2.1.map (eI .i64))))] hB) (mp [] ((fun m161 : Bool => ([(2, (.ptr 1002 0 [])), (3, (.ptr 1003 0 [])), (4, (.ptr 1004 0 [])), (6, (.ptr 1006 0 [])), (43, (i6 (a1.fIn.length : Int))), (44, (i6 s10.1)), (79, (bo m161))] : EL)) (x167 != x168)) ((fun m161 : Bool => ([(1002, some (.box 30 (.d (e_api_Series a0)))), (1003, some (.box 30 (.d (e_api_Series a1)))), (1004, some (.box 30 (.st [(i6 (0 : Int)), (i6 (0 : Int)), .nils, .nils]))), (1006, some (.box 30 (.st [(i6 r9.fPort), (i6 r9.fSeconds), (.sref 100200 1 0 s10.2.2.length), (.sref 100201 1 0 s10.2.1.length)]))), (100200, some (.row 3 1 (s10.2.2.map (eI .i64)))), (100201, some (.row 3 1 (s10.2.1.map (eI .i64))))] : OL)) (x167 != x168)) hB))
          · replace h := ite_f hg117 h
            refine AWp.exit ?_
            refine seqQ_e ?_
            obtain rfl := Option.some.inj h
            exact ⟨(fun hc => by cases hc), rfl, (mp [] ((fun p116 : (List Int) × (List Int) => ([(4, (.ptr 1004 0 [])), (6, (.ptr 1006 0 []))] : EL)) (s10.2.1, s10.2.2)) ((fun p116 : (List Int) × (List Int) => ([(1004, some (.box 30 (.st [(i6 (0 : Int)), (i6 (0 : Int)), .nils, .nils]))), (1006, some (.box 30 (.st [(i6 r9.fPort), (i6 r9.fSeconds), (.sref 100200 1 0 p116.2.length), (.sref 100201 1 0 p116.1.length)]))), (100200, some (.row 3 1 (p116.2.map (eI .i64)))), (100201, some (.row 3 1 (p116.1.map (eI .i64))))] : OL)) (s10.2.1, s10.2.2)) hB)⟩
        · rcases x169 with _ | p116
          · obtain ⟨rfl, hmat⟩ := hR
            refine blkQ_r ?_
            refine seqQ_r ?_
            obtain rfl := Option.some.inj h
            exact ⟨.inl rfl, _, _, (Mat.trans hmat (Mat.trans (Mat.coeP (Ts := []) (Bs := [(1004, some (.box 30 (.d (.st [(.int .i64 (0 : Int)), (.int .i64 (0 : Int)), (.list 1 (([] : List Int).map (eI .i64))), (.list 1 (([] : List Int).map (eI .i64)))]))))]) TwT.nil (TwB.cons (x := (.st [(i6 (0 : Int)), (i6 (0 : Int)), .nils, .nils])) (by rfl) (Tw.leaf ⟨_, (Co.st (CoL.cons (Co.d _) (CoL.cons (Co.d _) (CoL.cons (Co.nils 1) (CoL.cons (Co.nils 1) CoL.nil))))), rfl⟩) TwB.nil)) (mp [] [(4, (.ptr 1004 0 [])), (5, (i6 (8 : Int)))] [(1004, some (.box 30 (.d (.st [(.int .i64 (0 : Int)), (.int .i64 (0 : Int)), (.list 1 (([] : List Int).map (eI .i64))), (.list 1 (([] : List Int).map (eI .i64)))]))))] hB))), [(.d (.st [(.int .i64 (0 : Int)), (.int .i64 (0 : Int)), (.list 1 (([] : List Int).map (eI .i64))), (.list 1 (([] : List Int).map (eI .i64)))])), (i6 (8 : Int))], (Res.cell (c := (.d (.st [(.int .i64 (0 : Int)), (.int .i64 (0 : Int)), (.list 1 (([] : List Int).map (eI .i64))), (.list 1 (([] : List Int).map (eI .i64)))]))) (by rfl) (by rfl) tyS30 (by rfl) (by rfl) (by rfl) (Res.tmp (by rfl) (by rfl) Res.nil)), rfl, by rfl, by rfl, by rfl⟩
          · obtain ⟨rfl, hmat⟩ := hR
            refine blkQ_hit ?_
            refine seqQ_n ?_
            refine AWp.ghost hmat ?_
            refine AWp.seq ?_
            refine AWp.region (oc (lb hN 30 (.st [(i6 r9.fPort), (i6 r9.fSeconds), (.sref 100200 1 0 p116.2.length), (.sref 100201 1 0 p116.1.length)]) (.st [(i6 r9.fPort), (i6 r9.fSeconds), (.sref 100200 1 0 p116.2.length), (.sref 100201 1 0 p116.1.length)]) tyS30 (At.here _) (ot 6 (.ptr 1006 0 [])))
              (oc (OpJ.storeB (bt := 30) (c := (.st [(i6 (0 : Int)), (i6 (0 : Int)), .nils, .nils])) (v := (.st [(i6 r9.fPort), (i6 r9.fSeconds), (.sref 100200 1 0 p116.2.length), (.sref 100201 1 0 p116.1.length)])) (c' := (.st [(i6 r9.fPort), (i6 r9.fSeconds), (.sref 100200 1 0 p116.2.length), (.sref 100201 1 0 p116.1.length)])) tyS30 (SetAt.here _ _) (by rfl) (by rfl) (by simp) rfl (ot 4 (.ptr 1004 0 [])) (ot 106 (.st [(i6 r9.fPort), (i6 r9.fSeconds), (.sref 100200 1 0 p116.2.length), (.sref 100201 1 0 p116.1.length)])))
              (oc (OpJ.assign (ltN hN rfl) (Opd.int .i64 (0)))
              (OpJs.nil)))) (by rfl) (by rfl) ?_
            refine seqQ_n ?_
            refine AWp.ghost (mp [] [(4, (.ptr 1004 0 [])), (5, (i6 (0 : Int)))] [(1004, some (.box 30 (.st [(i6 r9.fPort), (i6 r9.fSeconds), (.sref 100200 1 0 p116.2.length), (.sref 100201 1 0 p116.1.length)]))), (100200, some (.row 3 1 (p116.2.map (eI .i64)))), (100201, some (.row 3 1 (p116.1.map (eI .i64))))] hB) ?_
            refine AWp.ret ?_
            obtain rfl := Option.some.inj h
            exact ⟨.inl rfl, _, _, (Mat.trans (Mat.freezeP (n := 100200) (e := 3) (sz := 1) (es := p116.2.map (eI .i64)) (Ts := []) (Bs := [(1004, some (.box 30 (.st [(i6 r9.fPort), (i6 r9.fSeconds), (.d (.list 1 (p116.2.map (eI .i64)))), (.sref 100201 1 0 p116.1.length)])))]) (by rfl) TwT.nil (TwB.cons (x := (.st [(i6 r9.fPort), (i6 r9.fSeconds), (.sref 100200 1 0 p116.2.length), (.sref 100201 1 0 p116.1.length)])) (by rfl) (Tw.st (TwL.cons (Tw.same _) (TwL.cons (Tw.same _) (TwL.cons (FrzL.all (by first | rfl | (simp; done) | (simp; omega))) (TwL.cons (Tw.same _) TwL.nil))))) TwB.nil)) (Mat.trans (Mat.freezeP (n := 100201) (e := 3) (sz := 1) (es := p116.1.map (eI .i64)) (Ts := []) (Bs := [(1004, some (.box 30 (.st [(i6 r9.fPort), (i6 r9.fSeconds), (.d (.list 1 (p116.2.map (eI .i64)))), (.d (.list 1 (p116.1.map (eI .i64))))])))]) (by rfl) TwT.nil (TwB.cons (x := (.st [(i6 r9.fPort), (i6 r9.fSeconds), (.d (.list 1 (p116.2.map (eI .i64)))), (.sref 100201 1 0 p116.1.length)])) (by rfl) (Tw.st (TwL.cons (Tw.same _) (TwL.cons (Tw.same _) (TwL.cons (Tw.same _) (TwL.cons (FrzL.all (by first | rfl | (simp; done) | (simp; omega))) TwL.nil))))) TwB.nil)) (Mat.trans (Mat.coeP (Ts := []) (Bs := [(1004, some (.box 30 (.d (.st [(.int .i64 r9.fPort), (.int .i64 r9.fSeconds), (.list 1 (p116.2.map (eI .i64))), (.list 1 (p116.1.map (eI .i64)))]))))]) TwT.nil (TwB.cons (x := (.st [(i6 r9.fPort), (i6 r9.fSeconds), (.d (.list 1 (p116.2.map (eI .i64)))), (.d (.list 1 (p116.1.map (eI .i64))))])) (by rfl) (Tw.leaf ⟨_, (Co.st (CoL.cons (Co.d _) (CoL.cons (Co.d _) (CoL.cons (Co.d _) (CoL.cons (Co.d _) CoL.nil))))), rfl⟩) TwB.nil)) (mp [] [(4, (.ptr 1004 0 [])), (5, (i6 (0 : Int)))] [(1004, some (.box 30 (.d (.st [(.int .i64 r9.fPort), (.int .i64 r9.fSeconds), (.list 1 (p116.2.map (eI .i64))), (.list 1 (p116.1.map (eI .i64)))]))))] hB)))), [(.d (.st [(.int .i64 r9.fPort), (.int .i64 r9.fSeconds), (.list 1 (p116.2.map (eI .i64))), (.list 1 (p116.1.map (eI .i64)))])), (i6 (0 : Int))], (Res.cell (c := (.d (.st [(.int .i64 r9.fPort), (.int .i64 r9.fSeconds), (.list 1 (p116.2.map (eI .i64))), (.list 1 (p116.1.map (eI .i64)))]))) (by rfl) (by rfl) tyS30 (by rfl) (by rfl) (by rfl) (Res.tmp (by rfl) (by rfl) Res.nil)), rfl, by rfl, by rfl, by rfl⟩
  · obtain ⟨r171, hr171, h⟩ := bindS h
    rcases Bool.eq_false_or_eq_true (!r171) with hg172 | hg172
    · replace h := ite_t hg172 h
      refine AWp.region (oc (lb hN 30 (.d (e_api_Series a0)) (.d (e_api_Series a0)) tyS30 (At.here _) (ot 2 (.ptr 1002 0 [])))
        (oc (OpJ.callFn hB fnOk17 (exchangepointref40_Valid_ac a0 r171 hr171) [] (by kernel_rfl) (ltN hN rfl) (by kernel_rfl) (OpdL.cons (ot 8 (.d (e_api_Series a0))) OpdL.nil))
        (oc (OpJ.not (ltN hN rfl) (ot 9 (bo r171)))
        (oc (OpJ.val (v' := .d (.bool true)) (by rw [hg172]) (mv hN (ot 10 (bo (!r171)))))
        (oc (OpJ.skipU (ltN hN rfl) (by rfl))
        (oc (OpJ.skipU (ltN hN rfl) (by rfl))
        (oc (OpJ.skipU (ltN hN rfl) (by rfl))
        (oc (OpJ.pickT (ltN hN rfl) (ot 11 (bo true)) (Opd.bool true))
        (OpJs.nil))))))))) (by rfl) (by rfl) ?_
      exact hjj6 _ h _ _ (Mat.trans (mp [] [(2, (.ptr 1002 0 [])), (3, (.ptr 1003 0 [])), (4, (.ptr 1004 0 [])), (15, (bo true))] [(1002, some (.box 30 (.d (e_api_Series a0)))), (1003, some (.box 30 (.d (e_api_Series a1)))), (1004, some (.box 30 (.st [(i6 (0 : Int)), (i6 (0 : Int)), .nils, .nils])))] hB) (mp [] ((fun m5 : Bool => ([(2, (.ptr 1002 0 [])), (3, (.ptr 1003 0 [])), (4, (.ptr 1004 0 [])), (15, (bo m5))] : EL)) true) ((fun m5 : Bool => ([(1002, some (.box 30 (.d (e_api_Series a0)))), (1003, some (.box 30 (.d (e_api_Series a1)))), (1004, some (.box 30 (.st [(i6 (0 : Int)), (i6 (0 : Int)), .nils, .nils])))] : OL)) true) hB))
    · replace h := ite_f hg172 h
      obtain ⟨r173, hr173, h⟩ := bindS h
      refine AWp.region (oc (lb hN 30 (.d (e_api_Series a0)) (.d (e_api_Series a0)) tyS30 (At.here _) (ot 2 (.ptr 1002 0 [])))
        (oc (OpJ.callFn hB fnOk17 (exchangepointref40_Valid_ac a0 r171 hr171) [] (by kernel_rfl) (ltN hN rfl) (by kernel_rfl) (OpdL.cons (ot 8 (.d (e_api_Series a0))) OpdL.nil))
        (oc (OpJ.not (ltN hN rfl) (ot 9 (bo r171)))
        (oc (OpJ.val (v' := .d (.bool false)) (by rw [hg172]) (mv hN (ot 10 (bo (!r171)))))
        (oc (OpJ.guarded (by rfl) (lb hN 30 (.d (e_api_Series a1)) (.d (e_api_Series a1)) tyS30 (At.here _) (ot 3 (.ptr 1003 0 []))))
        (oc (OpJ.guarded (by rfl) (OpJ.callFn hB fnOk17 (exchangepointref40_Valid_ac a1 r173 hr173) [] (by kernel_rfl) (ltN hN rfl) (by kernel_rfl) (OpdL.cons (ot 12 (.d (e_api_Series a1))) OpdL.nil)))
        (oc (OpJ.guarded (by rfl) (OpJ.not (ltN hN rfl) (ot 13 (bo r173))))
        (oc (OpJ.pickF (ltN hN rfl) (ot 11 (bo false)) (ot 14 (bo (!r173))))
        (OpJs.nil))))))))) (by rfl) (by rfl) ?_
      exact hjj6 _ h _ _ (Mat.trans (mp [] [(2, (.ptr 1002 0 [])), (3, (.ptr 1003 0 [])), (4, (.ptr 1004 0 [])), (15, (bo (!r173)))] [(1002, some (.box 30 (.d (e_api_Series a0)))), (1003, some (.box 30 (.d (e_api_Series a1)))), (1004, some (.box 30 (.st [(i6 (0 : Int)), (i6 (0 : Int)), .nils, .nils])))] hB) (mp [] ((fun m5 : Bool => ([(2, (.ptr 1002 0 [])), (3, (.ptr 1003 0 [])), (4, (.ptr 1004 0 [])), (15, (bo m5))] : EL)) (!r173)) ((fun m5 : Bool => ([(1002, some (.box 30 (.d (e_api_Series a0)))), (1003, some (.box 30 (.d (e_api_Series a1)))), (1004, some (.box 30 (.st [(i6 (0 : Int)), (i6 (0 : Int)), .nils, .nils])))] : OL)) (!r173)) hB))

noncomputable def percentile_Put (a0 : api_Series) (a1 : Int) (a2 : Int) (a3 : Int) : Option (api_Series × Int) :=
  (percentile_Valid a0).bind fun r1 =>
  (if (!r1) = true then
  some ((api_Series.mk (0 : Int) (0 : Int) ([] : List Int) ([] : List Int)), (1 : Int))
  else
  (if ((decide (a1 < (0 : Int))) || (decide ((a0.fIn.length : Int) < a1))) = true then
  some ((api_Series.mk (0 : Int) (0 : Int) ([] : List Int) ([] : List Int)), (9 : Int))
  else
  (clone_Series_3 a0).bind fun r4 =>
  jn (fun m8 : (List Int) × (List Int) =>
  (idx m8.2 a1).bind fun x10 =>
  (idx m8.2 a1).bind fun x11 =>
  (idx m8.1 a1).bind fun x12 =>
  (idx m8.1 a1).bind fun x13 =>
  (percentile_Valid (api_Series.mk r4.fPort r4.fSeconds (((m8.2.set a1.toNat a2).drop 0).take m8.2.length) (((m8.1.set a1.toNat a3).drop 0).take m8.1.length))).bind fun r14 =>
  (if (!r14) = true then
  some ((api_Series.mk (0 : Int) (0 : Int) ([] : List Int) ([] : List Int)), (1 : Int))
  else
  some ((api_Series.mk r4.fPort r4.fSeconds (((m8.2.set a1.toNat a2).drop 0).take m8.2.length) (((m8.1.set a1.toNat a3).drop 0).take m8.1.length)), (0 : Int)))) (fun j9 =>
  (if (a1 == (a0.fIn.length : Int)) = true then
  chk (decide ((r4.fIn ++ ([(-1 : Int)] : List Int)).length ≤ LIM)) <|
  chk (decide ((r4.fOut ++ ([(-1 : Int)] : List Int)).length ≤ LIM)) <|
  j9 ((r4.fOut ++ ([(-1 : Int)] : List Int)), (r4.fIn ++ ([(-1 : Int)] : List Int)))
  else
  j9 (r4.fOut, r4.fIn)))))
set_option maxHeartbeats 4000000 in
set_option maxRecDepth 100000 in
theorem percentile_Put_ac (a0 : api_Series) (a1 : Int) (a2 : Int) (a3 : Int) (r : api_Series × Int) (h : percentile_Put a0 a1 a2 a3 = some r) : AC Try.prog 28 [(.d (e_api_Series a0)), (.d (.int .i64 a1)), (.d (.int .i64 a2)), (.d (.int .i64 a3))] [] (.tup [(.d (e_api_Series r.1)), (.d (.int .i64 r.2))]) [] := by
  refine AC.of_code2 Try.func28 rfl rfl (Nat.le_of_ble_eq_true (by rfl)) fun B hB hN => ?_
  delta percentile_Put at h
  refine AWp.seq ?_
  refine AWp.region (oc (OpJ.box hB (nm := 1004) (by decide) (by simp) rfl (ltN hN rfl) (ot 0 (.d (e_api_Series a0))))
  (oc (OpJ.alloc hB tyZ30 (nm := 1008) (by decide) (ltN hN rfl))
  (oc (OpJ.assign (ltN hN rfl) (Opd.int .i64 (0)))
  (OpJs.nil)))) (by rfl) (by rfl) ?_
  refine seqQ_n ?_
  refine AWp.ghost (mp [] [(1, (i6 a1)), (2, (i6 a2)), (3, (i6 a3)), (4, (.ptr 1004 0 [])), (8, (.ptr 1008 0 []))] [(1004, some (.box 30 (.d (e_api_Series a0)))), (1008, some (.box 30 (.st [(i6 (0 : Int)), (i6 (0 : Int)), .nils, .nils])))] hB) ?_
  refine AWp.seq ?_
  refine AWp.seq ?_
  obtain ⟨r1, hr1, h⟩ := bindS h
  refine AWp.region (oc (lb hN 30 (.d (e_api_Series a0)) (.d (e_api_Series a0)) tyS30 (At.here _) (ot 4 (.ptr 1004 0 [])))
  (oc (OpJ.callFn hB fnOk16 (percentile_Valid_ac a0 r1 hr1) [] (by kernel_rfl) (ltN hN rfl) (by kernel_rfl) (OpdL.cons (ot 11 (.d (e_api_Series a0))) OpdL.nil))
  (oc (OpJ.not (ltN hN rfl) (ot 12 (bo r1)))
  (OpJs.nil)))) (by rfl) (by rfl) ?_
  refine seqQ_n ?_
  refine AWp.ghost (mp [] [(1, (i6 a1)), (2, (i6 a2)), (3, (i6 a3)), (4, (.ptr 1004 0 [])), (8, (.ptr 1008 0 [])), (13, (bo (!r1)))] [(1004, some (.box 30 (.d (e_api_Series a0)))), (1008, some (.box 30 (.st [(i6 (0 : Int)), (i6 (0 : Int)), .nils, .nils])))] hB) ?_
  refine AWp.cond (b := (!r1)) (by rfl) (fun hg2 => ?_) (fun hg2 => ?_)
  · replace h := ite_t hg2 h
    refine AWp.seq ?_
    refine AWp.region (oc (OpJ.build (places := [(0, 1), (1, 1), (2, 1), (3, 1)]) ⟨Try.underlying30, fun w => by kernel_rfl⟩ tyZS30 Opds.nil (by kernel_rfl) (r := (.st [(i6 (0 : Int)), (i6 (0 : Int)), .nils, .nils])) (by rfl) (ltN hN rfl))
      (oc (OpJ.storeB (bt := 30) (c := (.st [(i6 (0 : Int)), (i6 (0 : Int)), .nils, .nils])) (v := (.st [(i6 (0 : Int)), (i6 (0 : Int)), .nils, .nils])) (c' := (.st [(i6 (0 : Int)), (i6 (0 : Int)), .nils, .nils])) tyS30 (SetAt.here _ _) (by rfl) (by rfl) (by simp) rfl (ot 8 (.ptr 1008 0 [])) (ot 14 (.st [(i6 (0 : Int)), (i6 (0 : Int)), .nils, .nils])))
      (oc (OpJ.assign (ltN hN rfl) (Opd.int .i64 (1)))
      (OpJs.nil)))) (by rfl) (by rfl) ?_
    refine seqQ_n ?_
    refine AWp.ghost (mp [] [(8, (.ptr 1008 0 [])), (9, (i6 (1 : Int)))] [(1008, some (.box 30 (.st [(i6 (0 : Int)), (i6 (0 : Int)), .nils, .nils])))] hB) ?_
    refine AWp.ret ?_
    refine seqQ_r ?_
    obtain rfl := Option.some.inj h
    exact ⟨.inl rfl, _, _, (Mat.trans (Mat.coeP (Ts := []) (Bs := [(1008, some (.box 30 (.d (.st [(.int .i64 (0 : Int)), (.int .i64 (0 : Int)), (.list 1 (([] : List Int).map (eI .i64))), (.list 1 (([] : List Int).map (eI .i64)))]))))]) TwT.nil (TwB.cons (x := (.st [(i6 (0 : Int)), (i6 (0 : Int)), .nils, .nils])) (by rfl) (Tw.leaf ⟨_, (Co.st (CoL.cons (Co.d _) (CoL.cons (Co.d _) (CoL.cons (Co.nils 1) (CoL.cons (Co.nils 1) CoL.nil))))), rfl⟩) TwB.nil)) (mp [] [(8, (.ptr 1008 0 [])), (9, (i6 (1 : Int)))] [(1008, some (.box 30 (.d (.st [(.int .i64 (0 : Int)), (.int .i64 (0 : Int)), (.list 1 (([] : List Int).map (eI .i64))), (.list 1 (([] : List Int).map (eI .i64)))]))))] hB)), [(.d (.st [(.int .i64 (0 : Int)), (.int .i64 (0 : Int)), (.list 1 (([] : List Int).map (eI .i64))), (.list 1 (([] : List Int).map (eI .i64)))])), (i6 (1 : Int))], (Res.cell (c := (.d (.st [(.int .i64 (0 : Int)), (.int .i64 (0 : Int)), (.list 1 (([] : List Int).map (eI .i64))), (.list 1 (([] : List Int).map (eI .i64)))]))) (by rfl) (by rfl) tyS30 (by rfl) (by rfl) (by rfl) (Res.tmp (by rfl) (by rfl) Res.nil)), rfl, by rfl, by rfl, by rfl⟩
  · replace h := ite_f hg2 h
    refine AWp.skip ?_
    refine seqQ_n ?_
    refine AWp.seq ?_
    refine AWp.seq ?_
    refine AWp.region (oc (mv hN (ot 1 (i6 a1)))
      (oc (OpJ.lss (ltN hN rfl) (ot 15 (i6 a1)) (Opd.int .i64 (0)))
      (oc (mv hN (ot 16 (bo (decide (a1 < (0 : Int))))))
      (oc (op hN (i6 a1) (mv hN (ot 1 (i6 a1))) (OptL.keep rfl OptL.nil) (GuardV.plain _))
      (oc (op hN (.ptr 1004 2 [2]) (ov (.ptr 1004 2 [2]) (fp hN Try.underlying30 2 tyS22 (.box 30 (.d (e_api_Series a0))) (ot 4 (.ptr 1004 0 [])))) (OptL.keep rfl OptL.nil) (GuardV.plain _))
      (oc (op hN (.d (.list 1 (a0.fIn.map (eI .i64)))) (lb hN 30 (.d (e_api_Series a0)) (.d (.list 1 (a0.fIn.map (eI .i64)))) tyS22 (ad (.list 1 (a0.fIn.map (eI .i64)))) (ot 19 (.ptr 1004 2 [2]))) (OptL.opt OptL.nil) (GuardV.plain _))
      (oc (op hN (i6 (a0.fIn.length : Int)) (OpJ.val (v' := (i6 (a0.fIn.length : Int))) (by simp) (OpJ.lenD Try.underlying22 (ltN hN rfl) (ot 20 (.d (.list 1 (a0.fIn.map (eI .i64))))))) (OptL.opt OptL.nil) (GuardV.plain _))
      (oc (op hN (bo (decide ((a0.fIn.length : Int) < a1))) (OpJ.gtr (ltN hN rfl) (ot 18 (i6 a1)) (ot 21 (i6 (a0.fIn.length : Int)))) (OptL.opt (OptL.opt OptL.nil)) (GuardV.plain _))
      (oc (OpJ.pickOr rfl (ltN hN rfl) (ot 17 (bo (decide (a1 < (0 : Int))))) (ot 22 (.opt ((decide (a1 < (0 : Int))) == false) (bo (decide ((a0.fIn.length : Int) < a1))))))
      (OpJs.nil)))))))))) (by rfl) (by rfl) ?_
    refine seqQ_n ?_
    refine AWp.ghost (mp [] [(1, (i6 a1)), (2, (i6 a2)), (3, (i6 a3)), (4, (.ptr 1004 0 [])), (8, (.ptr 1008 0 [])), (23, (bo ((decide (a1 < (0 : Int))) || (decide ((a0.fIn.length : Int) < a1)))))] [(1004, some (.box 30 (.d (e_api_Series a0)))), (1008, some (.box 30 (.st [(i6 (0 : Int)), (i6 (0 : Int)), .nils, .nils])))] hB) ?_
    refine AWp.cond (b := ((decide (a1 < (0 : Int))) || (decide ((a0.fIn.length : Int) < a1)))) (by rfl) (fun hg3 => ?_) (fun hg3 => ?_)
    · replace h := ite_t hg3 h
      refine AWp.seq ?_
      refine AWp.region (oc (OpJ.build (places := [(0, 1), (1, 1), (2, 1), (3, 1)]) ⟨Try.underlying30, fun w => by kernel_rfl⟩ tyZS30 Opds.nil (by kernel_rfl) (r := (.st [(i6 (0 : Int)), (i6 (0 : Int)), .nils, .nils])) (by rfl) (ltN hN rfl))
        (oc (OpJ.storeB (bt := 30) (c := (.st [(i6 (0 : Int)), (i6 (0 : Int)), .nils, .nils])) (v := (.st [(i6 (0 : Int)), (i6 (0 : Int)), .nils, .nils])) (c' := (.st [(i6 (0 : Int)), (i6 (0 : Int)), .nils, .nils])) tyS30 (SetAt.here _ _) (by rfl) (by rfl) (by simp) rfl (ot 8 (.ptr 1008 0 [])) (ot 24 (.st [(i6 (0 : Int)), (i6 (0 : Int)), .nils, .nils])))
        (oc (OpJ.assign (ltN hN rfl) (Opd.int .i64 (9)))
        (OpJs.nil)))) (by rfl) (by rfl) ?_
      refine seqQ_n ?_
      refine AWp.ghost (mp [] [(8, (.ptr 1008 0 [])), (9, (i6 (9 : Int)))] [(1008, some (.box 30 (.st [(i6 (0 : Int)), (i6 (0 : Int)), .nils, .nils])))] hB) ?_
      refine AWp.ret ?_
      refine seqQ_r ?_
      obtain rfl := Option.some.inj h
      exact ⟨.inl rfl, _, _, (Mat.trans (Mat.coeP (Ts := []) (Bs := [(1008, some (.box 30 (.d (.st [(.int .i64 (0 : Int)), (.int .i64 (0 : Int)), (.list 1 (([] : List Int).map (eI .i64))), (.list 1 (([] : List Int).map (eI .i64)))]))))]) TwT.nil (TwB.cons (x := (.st [(i6 (0 : Int)), (i6 (0 : Int)), .nils, .nils])) (by rfl) (Tw.leaf ⟨_, (Co.st (CoL.cons (Co.d _) (CoL.cons (Co.d _) (CoL.cons (Co.nils 1) (CoL.cons (Co.nils 1) CoL.nil))))), rfl⟩) TwB.nil)) (mp [] [(8, (.ptr 1008 0 [])), (9, (i6 (9 : Int)))] [(1008, some (.box 30 (.d (.st [(.int .i64 (0 : Int)), (.int .i64 (0 : Int)), (.list 1 (([] : List Int).map (eI .i64))), (.list 1 (([] : List Int).map (eI .i64)))]))))] hB)), [(.d (.st [(.int .i64 (0 : Int)), (.int .i64 (0 : Int)), (.list 1 (([] : List Int).map (eI .i64))), (.list 1 (([] : List Int).map (eI .i64)))])), (i6 (9 : Int))], (Res.cell (c := (.d (.st [(.int .i64 (0 : Int)), (.int .i64 (0 : Int)), (.list 1 (([] : List Int).map (eI .i64))), (.list 1 (([] : List Int).map (eI .i64)))]))) (by rfl) (by rfl) tyS30 (by rfl) (by rfl) (by rfl) (Res.tmp (by rfl) (by rfl) Res.nil)), rfl, by rfl, by rfl, by rfl⟩
    · replace h := ite_f hg3 h
      refine AWp.skip ?_
      refine seqQ_n ?_
      refine AWp.seq ?_
      obtain ⟨r4, hr4, h⟩ := bindS h
      refine AWp.region (oc (lb hN 30 (.d (e_api_Series a0)) (.d (e_api_Series a0)) tyS30 (At.here _) (ot 4 (.ptr 1004 0 [])))
        (oc (OpJ.callFn hB fnOk33 (clone_Series_3_ac a0 r4 hr4) [(900000, 100100), (900001, 100101)] (by kernel_rfl) (ltN hN rfl) (by kernel_rfl) (OpdL.cons (ot 25 (.d (e_api_Series a0))) OpdL.nil))
        (oc (OpJ.alloc hB tyZ30 (nm := 1010) (by decide) (ltN hN rfl))
        (oc (OpJ.storeB (bt := 30) (c := (.st [(i6 (0 : Int)), (i6 (0 : Int)), .nils, .nils])) (v := (.st [(i6 r4.fPort), (i6 r4.fSeconds), (.sref 100100 1 0 r4.fIn.length), (.sref 100101 1 0 r4.fOut.length)])) (c' := (.st [(i6 r4.fPort), (i6 r4.fSeconds), (.sref 100100 1 0 r4.fIn.length), (.sref 100101 1 0 r4.fOut.length)])) tyS30 (SetAt.here _ _) (by rfl) (by rfl) (by simp) rfl (ot 10 (.ptr 1010 0 [])) (ot 26 (.st [(i6 r4.fPort), (i6 r4.fSeconds), (.sref 100100 1 0 r4.fIn.length), (.sref 100101 1 0 r4.fOut.length)])))
        (OpJs.nil))))) (by rfl) (by rfl) ?_
      refine seqQ_n ?_
      refine AWp.ghost (mp [] [(1, (i6 a1)), (2, (i6 a2)), (3, (i6 a3)), (4, (.ptr 1004 0 [])), (8, (.ptr 1008 0 [])), (10, (.ptr 1010 0 []))] [(1004, some (.box 30 (.d (e_api_Series a0)))), (1008, some (.box 30 (.st [(i6 (0 : Int)), (i6 (0 : Int)), .nils, .nils]))), (1010, some (.box 30 (.st [(i6 r4.fPort), (i6 r4.fSeconds), (.sref 100100 1 0 r4.fIn.length), (.sref 100101 1 0 r4.fOut.length)]))), (100100, some (.row 3 1 (r4.fIn.map (eI .i64)))), (100101, some (.row 3 1 (r4.fOut.map (eI .i64))))] hB) ?_
      refine AWp.seq ?_
      refine AWp.seq ?_
      refine AWp.region (oc (mv hN (ot 1 (i6 a1)))
        (oc (ov (.ptr 1004 2 [2]) (fp hN Try.underlying30 2 tyS22 (.box 30 (.d (e_api_Series a0))) (ot 4 (.ptr 1004 0 []))))
        (oc (lb hN 30 (.d (e_api_Series a0)) (.d (.list 1 (a0.fIn.map (eI .i64)))) tyS22 (ad (.list 1 (a0.fIn.map (eI .i64)))) (ot 28 (.ptr 1004 2 [2])))
        (oc (OpJ.val (v' := (i6 (a0.fIn.length : Int))) (by simp) (OpJ.lenD Try.underlying22 (ltN hN rfl) (ot 29 (.d (.list 1 (a0.fIn.map (eI .i64)))))))
        (oc (OpJ.eqlI (ltN hN rfl) (ot 27 (i6 a1)) (ot 30 (i6 (a0.fIn.length : Int))))
        (OpJs.nil)))))) (by rfl) (by rfl) ?_
      refine seqQ_n ?_
      refine AWp.ghost (mp [] [(1, (i6 a1)), (2, (i6 a2)), (3, (i6 a3)), (8, (.ptr 1008 0 [])), (10, (.ptr 1010 0 [])), (31, (bo (a1 == (a0.fIn.length : Int))))] [(1008, some (.box 30 (.st [(i6 (0 : Int)), (i6 (0 : Int)), .nils, .nils]))), (1010, some (.box 30 (.st [(i6 r4.fPort), (i6 r4.fSeconds), (.sref 100100 1 0 r4.fIn.length), (.sref 100101 1 0 r4.fOut.length)]))), (100100, some (.row 3 1 (r4.fIn.map (eI .i64)))), (100101, some (.row 3 1 (r4.fOut.map (eI .i64))))] hB) ?_
      refine AWp.cut h (fun m8 : (List Int) × (List Int) => ([(1, (i6 a1)), (2, (i6 a2)), (3, (i6 a3)), (8, (.ptr 1008 0 [])), (10, (.ptr 1010 0 []))] : EL)) (fun m8 : (List Int) × (List Int) => ([(1008, some (.box 30 (.st [(i6 (0 : Int)), (i6 (0 : Int)), .nils, .nils]))), (1010, some (.box 30 (.st [(i6 r4.fPort), (i6 r4.fSeconds), (.sref 13102 1 0 m8.2.length), (.sref 13103 1 0 m8.1.length)]))), (13102, some (.row 3 1 (m8.2.map (eI .i64)))), (13103, some (.row 3 1 (m8.1.map (eI .i64))))] : OL)) (fun m8 h E' O' hmat => ?_) (fun j9 hjj9 h => ?_)
      · refine seqQ_n ?_
        refine AWp.ghost hmat ?_
        refine AWp.seq ?_
        obtain ⟨x10, hx10, h⟩ := bindS h
        obtain ⟨x11, hx11, h⟩ := bindS h
        obtain ⟨x12, hx12, h⟩ := bindS h
        obtain ⟨x13, hx13, h⟩ := bindS h
        refine AWp.draws (by kernel_rfl) (oc (ov (.ptr 1010 2 [2]) (fp hN Try.underlying30 2 tyS22 (.box 30 (.st [(i6 r4.fPort), (i6 r4.fSeconds), (.sref 13102 1 0 m8.2.length), (.sref 13103 1 0 m8.1.length)])) (ot 10 (.ptr 1010 0 []))))
          (oc (lb hN 30 (.st [(i6 r4.fPort), (i6 r4.fSeconds), (.sref 13102 1 0 m8.2.length), (.sref 13103 1 0 m8.1.length)]) (.sref 13102 1 0 m8.2.length) tyS22 (At.st1 (f := (.sref 13102 1 0 m8.2.length)) (by rfl) (by rfl) (At.here _) (by first | rfl | omega)) (ot 42 (.ptr 1010 2 [2])))
          (oc (mv hN (ot 1 (i6 a1)))
          (oc (ov (.ptr 1010 3 [3]) (fp hN Try.underlying30 3 tyS22 (.box 30 (.st [(i6 r4.fPort), (i6 r4.fSeconds), (.sref 13102 1 0 m8.2.length), (.sref 13103 1 0 m8.1.length)])) (ot 10 (.ptr 1010 0 []))))
          (oc (lb hN 30 (.st [(i6 r4.fPort), (i6 r4.fSeconds), (.sref 13102 1 0 m8.2.length), (.sref 13103 1 0 m8.1.length)]) (.sref 13103 1 0 m8.1.length) tyS22 (At.st1 (f := (.sref 13103 1 0 m8.1.length)) (by rfl) (by rfl) (At.here _) (by first | rfl | omega)) (ot 45 (.ptr 1010 3 [3])))
          (oc (mv hN (ot 1 (i6 a1)))
          (oc (mv hN (ot 2 (i6 a2)))
          (oc (mv hN (ot 3 (i6 a3)))
          (oc (OpJ.val (v' := (.ptr 13102 (a1.toNat * 1) [a1.toNat])) (by simp) (OpJ.indexS Try.underlying22 tyS3 (obj := (.row 3 1 (m8.2.map (eI .i64)))) (idx_some hx10).1 (by have := idx_lt hx10; first | (simpa using this) | ((try simp only [List.length_map] at this); (try simp only [List.length_map]); omega)) (ltN hN rfl) (ot 43 (.sref 13102 1 0 m8.2.length)) (ot 44 (i6 a1))))
          (oc (OpJ.storeR (e := 3) (sz := 1) (es := m8.2.map (eI .i64)) (es' := (m8.2.set a1.toNat a2).map (eI .i64)) tyS3 (get_map (eI .i64) (idx_some hx11).2) (o := 0) (v := (.int .i64 a2)) (el' := (.int .i64 a2)) (SetAt.here _ _) (by rfl) (map_set _ _ _ _) (by rfl) (by rfl) (ot 50 (.ptr 13102 (a1.toNat * 1) [a1.toNat])) (ot 48 (i6 a2)))
          (oc (OpJ.val (v' := (.ptr 13103 (a1.toNat * 1) [a1.toNat])) (by simp) (OpJ.indexS Try.underlying22 tyS3 (obj := (.row 3 1 (m8.1.map (eI .i64)))) (idx_some hx12).1 (by have := idx_lt hx12; first | (simpa using this) | ((try simp only [List.length_map] at this); (try simp only [List.length_map]); omega)) (ltN hN rfl) (ot 46 (.sref 13103 1 0 m8.1.length)) (ot 47 (i6 a1))))
          (oc (OpJ.storeR (e := 3) (sz := 1) (es := m8.1.map (eI .i64)) (es' := (m8.1.set a1.toNat a3).map (eI .i64)) tyS3 (get_map (eI .i64) (idx_some hx13).2) (o := 0) (v := (.int .i64 a3)) (el' := (.int .i64 a3)) (SetAt.here _ _) (by rfl) (map_set _ _ _ _) (by rfl) (by rfl) (ot 51 (.ptr 13103 (a1.toNat * 1) [a1.toNat])) (ot 49 (i6 a3)))
          (OpJs.nil))))))))))))) (by kernel_rfl) (by rfl) (by rfl) ?_
        refine seqQ_n ?_
        refine AWp.ghost (mp [] [(8, (.ptr 1008 0 [])), (10, (.ptr 1010 0 []))] [(1008, some (.box 30 (.st [(i6 (0 : Int)), (i6 (0 : Int)), .nils, .nils]))), (1010, some (.box 30 (.st [(i6 r4.fPort), (i6 r4.fSeconds), (.sref 13102 1 0 m8.2.length), (.sref 13103 1 0 m8.1.length)]))), (13102, some (.row 3 1 ((m8.2.set a1.toNat a2).map (eI .i64)))), (13103, some (.row 3 1 ((m8.1.set a1.toNat a3).map (eI .i64))))] hB) ?_
        refine AWp.seq ?_
        refine AWp.seq ?_
        refine AWp.ghost (Mat.freezeP (n := 13102) (e := 3) (sz := 1) (es := (m8.2.set a1.toNat a2).map (eI .i64)) (Ts := []) (Bs := [(1010, some (.box 30 (.st [(i6 r4.fPort), (i6 r4.fSeconds), (.d (.list 1 ((((m8.2.set a1.toNat a2).drop 0).take m8.2.length).map (eI .i64)))), (.sref 13103 1 0 m8.1.length)])))]) (by rfl) TwT.nil (TwB.cons (x := (.st [(i6 r4.fPort), (i6 r4.fSeconds), (.sref 13102 1 0 m8.2.length), (.sref 13103 1 0 m8.1.length)])) (by rfl) (Tw.st (TwL.cons (Tw.same _) (TwL.cons (Tw.same _) (TwL.cons (FrzL.cut (fs := (((m8.2.set a1.toNat a2).drop 0).take m8.2.length).map (eI .i64)) (by simp only [List.length_map, List.length_append, List.length_take, List.length_drop, List.length_replicate, List.length_set]; omega) (by first | rw [List.map_drop, List.map_take] | simp [List.map_take, List.map_drop])) (TwL.cons (Tw.same _) TwL.nil))))) TwB.nil)) ?_
        refine AWp.ghost (Mat.freezeP (n := 13103) (e := 3) (sz := 1) (es := (m8.1.set a1.toNat a3).map (eI .i64)) (Ts := []) (Bs := [(1010, some (.box 30 (.st [(i6 r4.fPort), (i6 r4.fSeconds), (.d (.list 1 ((((m8.2.set a1.toNat a2).drop 0).take m8.2.length).map (eI .i64)))), (.d (.list 1 ((((m8.1.set a1.toNat a3).drop 0).take m8.1.length).map (eI .i64))))])))]) (by rfl) TwT.nil (TwB.cons (x := (.st [(i6 r4.fPort), (i6 r4.fSeconds), (.d (.list 1 ((((m8.2.set a1.toNat a2).drop 0).take m8.2.length).map (eI .i64)))), (.sref 13103 1 0 m8.1.length)])) (by rfl) (Tw.st (TwL.cons (Tw.same _) (TwL.cons (Tw.same _) (TwL.cons (Tw.same _) (TwL.cons (FrzL.cut (fs := (((m8.1.set a1.toNat a3).drop 0).take m8.1.length).map (eI .i64)) (by simp only [List.length_map, List.length_append, List.length_take, List.length_drop, List.length_replicate, List.length_set]; omega) (by first | rw [List.map_drop, List.map_take] | simp [List.map_take, List.map_drop])) TwL.nil))))) TwB.nil)) ?_
        obtain ⟨r14, hr14, h⟩ := bindS h
        refine AWp.region (oc (lb hN 30 (.st [(i6 r4.fPort), (i6 r4.fSeconds), (.d (.list 1 ((((m8.2.set a1.toNat a2).drop 0).take m8.2.length).map (eI .i64)))), (.d (.list 1 ((((m8.1.set a1.toNat a3).drop 0).take m8.1.length).map (eI .i64))))]) (.st [(i6 r4.fPort), (i6 r4.fSeconds), (.d (.list 1 ((((m8.2.set a1.toNat a2).drop 0).take m8.2.length).map (eI .i64)))), (.d (.list 1 ((((m8.1.set a1.toNat a3).drop 0).take m8.1.length).map (eI .i64))))]) tyS30 (At.here _) (ot 10 (.ptr 1010 0 [])))
          (oc (OpJ.callFn hB fnOk16 (percentile_Valid_ac (api_Series.mk r4.fPort r4.fSeconds (((m8.2.set a1.toNat a2).drop 0).take m8.2.length) (((m8.1.set a1.toNat a3).drop 0).take m8.1.length)) r14 hr14) [] (by kernel_rfl) (ltN hN rfl) (by kernel_rfl) (OpdL.cons (Opd.tw (ot 52 (.st [(i6 r4.fPort), (i6 r4.fSeconds), (.d (.list 1 ((((m8.2.set a1.toNat a2).drop 0).take m8.2.length).map (eI .i64)))), (.d (.list 1 ((((m8.1.set a1.toNat a3).drop 0).take m8.1.length).map (eI .i64))))])) (Tw.leaf ⟨_, (Co.st (CoL.cons (Co.d _) (CoL.cons (Co.d _) (CoL.cons (Co.d _) (CoL.cons (Co.d _) CoL.nil))))), rfl⟩)) OpdL.nil))
          (oc (OpJ.not (ltN hN rfl) (ot 53 (bo r14)))
          (OpJs.nil)))) (by rfl) (by rfl) ?_
        refine seqQ_n ?_
        refine AWp.ghost (mp [] [(8, (.ptr 1008 0 [])), (10, (.ptr 1010 0 [])), (54, (bo (!r14)))] [(1008, some (.box 30 (.st [(i6 (0 : Int)), (i6 (0 : Int)), .nils, .nils]))), (1010, some (.box 30 (.st [(i6 r4.fPort), (i6 r4.fSeconds), (.d (.list 1 ((((m8.2.set a1.toNat a2).drop 0).take m8.2.length).map (eI .i64)))), (.d (.list 1 ((((m8.1.set a1.toNat a3).drop 0).take m8.1.length).map (eI .i64))))])))] hB) ?_
        refine AWp.cond (b := (!r14)) (by rfl) (fun hg15 => ?_) (fun hg15 => ?_)
        · replace h := ite_t hg15 h
          refine AWp.seq ?_
          refine AWp.region (oc (OpJ.build (places := [(0, 1), (1, 1), (2, 1), (3, 1)]) ⟨Try.underlying30, fun w => by kernel_rfl⟩ tyZS30 Opds.nil (by kernel_rfl) (r := (.st [(i6 (0 : Int)), (i6 (0 : Int)), .nils, .nils])) (by rfl) (ltN hN rfl))
            (oc (OpJ.storeB (bt := 30) (c := (.st [(i6 (0 : Int)), (i6 (0 : Int)), .nils, .nils])) (v := (.st [(i6 (0 : Int)), (i6 (0 : Int)), .nils, .nils])) (c' := (.st [(i6 (0 : Int)), (i6 (0 : Int)), .nils, .nils])) tyS30 (SetAt.here _ _) (by rfl) (by rfl) (by simp) rfl (ot 8 (.ptr 1008 0 [])) (ot 55 (.st [(i6 (0 : Int)), (i6 (0 : Int)), .nils, .nils])))
            (oc (OpJ.assign (ltN hN rfl) (Opd.int .i64 (1)))
            (OpJs.nil)))) (by rfl) (by rfl) ?_
          refine seqQ_n ?_
          refine AWp.ghost (mp [] [(8, (.ptr 1008 0 [])), (9, (i6 (1 : Int)))] [(1008, some (.box 30 (.st [(i6 (0 : Int)), (i6 (0 : Int)), .nils, .nils])))] hB) ?_
          refine AWp.ret ?_
          refine seqQ_r ?_
          obtain rfl := Option.some.inj h
          exact ⟨.inl rfl, _, _, (Mat.trans (Mat.coeP (Ts := []) (Bs := [(1008, some (.box 30 (.d (.st [(.int .i64 (0 : Int)), (.int .i64 (0 : Int)), (.list 1 (([] : List Int).map (eI .i64))), (.list 1 (([] : List Int).map (eI .i64)))]))))]) TwT.nil (TwB.cons (x := (.st [(i6 (0 : Int)), (i6 (0 : Int)), .nils, .nils])) (by rfl) (Tw.leaf ⟨_, (Co.st (CoL.cons (Co.d _) (CoL.cons (Co.d _) (CoL.cons (Co.nils 1) (CoL.cons (Co.nils 1) CoL.nil))))), rfl⟩) TwB.nil)) (mp [] [(8, (.ptr 1008 0 [])), (9, (i6 (1 : Int)))] [(1008, some (.box 30 (.d (.st [(.int .i64 (0 : Int)), (.int .i64 (0 : Int)), (.list 1 (([] : List Int).map (eI .i64))), (.list 1 (([] : List Int).map (eI .i64)))]))))] hB)), [(.d (.st [(.int .i64 (0 : Int)), (.int .i64 (0 : Int)), (.list 1 (([] : List Int).map (eI .i64))), (.list 1 (([] : List Int).map (eI .i64)))])), (i6 (1 : Int))], (Res.cell (c := (.d (.st [(.int .i64 (0 : Int)), (.int .i64 (0 : Int)), (.list 1 (([] : List Int).map (eI .i64))), (.list 1 (([] : List Int).map (eI .i64)))]))) (by rfl) (by rfl) tyS30 (by rfl) (by rfl) (by rfl) (Res.tmp (by rfl) (by rfl) Res.nil)), rfl, by rfl, by rfl, by rfl⟩
        · replace h := ite_f hg15 h
          refine AWp.skip ?_
          refine seqQ_n ?_
          refine AWp.seq ?_
          refine AWp.region (oc (lb hN 30 (.st [(i6 r4.fPort), (i6 r4.fSeconds), (.d (.list 1 ((((m8.2.set a1.toNat a2).drop 0).take m8.2.length).map (eI .i64)))), (.d (.list 1 ((((m8.1.set a1.toNat a3).drop 0).take m8.1.length).map (eI .i64))))]) (.st [(i6 r4.fPort), (i6 r4.fSeconds), (.d (.list 1 ((((m8.2.set a1.toNat a2).drop 0).take m8.2.length).map (eI .i64)))), (.d (.list 1 ((((m8.1.set a1.toNat a3).drop 0).take m8.1.length).map (eI .i64))))]) tyS30 (At.here _) (ot 10 (.ptr 1010 0 [])))
            (oc (OpJ.storeB (bt := 30) (c := (.st [(i6 (0 : Int)), (i6 (0 : Int)), .nils, .nils])) (v := (.st [(i6 r4.fPort), (i6 r4.fSeconds), (.d (.list 1 ((((m8.2.set a1.toNat a2).drop 0).take m8.2.length).map (eI .i64)))), (.d (.list 1 ((((m8.1.set a1.toNat a3).drop 0).take m8.1.length).map (eI .i64))))])) (c' := (.st [(i6 r4.fPort), (i6 r4.fSeconds), (.d (.list 1 ((((m8.2.set a1.toNat a2).drop 0).take m8.2.length).map (eI .i64)))), (.d (.list 1 ((((m8.1.set a1.toNat a3).drop 0).take m8.1.length).map (eI .i64))))])) tyS30 (SetAt.here _ _) (by rfl) (by rfl) (by simp) rfl (ot 8 (.ptr 1008 0 [])) (ot 56 (.st [(i6 r4.fPort), (i6 r4.fSeconds), (.d (.list 1 ((((m8.2.set a1.toNat a2).drop 0).take m8.2.length).map (eI .i64)))), (.d (.list 1 ((((m8.1.set a1.toNat a3).drop 0).take m8.1.length).map (eI .i64))))])))
            (oc (OpJ.assign (ltN hN rfl) (Opd.int .i64 (0)))
            (OpJs.nil)))) (by rfl) (by rfl) ?_
          refine seqQ_n ?_
          refine AWp.ghost (mp [] [(8, (.ptr 1008 0 [])), (9, (i6 (0 : Int)))] [(1008, some (.box 30 (.st [(i6 r4.fPort), (i6 r4.fSeconds), (.d (.list 1 ((((m8.2.set a1.toNat a2).drop 0).take m8.2.length).map (eI .i64)))), (.d (.list 1 ((((m8.1.set a1.toNat a3).drop 0).take m8.1.length).map (eI .i64))))])))] hB) ?_
          refine AWp.ret ?_
          obtain rfl := Option.some.inj h
          exact ⟨.inl rfl, _, _, (Mat.trans (Mat.coeP (Ts := []) (Bs := [(1008, some (.box 30 (.d (.st [(.int .i64 r4.fPort), (.int .i64 r4.fSeconds), (.list 1 ((((m8.2.set a1.toNat a2).drop 0).take m8.2.length).map (eI .i64))), (.list 1 ((((m8.1.set a1.toNat a3).drop 0).take m8.1.length).map (eI .i64)))]))))]) TwT.nil (TwB.cons (x := (.st [(i6 r4.fPort), (i6 r4.fSeconds), (.d (.list 1 ((((m8.2.set a1.toNat a2).drop 0).take m8.2.length).map (eI .i64)))), (.d (.list 1 ((((m8.1.set a1.toNat a3).drop 0).take m8.1.length).map (eI .i64))))])) (by rfl) (Tw.leaf ⟨_, (Co.st (CoL.cons (Co.d _) (CoL.cons (Co.d _) (CoL.cons (Co.d _) (CoL.cons (Co.d _) CoL.nil))))), rfl⟩) TwB.nil)) (mp [] [(8, (.ptr 1008 0 [])), (9, (i6 (0 : Int)))] [(1008, some (.box 30 (.d (.st [(.int .i64 r4.fPort), (.int .i64 r4.fSeconds), (.list 1 ((((m8.2.set a1.toNat a2).drop 0).take m8.2.length).map (eI .i64))), (.list 1 ((((m8.1.set a1.toNat a3).drop 0).take m8.1.length).map (eI .i64)))]))))] hB)), [(.d (.st [(.int .i64 r4.fPort), (.int .i64 r4.fSeconds), (.list 1 ((((m8.2.set a1.toNat a2).drop 0).take m8.2.length).map (eI .i64))), (.list 1 ((((m8.1.set a1.toNat a3).drop 0).take m8.1.length).map (eI .i64)))])), (i6 (0 : Int))], (Res.cell (c := (.d (.st [(.int .i64 r4.fPort), (.int .i64 r4.fSeconds), (.list 1 ((((m8.2.set a1.toNat a2).drop 0).take m8.2.length).map (eI .i64))), (.list 1 ((((m8.1.set a1.toNat a3).drop 0).take m8.1.length).map (eI .i64)))]))) (by rfl) (by rfl) tyS30 (by rfl) (by rfl) (by rfl) (Res.tmp (by rfl) (by rfl) Res.nil)), rfl, by rfl, by rfl, by rfl⟩
      · refine AWp.cond (b := (a1 == (a0.fIn.length : Int))) (by rfl) (fun hg16 => ?_) (fun hg16 => ?_)
        · replace h := ite_t hg16 h
          obtain ⟨hc17, h⟩ := chk_some h
          obtain ⟨hc18, h⟩ := chk_some h
          refine AWp.draws (by kernel_rfl) (oc (ov (.ptr 1010 2 [2]) (fp hN Try.underlying30 2 tyS22 (.box 30 (.st [(i6 r4.fPort), (i6 r4.fSeconds), (.sref 100100 1 0 r4.fIn.length), (.sref 100101 1 0 r4.fOut.length)])) (ot 10 (.ptr 1010 0 []))))
            (oc (lb hN 30 (.st [(i6 r4.fPort), (i6 r4.fSeconds), (.sref 100100 1 0 r4.fIn.length), (.sref 100101 1 0 r4.fOut.length)]) (.sref 100100 1 0 r4.fIn.length) tyS22 (At.st1 (f := (.sref 100100 1 0 r4.fIn.length)) (by rfl) (by rfl) (At.here _) (by first | rfl | omega)) (ot 32 (.ptr 1010 2 [2])))
            (oc (OpJ.buildSlice Try.underlying22 tyS3 tyZD3 (by rfl) (by decide) (by decide) (Opds.cons (Opd.int .i64 (-1)) Opds.nil) (by kernel_rfl) (es := ([(.int .i64 (-1 : Int))] : List D)) (by rfl) (by rfl) (by kernel_rfl) (by simp) (ltN hN rfl))
            (oc (OpJ.append hB Try.underlying22 tyE3 (nm := 1035) (by decide) (es := r4.fIn.map (eI .i64)) (ys := ([(-1 : Int)] : List Int).map (eI .i64)) (es' := (r4.fIn ++ ([(-1 : Int)] : List Int)).map (eI .i64)) (len := (r4.fIn ++ ([(-1 : Int)] : List Int)).length) (by simp) (by simp) (map_sz (f := (eI .i64)) (fun _ => rfl)) (by rw [List.length_map]; exact lim_mulN hc17 (by decide)) (by rw [List.length_map]; exact lim_leN hc17) (ltN hN rfl) (by simp) (ot 33 (.sref 100100 1 0 r4.fIn.length)) (ot 34 (.d (.list 1 (([(-1 : Int)] : List Int).map (eI .i64))))))
            (oc (ov (.ptr 1010 3 [3]) (fp hN Try.underlying30 3 tyS22 (.box 30 (.st [(i6 r4.fPort), (i6 r4.fSeconds), (.sref 100100 1 0 r4.fIn.length), (.sref 100101 1 0 r4.fOut.length)])) (ot 10 (.ptr 1010 0 []))))
            (oc (lb hN 30 (.st [(i6 r4.fPort), (i6 r4.fSeconds), (.sref 100100 1 0 r4.fIn.length), (.sref 100101 1 0 r4.fOut.length)]) (.sref 100101 1 0 r4.fOut.length) tyS22 (At.st1 (f := (.sref 100101 1 0 r4.fOut.length)) (by rfl) (by rfl) (At.here _) (by first | rfl | omega)) (ot 36 (.ptr 1010 3 [3])))
            (oc (OpJ.buildSlice Try.underlying22 tyS3 tyZD3 (by rfl) (by decide) (by decide) (Opds.cons (Opd.int .i64 (-1)) Opds.nil) (by kernel_rfl) (es := ([(.int .i64 (-1 : Int))] : List D)) (by rfl) (by rfl) (by kernel_rfl) (by simp) (ltN hN rfl))
            (oc (OpJ.append hB Try.underlying22 tyE3 (nm := 1039) (by decide) (es := r4.fOut.map (eI .i64)) (ys := ([(-1 : Int)] : List Int).map (eI .i64)) (es' := (r4.fOut ++ ([(-1 : Int)] : List Int)).map (eI .i64)) (len := (r4.fOut ++ ([(-1 : Int)] : List Int)).length) (by simp) (by simp) (map_sz (f := (eI .i64)) (fun _ => rfl)) (by rw [List.length_map]; exact lim_mulN hc18 (by decide)) (by rw [List.length_map]; exact lim_leN hc18) (ltN hN rfl) (by simp) (ot 37 (.sref 100101 1 0 r4.fOut.length)) (ot 38 (.d (.list 1 (([(-1 : Int)] : List Int).map (eI .i64))))))
            (oc (ov (.ptr 1010 2 [2]) (fp hN Try.underlying30 2 tyS22 (.box 30 (.st [(i6 r4.fPort), (i6 r4.fSeconds), (.sref 100100 1 0 r4.fIn.length), (.sref 100101 1 0 r4.fOut.length)])) (ot 10 (.ptr 1010 0 []))))
            (oc (OpJ.storeB (bt := 30) (c := (.st [(i6 r4.fPort), (i6 r4.fSeconds), (.sref 100100 1 0 r4.fIn.length), (.sref 100101 1 0 r4.fOut.length)])) (v := (.sref 1035 1 0 ((r4.fIn ++ ([(-1 : Int)] : List Int)).length))) (c' := (.st [(i6 r4.fPort), (i6 r4.fSeconds), (.sref 1035 1 0 ((r4.fIn ++ ([(-1 : Int)] : List Int)).length)), (.sref 100101 1 0 r4.fOut.length)])) tyS22 (SetAt.st1 (f := (.sref 100100 1 0 r4.fIn.length)) (by rfl) (by rfl) (SetAt.here _ _) (by rfl) (by rfl) (by first | rfl | omega)) (by rfl) (by rfl) (by simp) rfl (ot 40 (.ptr 1010 2 [2])) (ot 35 (.sref 1035 1 0 ((r4.fIn ++ ([(-1 : Int)] : List Int)).length))))
            (oc (ov (.ptr 1010 3 [3]) (fp hN Try.underlying30 3 tyS22 (.box 30 (.st [(i6 r4.fPort), (i6 r4.fSeconds), (.sref 1035 1 0 ((r4.fIn ++ ([(-1 : Int)] : List Int)).length)), (.sref 100101 1 0 r4.fOut.length)])) (ot 10 (.ptr 1010 0 []))))
            (oc (OpJ.storeB (bt := 30) (c := (.st [(i6 r4.fPort), (i6 r4.fSeconds), (.sref 1035 1 0 ((r4.fIn ++ ([(-1 : Int)] : List Int)).length)), (.sref 100101 1 0 r4.fOut.length)])) (v := (.sref 1039 1 0 ((r4.fOut ++ ([(-1 : Int)] : List Int)).length))) (c' := (.st [(i6 r4.fPort), (i6 r4.fSeconds), (.sref 1035 1 0 ((r4.fIn ++ ([(-1 : Int)] : List Int)).length)), (.sref 1039 1 0 ((r4.fOut ++ ([(-1 : Int)] : List Int)).length))])) tyS22 (SetAt.st1 (f := (.sref 100101 1 0 r4.fOut.length)) (by rfl) (by rfl) (SetAt.here _ _) (by rfl) (by rfl) (by first | rfl | omega)) (by rfl) (by rfl) (by simp) rfl (ot 41 (.ptr 1010 3 [3])) (ot 39 (.sref 1039 1 0 ((r4.fOut ++ ([(-1 : Int)] : List Int)).length))))
            (OpJs.nil))))))))))))) (by kernel_rfl) (by rfl) (by rfl) ?_
          exact hjj9 _ h _ _ (Mat.trans (mp [] [(1, (i6 a1)), (2, (i6 a2)), (3, (i6 a3)), (8, (.ptr 1008 0 [])), (10, (.ptr 1010 0 []))] [(1008, some (.box 30 (.st [(i6 (0 : Int)), (i6 (0 : Int)), .nils, .nils]))), (1010, some (.box 30 (.st [(i6 r4.fPort), (i6 r4.fSeconds), (.sref 1035 1 0 ((r4.fIn ++ ([(-1 : Int)] : List Int)).length)), (.sref 1039 1 0 ((r4.fOut ++ ([(-1 : Int)] : List Int)).length))]))), (1035, some (.row 3 1 ((r4.fIn ++ ([(-1 : Int)] : List Int)).map (eI .i64)))), (1039, some (.row 3 1 ((r4.fOut ++ ([(-1 : Int)] : List Int)).map (eI .i64))))] hB) (mp [(13102, 1035), (13103, 1039)] ((fun m8 : (List Int) × (List Int) => ([(1, (i6 a1)), (2, (i6 a2)), (3, (i6 a3)), (8, (.ptr 1008 0 [])), (10, (.ptr 1010 0 []))] : EL)) ((r4.fOut ++ ([(-1 : Int)] : List Int)), (r4.fIn ++ ([(-1 : Int)] : List Int)))) ((fun m8 : (List Int) × (List Int) => ([(1008, some (.box 30 (.st [(i6 (0 : Int)), (i6 (0 : Int)), .nils, .nils]))), (1010, some (.box 30 (.st [(i6 r4.fPort), (i6 r4.fSeconds), (.sref 13102 1 0 m8.2.length), (.sref 13103 1 0 m8.1.length)]))), (13102, some (.row 3 1 (m8.2.map (eI .i64)))), (13103, some (.row 3 1 (m8.1.map (eI .i64))))] : OL)) ((r4.fOut ++ ([(-1 : Int)] : List Int)), (r4.fIn ++ ([(-1 : Int)] : List Int)))) hB))
        · replace h := ite_f hg16 h
          refine AWp.skip ?_
          exact hjj9 _ h _ _ (mp [(13102, 100100), (13103, 100101)] ((fun m8 : (List Int) × (List Int) => ([(1, (i6 a1)), (2, (i6 a2)), (3, (i6 a3)), (8, (.ptr 1008 0 [])), (10, (.ptr 1010 0 []))] : EL)) (r4.fOut, r4.fIn)) ((fun m8 : (List Int) × (List Int) => ([(1008, some (.box 30 (.st [(i6 (0 : Int)), (i6 (0 : Int)), .nils, .nils]))), (1010, some (.box 30 (.st [(i6 r4.fPort), (i6 r4.fSeconds), (.sref 13102 1 0 m8.2.length), (.sref 13103 1 0 m8.1.length)]))), (13102, some (.row 3 1 (m8.2.map (eI .i64)))), (13103, some (.row 3 1 (m8.1.map (eI .i64))))] : OL)) (r4.fOut, r4.fIn)) hB)

noncomputable def exchangepointref40_Put (a0 : api_Series) (a1 : Int) (a2 : Int) (a3 : Int) : Option (api_Series × Int) :=
  (exchangepointref40_Valid a0).bind fun r1 =>
  (if (!r1) = true then
  some ((api_Series.mk (0 : Int) (0 : Int) ([] : List Int) ([] : List Int)), (1 : Int))
  else
  (if ((decide (a1 < (0 : Int))) || (decide ((a0.fIn.length : Int) < a1))) = true then
  some ((api_Series.mk (0 : Int) (0 : Int) ([] : List Int) ([] : List Int)), (9 : Int))
  else
  (exchangepointref40_Copy_3 a0).bind fun r4 =>
  jn (fun m8 : (List Int) × (List Int) =>
  (idx m8.2 a1).bind fun x10 =>
  (idx m8.2 a1).bind fun x11 =>
  (idx m8.1 a1).bind fun x12 =>
  (idx m8.1 a1).bind fun x13 =>
  (exchangepointref40_Valid (api_Series.mk r4.fPort r4.fSeconds (((m8.2.set a1.toNat a2).drop 0).take m8.2.length) (((m8.1.set a1.toNat a3).drop 0).take m8.1.length))).bind fun r14 =>
  (if (!r14) = true then
  some ((api_Series.mk (0 : Int) (0 : Int) ([] : List Int) ([] : List Int)), (1 : Int))
  else
  some ((api_Series.mk r4.fPort r4.fSeconds (((m8.2.set a1.toNat a2).drop 0).take m8.2.length) (((m8.1.set a1.toNat a3).drop 0).take m8.1.length)), (0 : Int)))) (fun j9 =>
  (if (a1 == (a0.fIn.length : Int)) = true then
  chk (decide ((r4.fIn ++ ([(0 : Int)] : List Int)).length ≤ LIM)) <|
  chk (decide ((r4.fOut ++ ([(0 : Int)] : List Int)).length ≤ LIM)) <|
  j9 ((r4.fOut ++ ([(0 : Int)] : List Int)), (r4.fIn ++ ([(0 : Int)] : List Int)))
  else
  j9 (r4.fOut, r4.fIn)))))
set_option maxHeartbeats 4000000 in
set_option maxRecDepth 100000 in
theorem exchangepointref40_Put_ac (a0 : api_Series) (a1 : Int) (a2 : Int) (a3 : Int) (r : api_Series × Int) (h : exchangepointref40_Put a0 a1 a2 a3 = some r) : AC Try.prog 29 [(.d (e_api_Series a0)), (.d (.int .i64 a1)), (.d (.int .i64 a2)), (.d (.int .i64 a3))] [] (.tup [(.d (e_api_Series r.1)), (.d (.int .i64 r.2))]) [] := by
  refine AC.of_code2 Try.func29 rfl rfl (Nat.le_of_ble_eq_true (by rfl)) fun B hB hN => ?_
  delta exchangepointref40_Put at h
  refine AWp.seq ?_
  refine AWp.region (oc (OpJ.box hB (nm := 1004) (by decide) (by simp) rfl (ltN hN rfl) (ot 0 (.d (e_api_Series a0))))
  (oc (OpJ.alloc hB tyZ30 (nm := 1008) (by decide) (ltN hN rfl))
  (oc (OpJ.assign (ltN hN rfl) (Opd.int .i64 (0)))
  (OpJs.nil)))) (by rfl) (by rfl) ?_
  refine seqQ_n ?_
  refine AWp.ghost (mp [] [(1, (i6 a1)), (2, (i6 a2)), (3, (i6 a3)), (4, (.ptr 1004 0 [])), (8, (.ptr 1008 0 []))] [(1004, some (.box 30 (.d (e_api_Series a0)))), (1008, some (.box 30 (.st [(i6 (0 : Int)), (i6 (0 : Int)), .nils, .nils])))] hB) ?_
  refine AWp.seq ?_
  refine AWp.seq ?_
  obtain ⟨r1, hr1, h⟩ := bindS h
  refine AWp.region (oc (lb hN 30 (.d (e_api_Series a0)) (.d (e_api_Series a0)) tyS30 (At.here _) (ot 4 (.ptr 1004 0 [])))
  (oc (OpJ.callFn hB fnOk17 (exchangepointref40_Valid_ac a0 r1 hr1) [] (by kernel_rfl) (ltN hN rfl) (by kernel_rfl) (OpdL.cons (ot 11 (.d (e_api_Series a0))) OpdL.nil))
  (oc (OpJ.not (ltN hN rfl) (ot 12 (bo r1)))
  (OpJs.nil)))) (by rfl) (by rfl) ?_
  refine seqQ_n ?_
  refine AWp.ghost (mp [] [(1, (i6 a1)), (2, (i6 a2)), (3, (i6 a3)), (4, (.ptr 1004 0 [])), (8, (.ptr 1008 0 [])), (13, (bo (!r1)))] [(1004, some (.box 30 (.d (e_api_Series a0)))), (1008, some (.box 30 (.st [(i6 (0 : Int)), (i6 (0 : Int)), .nils, .nils])))] hB) ?_
  refine AWp.cond (b := (!r1)) (by rfl) (fun hg2 => ?_) (fun hg2 => ?_)
  · replace h := ite_t hg2 h
    refine AWp.seq ?_
    refine AWp.region (oc (OpJ.build (places := [(0, 1), (1, 1), (2, 1), (3, 1)]) ⟨Try.underlying30, fun w => by kernel_rfl⟩ tyZS30 Opds.nil (by kernel_rfl) (r := (.st [(i6 (0 : Int)), (i6 (0 : Int)), .nils, .nils])) (by rfl) (ltN hN rfl))
      (oc (OpJ.storeB (bt := 30) (c := (.st [(i6 (0 : Int)), (i6 (0 : Int)), .nils, .nils])) (v := (.st [(i6 (0 : Int)), (i6 (0 : Int)), .nils, .nils])) (c' := (.st [(i6 (0 : Int)), (i6 (0 : Int)), .nils, .nils])) tyS30 (SetAt.here _ _) (by rfl) (by rfl) (by simp) rfl (ot 8 (.ptr 1008 0 [])) (ot 14 (.st [(i6 (0 : Int)), (i6 (0 : Int)), .nils, .nils])))
      (oc (OpJ.assign (ltN hN rfl) (Opd.int .i64 (1)))
      (OpJs.nil)))) (by rfl) (by rfl) ?_
    refine seqQ_n ?_
    refine AWp.ghost (mp [] [(8, (.ptr 1008 0 [])), (9, (i6 (1 : Int)))] [(1008, some (.box 30 (.st [(i6 (0 : Int)), (i6 (0 : Int)), .nils, .nils])))] hB) ?_
    refine AWp.ret ?_
    refine seqQ_r ?_
    obtain rfl := Option.some.inj h
    exact ⟨.inl rfl, _, _, (Mat.trans (Mat.coeP (Ts := []) (Bs := [(1008, some (.box 30 (.d (.st [(.int .i64 (0 : Int)), (.int .i64 (0 : Int)), (.list 1 (([] : List Int).map (eI .i64))), (.list 1 (([] : List Int).map (eI .i64)))]))))]) TwT.nil (TwB.cons (x := (.st [(i6 (0 : Int)), (i6 (0 : Int)), .nils, .nils])) (by rfl) (Tw.leaf ⟨_, (Co.st (CoL.cons (Co.d _) (CoL.cons (Co.d _) (CoL.cons (Co.nils 1) (CoL.cons (Co.nils 1) CoL.nil))))), rfl⟩) TwB.nil)) (mp [] [(8, (.ptr 1008 0 [])), (9, (i6 (1 : Int)))] [(1008, some (.box 30 (.d (.st [(.int .i64 (0 : Int)), (.int .i64 (0 : Int)), (.list 1 (([] : List Int).map (eI .i64))), (.list 1 (([] : List Int).map (eI .i64)))]))))] hB)), [(.d (.st [(.int .i64 (0 : Int)), (.int .i64 (0 : Int)), (.list 1 (([] : List Int).map (eI .i64))), (.list 1 (([] : List Int).map (eI .i64)))])), (i6 (1 : Int))], (Res.cell (c := (.d (.st [(.int .i64 (0 : Int)), (.int .i64 (0 : Int)), (.list 1 (([] : List Int).map (eI .i64))), (.list 1 (([] : List Int).map (eI .i64)))]))) (by rfl) (by rfl) tyS30 (by rfl) (by rfl) (by rfl) (Res.tmp (by rfl) (by rfl) Res.nil)), rfl, by rfl, by rfl, by rfl⟩
  · replace h := ite_f hg2 h
    refine AWp.skip ?_
    refine seqQ_n ?_
    refine AWp.seq ?_
    refine AWp.seq ?_
    refine AWp.region (oc (mv hN (ot 1 (i6 a1)))
      (oc (OpJ.lss (ltN hN rfl) (ot 15 (i6 a1)) (Opd.int .i64 (0)))
      (oc (mv hN (ot 16 (bo (decide (a1 < (0 : Int))))))
      (oc (op hN (i6 a1) (mv hN (ot 1 (i6 a1))) (OptL.keep rfl OptL.nil) (GuardV.plain _))
      (oc (op hN (.ptr 1004 2 [2]) (ov (.ptr 1004 2 [2]) (fp hN Try.underlying30 2 tyS22 (.box 30 (.d (e_api_Series a0))) (ot 4 (.ptr 1004 0 [])))) (OptL.keep rfl OptL.nil) (GuardV.plain _))
      (oc (op hN (.d (.list 1 (a0.fIn.map (eI .i64)))) (lb hN 30 (.d (e_api_Series a0)) (.d (.list 1 (a0.fIn.map (eI .i64)))) tyS22 (ad (.list 1 (a0.fIn.map (eI .i64)))) (ot 19 (.ptr 1004 2 [2]))) (OptL.opt OptL.nil) (GuardV.plain _))
      (oc (op hN (i6 (a0.fIn.length : Int)) (OpJ.val (v' := (i6 (a0.fIn.length : Int))) (by simp) (OpJ.lenD Try.underlying22 (ltN hN rfl) (ot 20 (.d (.list 1 (a0.fIn.map (eI .i64))))))) (OptL.opt OptL.nil) (GuardV.plain _))
      (oc (op hN (bo (decide ((a0.fIn.length : Int) < a1))) (OpJ.gtr (ltN hN rfl) (ot 18 (i6 a1)) (ot 21 (i6 (a0.fIn.length : Int)))) (OptL.opt (OptL.opt OptL.nil)) (GuardV.plain _))
      (oc (OpJ.pickOr rfl (ltN hN rfl) (ot 17 (bo (decide (a1 < (0 : Int))))) (ot 22 (.opt ((decide (a1 < (0 : Int))) == false) (bo (decide ((a0.fIn.length : Int) < a1))))))
      (OpJs.nil)))))))))) (by rfl) (by rfl) ?_
    refine seqQ_n ?_
    refine AWp.ghost (mp [] [(1, (i6 a1)), (2, (i6 a2)), (3, (i6 a3)), (4, (.ptr 1004 0 [])), (8, (.ptr 1008 0 [])), (23, (bo ((decide (a1 < (0 : Int))) || (decide ((a0.fIn.length : Int) < a1)))))] [(1004, some (.box 30 (.d (e_api_Series a0)))), (1008, some (.box 30 (.st [(i6 (0 : Int)), (i6 (0 : Int)), .nils, .nils])))] hB) ?_
    refine AWp.cond (b := ((decide (a1 < (0 : Int))) || (decide ((a0.fIn.length : Int) < a1)))) (by rfl) (fun hg3 => ?_) (fun hg3 => ?_)
    · replace h := ite_t hg3 h
      refine AWp.seq ?_
      refine AWp.region (oc (OpJ.build (places := [(0, 1), (1, 1), (2, 1), (3, 1)]) ⟨Try.underlying30, fun w => by kernel_rfl⟩ tyZS30 Opds.nil (by kernel_rfl) (r := (.st [(i6 (0 : Int)), (i6 (0 : Int)), .nils, .nils])) (by rfl) (ltN hN rfl))
        (oc (OpJ.storeB (bt := 30) (c := (.st [(i6 (0 : Int)), (i6 (0 : Int)), .nils, .nils])) (v := (.st [(i6 (0 : Int)), (i6 (0 : Int)), .nils, .nils])) (c' := (.st [(i6 (0 : Int)), (i6 (0 : Int)), .nils, .nils])) tyS30 (SetAt.here _ _) (by rfl) (by rfl) (by simp) rfl (ot 8 (.ptr 1008 0 [])) (ot 24 (.st [(i6 (0 : Int)), (i6 (0 : Int)), .nils, .nils])))
        (oc (OpJ.assign (ltN hN rfl) (Opd.int .i64 (9)))
        (OpJs.nil)))) (by rfl) (by rfl) ?_
      refine seqQ_n ?_
      refine AWp.ghost (mp [] [(8, (.ptr 1008 0 [])), (9, (i6 (9 : Int)))] [(1008, some (.box 30 (.st [(i6 (0 : Int)), (i6 (0 : Int)), .nils, .nils])))] hB) ?_
      refine AWp.ret ?_
      refine seqQ_r ?_
      obtain rfl := Option.some.inj h
      exact ⟨.inl rfl, _, _, (Mat.trans (Mat.coeP (Ts := []) (Bs := [(1008, some (.box 30 (.d (.st [(.int .i64 (0 : Int)), (.int .i64 (0 : Int)), (.list 1 (([] : List Int).map (eI .i64))), (.list 1 (([] : List Int).map (eI .i64)))]))))]) TwT.nil (TwB.cons (x := (.st [(i6 (0 : Int)), (i6 (0 : Int)), .nils, .nils])) (by rfl) (Tw.leaf ⟨_, (Co.st (CoL.cons (Co.d _) (CoL.cons (Co.d _) (CoL.cons (Co.nils 1) (CoL.cons (Co.nils 1) CoL.nil))))), rfl⟩) TwB.nil)) (mp [] [(8, (.ptr 1008 0 [])), (9, (i6 (9 : Int)))] [(1008, some (.box 30 (.d (.st [(.int .i64 (0 : Int)), (.int .i64 (0 : Int)), (.list 1 (([] : List Int).map (eI .i64))), (.list 1 (([] : List Int).map (eI .i64)))]))))] hB)), [(.d (.st [(.int .i64 (0 : Int)), (.int .i64 (0 : Int)), (.list 1 (([] : List Int).map (eI .i64))), (.list 1 (([] : List Int).map (eI .i64)))])), (i6 (9 : Int))], (Res.cell (c := (.d (.st [(.int .i64 (0 : Int)), (.int .i64 (0 : Int)), (.list 1 (([] : List Int).map (eI .i64))), (.list 1 (([] : List Int).map (eI .i64)))]))) (by rfl) (by rfl) tyS30 (by rfl) (by rfl) (by rfl) (Res.tmp (by rfl) (by rfl) Res.nil)), rfl, by rfl, by rfl, by rfl⟩
    · replace h := ite_f hg3 h
      refine AWp.skip ?_
      refine seqQ_n ?_
      refine AWp.seq ?_
      obtain ⟨r4, hr4, h⟩ := bindS h
      refine AWp.region (oc (lb hN 30 (.d (e_api_Series a0)) (.d (e_api_Series a0)) tyS30 (At.here _) (ot 4 (.ptr 1004 0 [])))
        (oc (OpJ.callFn hB fnOk13 (exchangepointref40_Copy_3_ac a0 r4 hr4) [(900000, 100100), (900001, 100101)] (by kernel_rfl) (ltN hN rfl) (by kernel_rfl) (OpdL.cons (ot 25 (.d (e_api_Series a0))) OpdL.nil))
        (oc (OpJ.alloc hB tyZ30 (nm := 1010) (by decide) (ltN hN rfl))
        (oc (OpJ.storeB (bt := 30) (c := (.st [(i6 (0 : Int)), (i6 (0 : Int)), .nils, .nils])) (v := (.st [(i6 r4.fPort), (i6 r4.fSeconds), (.sref 100100 1 0 r4.fIn.length), (.sref 100101 1 0 r4.fOut.length)])) (c' := (.st [(i6 r4.fPort), (i6 r4.fSeconds), (.sref 100100 1 0 r4.fIn.length), (.sref 100101 1 0 r4.fOut.length)])) tyS30 (SetAt.here _ _) (by rfl) (by rfl) (by simp) rfl (ot 10 (.ptr 1010 0 [])) (ot 26 (.st [(i6 r4.fPort), (i6 r4.fSeconds), (.sref 100100 1 0 r4.fIn.length), (.sref 100101 1 0 r4.fOut.length)])))
        (OpJs.nil))))) (by rfl) (by rfl) ?_
      refine seqQ_n ?_
      refine AWp.ghost (mp [] [(1, (i6 a1)), (2, (i6 a2)), (3, (i6 a3)), (4, (.ptr 1004 0 [])), (8, (.ptr 1008 0 [])), (10, (.ptr 1010 0 []))] [(1004, some (.box 30 (.d (e_api_Series a0)))), (1008, some (.box 30 (.st [(i6 (0 : Int)), (i6 (0 : Int)), .nils, .nils]))), (1010, some (.box 30 (.st [(i6 r4.fPort), (i6 r4.fSeconds), (.sref 100100 1 0 r4.fIn.length), (.sref 100101 1 0 r4.fOut.length)]))), (100100, some (.row 3 1 (r4.fIn.map (eI .i64)))), (100101, some (.row 3 1 (r4.fOut.map (eI .i64))))] hB) ?_
      refine AWp.seq ?_
      refine AWp.seq ?_
      refine AWp.region (oc (mv hN (ot 1 (i6 a1)))
        (oc (ov (.ptr 1004 2 [2]) (fp hN Try.underlying30 2 tyS22 (.box 30 (.d (e_api_Series a0))) (ot 4 (.ptr 1004 0 []))))
        (oc (lb hN 30 (.d (e_api_Series a0)) (.d (.list 1 (a0.fIn.map (eI .i64)))) tyS22 (ad (.list 1 (a0.fIn.map (eI .i64)))) (ot 28 (.ptr 1004 2 [2])))
        (oc (OpJ.val (v' := (i6 (a0.fIn.length : Int))) (by simp) (OpJ.lenD Try.underlying22 (ltN hN rfl) (ot 29 (.d (.list 1 (a0.fIn.map (eI .i64)))))))
        (oc (OpJ.eqlI (ltN hN rfl) (ot 27 (i6 a1)) (ot 30 (i6 (a0.fIn.length : Int))))
        (OpJs.nil)))))) (by rfl) (by rfl) ?_
      refine seqQ_n ?_
      refine AWp.ghost (mp [] [(1, (i6 a1)), (2, (i6 a2)), (3, (i6 a3)), (8, (.ptr 1008 0 [])), (10, (.ptr 1010 0 [])), (31, (bo (a1 == (a0.fIn.length : Int))))] [(1008, some (.box 30 (.st [(i6 (0 : Int)), (i6 (0 : Int)), .nils, .nils]))), (1010, some (.box 30 (.st [(i6 r4.fPort), (i6 r4.fSeconds), (.sref 100100 1 0 r4.fIn.length), (.sref 100101 1 0 r4.fOut.length)]))), (100100, some (.row 3 1 (r4.fIn.map (eI .i64)))), (100101, some (.row 3 1 (r4.fOut.map (eI .i64))))] hB) ?_
      refine AWp.cut h (fun m8 : (List Int) × (List Int) => ([(1, (i6 a1)), (2, (i6 a2)), (3, (i6 a3)), (8, (.ptr 1008 0 [])), (10, (.ptr 1010 0 []))] : EL)) (fun m8 : (List Int) × (List Int) => ([(1008, some (.box 30 (.st [(i6 (0 : Int)), (i6 (0 : Int)), .nils, .nils]))), (1010, some (.box 30 (.st [(i6 r4.fPort), (i6 r4.fSeconds), (.sref 13102 1 0 m8.2.length), (.sref 13103 1 0 m8.1.length)]))), (13102, some (.row 3 1 (m8.2.map (eI .i64)))), (13103, some (.row 3 1 (m8.1.map (eI .i64))))] : OL)) (fun m8 h E' O' hmat => ?_) (fun j9 hjj9 h => ?_)
      · refine seqQ_n ?_
        refine AWp.ghost hmat ?_
        refine AWp.seq ?_
        obtain ⟨x10, hx10, h⟩ := bindS h
        obtain ⟨x11, hx11, h⟩ := bindS h
        obtain ⟨x12, hx12, h⟩ := bindS h
        obtain ⟨x13, hx13, h⟩ := bindS h
        refine AWp.draws (by kernel_rfl) (oc (ov (.ptr 1010 2 [2]) (fp hN Try.underlying30 2 tyS22 (.box 30 (.st [(i6 r4.fPort), (i6 r4.fSeconds), (.sref 13102 1 0 m8.2.length), (.sref 13103 1 0 m8.1.length)])) (ot 10 (.ptr 1010 0 []))))
          (oc (lb hN 30 (.st [(i6 r4.fPort), (i6 r4.fSeconds), (.sref 13102 1 0 m8.2.length), (.sref 13103 1 0 m8.1.length)]) (.sref 13102 1 0 m8.2.length) tyS22 (At.st1 (f := (.sref 13102 1 0 m8.2.length)) (by rfl) (by rfl) (At.here _) (by first | rfl | omega)) (ot 42 (.ptr 1010 2 [2])))
          (oc (mv hN (ot 1 (i6 a1)))
          (oc (ov (.ptr 1010 3 [3]) (fp hN Try.underlying30 3 tyS22 (.box 30 (.st [(i6 r4.fPort), (i6 r4.fSeconds), (.sref 13102 1 0 m8.2.length), (.sref 13103 1 0 m8.1.length)])) (ot 10 (.ptr 1010 0 []))))
          (oc (lb hN 30 (.st [(i6 r4.fPort), (i6 r4.fSeconds), (.sref 13102 1 0 m8.2.length), (.sref 13103 1 0 m8.1.length)]) (.sref 13103 1 0 m8.1.length) tyS22 (At.st1 (f := (.sref 13103 1 0 m8.1.length)) (by rfl) (by rfl) (At.here _) (by first | rfl | omega)) (ot 45 (.ptr 1010 3 [3])))
          (oc (mv hN (ot 1 (i6 a1)))
          (oc (mv hN (ot 2 (i6 a2)))
          (oc (mv hN (ot 3 (i6 a3)))
          (oc (OpJ.val (v' := (.ptr 13102 (a1.toNat * 1) [a1.toNat])) (by simp) (OpJ.indexS Try.underlying22 tyS3 (obj := (.row 3 1 (m8.2.map (eI .i64)))) (idx_some hx10).1 (by have := idx_lt hx10; first | (simpa using this) | ((try simp only [List.length_map] at this); (try simp only [List.length_map]); omega)) (ltN hN rfl) (ot 43 (.sref 13102 1 0 m8.2.length)) (ot 44 (i6 a1))))
          (oc (OpJ.storeR (e := 3) (sz := 1) (es := m8.2.map (eI .i64)) (es' := (m8.2.set a1.toNat a2).map (eI .i64)) tyS3 (get_map (eI .i64) (idx_some hx11).2) (o := 0) (v := (.int .i64 a2)) (el' := (.int .i64 a2)) (SetAt.here _ _) (by rfl) (map_set _ _ _ _) (by rfl) (by rfl) (ot 50 (.ptr 13102 (a1.toNat * 1) [a1.toNat])) (ot 48 (i6 a2)))
          (oc (OpJ.val (v' := (.ptr 13103 (a1.toNat * 1) [a1.toNat])) (by simp) (OpJ.indexS Try.underlying22 tyS3 (obj := (.row 3 1 (m8.1.map (eI .i64)))) (idx_some hx12).1 (by have := idx_lt hx12; first | (simpa using this) | ((try simp only [List.length_map] at this); (try simp only [List.length_map]); omega)) (ltN hN rfl) (ot 46 (.sref 13103 1 0 m8.1.length)) (ot 47 (i6 a1))))
          (oc (OpJ.storeR (e := 3) (sz := 1) (es := m8.1.map (eI .i64)) (es' := (m8.1.set a1.toNat a3).map (eI .i64)) tyS3 (get_map (eI .i64) (idx_some hx13).2) (o := 0) (v := (.int .i64 a3)) (el' := (.int .i64 a3)) (SetAt.here _ _) (by rfl) (map_set _ _ _ _) (by rfl) (by rfl) (ot 51 (.ptr 13103 (a1.toNat * 1) [a1.toNat])) (ot 49 (i6 a3)))
          (OpJs.nil))))))))))))) (by kernel_rfl) (by rfl) (by rfl) ?_
        refine seqQ_n ?_
        refine AWp.ghost (mp [] [(8, (.ptr 1008 0 [])), (10, (.ptr 1010 0 []))] [(1008, some (.box 30 (.st [(i6 (0 : Int)), (i6 (0 : Int)), .nils, .nils]))), (1010, some (.box 30 (.st [(i6 r4.fPort), (i6 r4.fSeconds), (.sref 13102 1 0 m8.2.length), (.sref 13103 1 0 m8.1.length)]))), (13102, some (.row 3 1 ((m8.2.set a1.toNat a2).map (eI .i64)))), (13103, some (.row 3 1 ((m8.1.set a1.toNat a3).map (eI .i64))))] hB) ?_
        refine AWp.seq ?_
        refine AWp.seq ?_
        refine AWp.ghost (Mat.freezeP (n := 13102) (e := 3) (sz := 1) (es := (m8.2.set a1.toNat a2).map (eI .i64)) (Ts := []) (Bs := [(1010, some (.box 30 (.st [(i6 r4.fPort), (i6 r4.fSeconds), (.d (.list 1 ((((m8.2.set a1.toNat a2).drop 0).take m8.2.length).map (eI .i64)))), (.sref 13103 1 0 m8.1.length)])))]) (by rfl) TwT.nil (TwB.cons (x := (.st [(i6 r4.fPort), (i6 r4.fSeconds), (.sref 13102 1 0 m8.2.length), (.sref 13103 1 0 m8.1.length)])) (by rfl) (Tw.st (TwL.cons (Tw.same _) (TwL.cons (Tw.same _) (TwL.cons (FrzL.cut (fs := (((m8.2.set a1.toNat a2).drop 0).take m8.2.length).map (eI .i64)) (by simp only [List.length_map, List.length_append, List.length_take, List.length_drop, List.length_replicate, List.length_set]; omega) (by first | rw [List.map_drop, List.map_take] | simp [List.map_take, List.map_drop])) (TwL.cons (Tw.same _) TwL.nil))))) TwB.nil)) ?_
        refine AWp.ghost (Mat.freezeP (n := 13103) (e := 3) (sz := 1) (es := (m8.1.set a1.toNat a3).map (eI .i64)) (Ts := []) (Bs := [(1010, some (.box 30 (.st [(i6 r4.fPort), (i6 r4.fSeconds), (.d (.list 1 ((((m8.2.set a1.toNat a2).drop 0).take m8.2.length).map (eI .i64)))), (.d (.list 1 ((((m8.1.set a1.toNat a3).drop 0).take m8.1.length).map (eI .i64))))])))]) (by rfl) TwT.nil (TwB.cons (x := (.st [(i6 r4.fPort), (i6 r4.fSeconds), (.d (.list 1 ((((m8.2.set a1.toNat a2).drop 0).take m8.2.length).map (eI .i64)))), (.sref 13103 1 0 m8.1.length)])) (by rfl) (Tw.st (TwL.cons (Tw.same _) (TwL.cons (Tw.same _) (TwL.cons (Tw.same _) (TwL.cons (FrzL.cut (fs := (((m8.1.set a1.toNat a3).drop 0).take m8.1.length).map (eI .i64)) (by simp only [List.length_map, List.length_append, List.length_take, List.length_drop, List.length_replicate, List.length_set]; omega) (by first | rw [List.map_drop, List.map_take] | simp [List.map_take, List.map_drop])) TwL.nil))))) TwB.nil)) ?_
        obtain ⟨r14, hr14, h⟩ := bindS h
        refine AWp.region (oc (lb hN 30 (.st [(i6 r4.fPort), (i6 r4.fSeconds), (.d (.list 1 ((((m8.2.set a1.toNat a2).drop 0).take m8.2.length).map (eI .i64)))), (.d (.list 1 ((((m8.1.set a1.toNat a3).drop 0).take m8.1.length).map (eI .i64))))]) (.st [(i6 r4.fPort), (i6 r4.fSeconds), (.d (.list 1 ((((m8.2.set a1.toNat a2).drop 0).take m8.2.length).map (eI .i64)))), (.d (.list 1 ((((m8.1.set a1.toNat a3).drop 0).take m8.1.length).map (eI .i64))))]) tyS30 (At.here _) (ot 10 (.ptr 1010 0 [])))
          (oc (OpJ.callFn hB fnOk17 (exchangepointref40_Valid_ac (api_Series.mk r4.fPort r4.fSeconds (((m8.2.set a1.toNat a2).drop 0).take m8.2.length) (((m8.1.set a1.toNat a3).drop 0).take m8.1.length)) r14 hr14) [] (by kernel_rfl) (ltN hN rfl) (by kernel_rfl) (OpdL.cons (Opd.tw (ot 52 (.st [(i6 r4.fPort), (i6 r4.fSeconds), (.d (.list 1 ((((m8.2.set a1.toNat a2).drop 0).take m8.2.length).map (eI .i64)))), (.d (.list 1 ((((m8.1.set a1.toNat a3).drop 0).take m8.1.length).map (eI .i64))))])) (Tw.leaf ⟨_, (Co.st (CoL.cons (Co.d _) (CoL.cons (Co.d _) (CoL.cons (Co.d _) (CoL.cons (Co.d _) CoL.nil))))), rfl⟩)) OpdL.nil))
          (oc (OpJ.not (ltN hN rfl) (ot 53 (bo r14)))
          (OpJs.nil)))) (by rfl) (by rfl) ?_
        refine seqQ_n ?_
        refine AWp.ghost (mp [] [(8, (.ptr 1008 0 [])), (10, (.ptr 1010 0 [])), (54, (bo (!r14)))] [(1008, some (.box 30 (.st [(i6 (0 : Int)), (i6 (0 : Int)), .nils, .nils]))), (1010, some (.box 30 (.st [(i6 r4.fPort), (i6 r4.fSeconds), (.d (.list 1 ((((m8.2.set a1.toNat a2).drop 0).take m8.2.length).map (eI .i64)))), (.d (.list 1 ((((m8.1.set a1.toNat a3).drop 0).take m8.1.length).map (eI .i64))))])))] hB) ?_
        refine AWp.cond (b := (!r14)) (by rfl) (fun hg15 => ?_) (fun hg15 => ?_)
        · replace h := ite_t hg15 h
          refine AWp.seq ?_
          refine AWp.region (oc (OpJ.build (places := [(0, 1), (1, 1), (2, 1), (3, 1)]) ⟨Try.underlying30, fun w => by kernel_rfl⟩ tyZS30 Opds.nil (by kernel_rfl) (r := (.st [(i6 (0 : Int)), (i6 (0 : Int)), .nils, .nils])) (by rfl) (ltN hN rfl))
            (oc (OpJ.storeB (bt := 30) (c := (.st [(i6 (0 : Int)), (i6 (0 : Int)), .nils, .nils])) (v := (.st [(i6 (0 : Int)), (i6 (0 : Int)), .nils, .nils])) (c' := (.st [(i6 (0 : Int)), (i6 (0 : Int)), .nils, .nils])) tyS30 (SetAt.here _ _) (by rfl) (by rfl) (by simp) rfl (ot 8 (.ptr 1008 0 [])) (ot 55 (.st [(i6 (0 : Int)), (i6 (0 : Int)), .nils, .nils])))
            (oc (OpJ.assign (ltN hN rfl) (Opd.int .i64 (1)))
            (OpJs.nil)))) (by rfl) (by rfl) ?_
          refine seqQ_n ?_
          refine AWp.ghost (mp [] [(8, (.ptr 1008 0 [])), (9, (i6 (1 : Int)))] [(1008, some (.box 30 (.st [(i6 (0 : Int)), (i6 (0 : Int)), .nils, .nils])))] hB) ?_
          refine AWp.ret ?_
          refine seqQ_r ?_
          obtain rfl := Option.some.inj h
          exact ⟨.inl rfl, _, _, (Mat.trans (Mat.coeP (Ts := []) (Bs := [(1008, some (.box 30 (.d (.st [(.int .i64 (0 : Int)), (.int .i64 (0 : Int)), (.list 1 (([] : List Int).map (eI .i64))), (.list 1 (([] : List Int).map (eI .i64)))]))))]) TwT.nil (TwB.cons (x := (.st [(i6 (0 : Int)), (i6 (0 : Int)), .nils, .nils])) (by rfl) (Tw.leaf ⟨_, (Co.st (CoL.cons (Co.d _) (CoL.cons (Co.d _) (CoL.cons (Co.nils 1) (CoL.cons (Co.nils 1) CoL.nil))))), rfl⟩) TwB.nil)) (mp [] [(8, (.ptr 1008 0 [])), (9, (i6 (1 : Int)))] [(1008, some (.box 30 (.d (.st [(.int .i64 (0 : Int)), (.int .i64 (0 : Int)), (.list 1 (([] : List Int).map (eI .i64))), (.list 1 (([] : List Int).map (eI .i64)))]))))] hB)), [(.d (.st [(.int .i64 (0 : Int)), (.int .i64 (0 : Int)), (.list 1 (([] : List Int).map (eI .i64))), (.list 1 (([] : List Int).map (eI .i64)))])), (i6 (1 : Int))], (Res.cell (c := (.d (.st [(.int .i64 (0 : Int)), (.int .i64 (0 : Int)), (.list 1 (([] : List Int).map (eI .i64))), (.list 1 (([] : List Int).map (eI .i64)))]))) (by rfl) (by rfl) tyS30 (by rfl) (by rfl) (by rfl) (Res.tmp (by rfl) (by rfl) Res.nil)), rfl, by rfl, by rfl, by rfl⟩
        · replace h := ite_f hg15 h
          refine AWp.skip ?_
          refine seqQ_n ?_
          refine AWp.seq ?_
          refine AWp.region (oc (lb hN 30 (.st [(i6 r4.fPort), (i6 r4.fSeconds), (.d (.list 1 ((((m8.2.set a1.toNat a2).drop 0).take m8.2.length).map (eI .i64)))), (.d (.list 1 ((((m8.1.set a1.toNat a3).drop 0).take m8.1.length).map (eI .i64))))]) (.st [(i6 r4.fPort), (i6 r4.fSeconds), (.d (.list 1 ((((m8.2.set a1.toNat a2).drop 0).take m8.2.length).map (eI .i64)))), (.d (.list 1 ((((m8.1.set a1.toNat a3).drop 0).take m8.1.length).map (eI .i64))))]) tyS30 (At.here _) (ot 10 (.ptr 1010 0 [])))
            (oc (OpJ.storeB (bt := 30) (c := (.st [(i6 (0 : Int)), (i6 (0 : Int)), .nils, .nils])) (v := (.st [(i6 r4.fPort), (i6 r4.fSeconds), (.d (.list 1 ((((m8.2.set a1.toNat a2).drop 0).take m8.2.length).map (eI .i64)))), (.d (.list 1 ((((m8.1.set a1.toNat a3).drop 0).take m8.1.length).map (eI .i64))))])) (c' := (.st [(i6 r4.fPort), (i6 r4.fSeconds), (.d (.list 1 ((((m8.2.set a1.toNat a2).drop 0).take m8.2.length).map (eI .i64)))), (.d (.list 1 ((((m8.1.set a1.toNat a3).drop 0).take m8.1.length).map (eI .i64))))])) tyS30 (SetAt.here _ _) (by rfl) (by rfl) (by simp) rfl (ot 8 (.ptr 1008 0 [])) (ot 56 (.st [(i6 r4.fPort), (i6 r4.fSeconds), (.d (.list 1 ((((m8.2.set a1.toNat a2).drop 0).take m8.2.length).map (eI .i64)))), (.d (.list 1 ((((m8.1.set a1.toNat a3).drop 0).take m8.1.length).map (eI .i64))))])))
            (oc (OpJ.assign (ltN hN rfl) (Opd.int .i64 (0)))
            (OpJs.nil)))) (by rfl) (by rfl) ?_
          refine seqQ_n ?_
          refine AWp.ghost (mp [] [(8, (.ptr 1008 0 [])), (9, (i6 (0 : Int)))] [(1008, some (.box 30 (.st [(i6 r4.fPort), (i6 r4.fSeconds), (.d (.list 1 ((((m8.2.set a1.toNat a2).drop 0).take m8.2.length).map (eI .i64)))), (.d (.list 1 ((((m8.1.set a1.toNat a3).drop 0).take m8.1.length).map (eI .i64))))])))] hB) ?_
          refine AWp.ret ?_
          obtain rfl := Option.some.inj h
          exact ⟨.inl rfl, _, _, (Mat.trans (Mat.coeP (Ts := []) (Bs := [(1008, some (.box 30 (.d (.st [(.int .i64 r4.fPort), (.int .i64 r4.fSeconds), (.list 1 ((((m8.2.set a1.toNat a2).drop 0).take m8.2.length).map (eI .i64))), (.list 1 ((((m8.1.set a1.toNat a3).drop 0).take m8.1.length).map (eI .i64)))]))))]) TwT.nil (TwB.cons (x := (.st [(i6 r4.fPort), (i6 r4.fSeconds), (.d (.list 1 ((((m8.2.set a1.toNat a2).drop 0).take m8.2.length).map (eI .i64)))), (.d (.list 1 ((((m8.1.set a1.toNat a3).drop 0).take m8.1.length).map (eI .i64))))])) (by rfl) (Tw.leaf ⟨_, (Co.st (CoL.cons (Co.d _) (CoL.cons (Co.d _) (CoL.cons (Co.d _) (CoL.cons (Co.d _) CoL.nil))))), rfl⟩) TwB.nil)) (mp [] [(8, (.ptr 1008 0 [])), (9, (i6 (0 : Int)))] [(1008, some (.box 30 (.d (.st [(.int .i64 r4.fPort), (.int .i64 r4.fSeconds), (.list 1 ((((m8.2.set a1.toNat a2).drop 0).take m8.2.length).map (eI .i64))), (.list 1 ((((m8.1.set a1.toNat a3).drop 0).take m8.1.length).map (eI .i64)))]))))] hB)), [(.d (.st [(.int .i64 r4.fPort), (.int .i64 r4.fSeconds), (.list 1 ((((m8.2.set a1.toNat a2).drop 0).take m8.2.length).map (eI .i64))), (.list 1 ((((m8.1.set a1.toNat a3).drop 0).take m8.1.length).map (eI .i64)))])), (i6 (0 : Int))], (Res.cell (c := (.d (.st [(.int .i64 r4.fPort), (.int .i64 r4.fSeconds), (.list 1 ((((m8.2.set a1.toNat a2).drop 0).take m8.2.length).map (eI .i64))), (.list 1 ((((m8.1.set a1.toNat a3).drop 0).take m8.1.length).map (eI .i64)))]))) (by rfl) (by rfl) tyS30 (by rfl) (by rfl) (by rfl) (Res.tmp (by rfl) (by rfl) Res.nil)), rfl, by rfl, by rfl, by rfl⟩
      · refine AWp.cond (b := (a1 == (a0.fIn.length : Int))) (by rfl) (fun hg16 => ?_) (fun hg16 => ?_)
        · replace h := ite_t hg16 h
          obtain ⟨hc17, h⟩ := chk_some h
          obtain ⟨hc18, h⟩ := chk_some h
          refine AWp.draws (by kernel_rfl) (oc (ov (.ptr 1010 2 [2]) (fp hN Try.underlying30 2 tyS22 (.box 30 (.st [(i6 r4.fPort), (i6 r4.fSeconds), (.sref 100100 1 0 r4.fIn.length), (.sref 100101 1 0 r4.fOut.length)])) (ot 10 (.ptr 1010 0 []))))
            (oc (lb hN 30 (.st [(i6 r4.fPort), (i6 r4.fSeconds), (.sref 100100 1 0 r4.fIn.length), (.sref 100101 1 0 r4.fOut.length)]) (.sref 100100 1 0 r4.fIn.length) tyS22 (At.st1 (f := (.sref 100100 1 0 r4.fIn.length)) (by rfl) (by rfl) (At.here _) (by first | rfl | omega)) (ot 32 (.ptr 1010 2 [2])))
            (oc (OpJ.buildSlice Try.underlying22 tyS3 tyZD3 (by rfl) (by decide) (by decide) (Opds.cons (Opd.int .i64 (0)) Opds.nil) (by kernel_rfl) (es := ([(.int .i64 (0 : Int))] : List D)) (by rfl) (by rfl) (by kernel_rfl) (by simp) (ltN hN rfl))
            (oc (OpJ.append hB Try.underlying22 tyE3 (nm := 1035) (by decide) (es := r4.fIn.map (eI .i64)) (ys := ([(0 : Int)] : List Int).map (eI .i64)) (es' := (r4.fIn ++ ([(0 : Int)] : List Int)).map (eI .i64)) (len := (r4.fIn ++ ([(0 : Int)] : List Int)).length) (by simp) (by simp) (map_sz (f := (eI .i64)) (fun _ => rfl)) (by rw [List.length_map]; exact lim_mulN hc17 (by decide)) (by rw [List.length_map]; exact lim_leN hc17) (ltN hN rfl) (by simp) (ot 33 (.sref 100100 1 0 r4.fIn.length)) (ot 34 (.d (.list 1 (([(0 : Int)] : List Int).map (eI .i64))))))
            (oc (ov (.ptr 1010 3 [3]) (fp hN Try.underlying30 3 tyS22 (.box 30 (.st [(i6 r4.fPort), (i6 r4.fSeconds), (.sref 100100 1 0 r4.fIn.length), (.sref 100101 1 0 r4.fOut.length)])) (ot 10 (.ptr 1010 0 []))))
            (oc (lb hN 30 (.st [(i6 r4.fPort), (i6 r4.fSeconds), (.sref 100100 1 0 r4.fIn.length), (.sref 100101 1 0 r4.fOut.length)]) (.sref 100101 1 0 r4.fOut.length) tyS22 (At.st1 (f := (.sref 100101 1 0 r4.fOut.length)) (by rfl) (by rfl) (At.here _) (by first | rfl | omega)) (ot 36 (.ptr 1010 3 [3])))
            (oc (OpJ.buildSlice Try.underlying22 tyS3 tyZD3 (by rfl) (by decide) (by decide) (Opds.cons (Opd.int .i64 (0)) Opds.nil) (by kernel_rfl) (es := ([(.int .i64 (0 : Int))] : List D)) (by rfl) (by rfl) (by kernel_rfl) (by simp) (ltN hN rfl))
            (oc (OpJ.append hB Try.underlying22 tyE3 (nm := 1039) (by decide) (es := r4.fOut.map (eI .i64)) (ys := ([(0 : Int)] : List Int).map (eI .i64)) (es' := (r4.fOut ++ ([(0 : Int)] : List Int)).map (eI .i64)) (len := (r4.fOut ++ ([(0 : Int)] : List Int)).length) (by simp) (by simp) (map_sz (f := (eI .i64)) (fun _ => rfl)) (by rw [List.length_map]; exact lim_mulN hc18 (by decide)) (by rw [List.length_map]; exact lim_leN hc18) (ltN hN rfl) (by simp) (ot 37 (.sref 100101 1 0 r4.fOut.length)) (ot 38 (.d (.list 1 (([(0 : Int)] : List Int).map (eI .i64))))))
            (oc (ov (.ptr 1010 2 [2]) (fp hN Try.underlying30 2 tyS22 (.box 30 (.st [(i6 r4.fPort), (i6 r4.fSeconds), (.sref 100100 1 0 r4.fIn.length), (.sref 100101 1 0 r4.fOut.length)])) (ot 10 (.ptr 1010 0 []))))
            (oc (OpJ.storeB (bt := 30) (c := (.st [(i6 r4.fPort), (i6 r4.fSeconds), (.sref 100100 1 0 r4.fIn.length), (.sref 100101 1 0 r4.fOut.length)])) (v := (.sref 1035 1 0 ((r4.fIn ++ ([(0 : Int)] : List Int)).length))) (c' := (.st [(i6 r4.fPort), (i6 r4.fSeconds), (.sref 1035 1 0 ((r4.fIn ++ ([(0 : Int)] : List Int)).length)), (.sref 100101 1 0 r4.fOut.length)])) tyS22 (SetAt.st1 (f := (.sref 100100 1 0 r4.fIn.length)) (by rfl) (by rfl) (SetAt.here _ _) (by rfl) (by rfl) (by first | rfl | omega)) (by rfl) (by rfl) (by simp) rfl (ot 40 (.ptr 1010 2 [2])) (ot 35 (.sref 1035 1 0 ((r4.fIn ++ ([(0 : Int)] : List Int)).length))))
            (oc (ov (.ptr 1010 3 [3]) (fp hN Try.underlying30 3 tyS22 (.box 30 (.st [(i6 r4.fPort), (i6 r4.fSeconds), (.sref 1035 1 0 ((r4.fIn ++ ([(0 : Int)] : List Int)).length)), (.sref 100101 1 0 r4.fOut.length)])) (ot 10 (.ptr 1010 0 []))))
            (oc (OpJ.storeB (bt := 30) (c := (.st [(i6 r4.fPort), (i6 r4.fSeconds), (.sref 1035 1 0 ((r4.fIn ++ ([(0 : Int)] : List Int)).length)), (.sref 100101 1 0 r4.fOut.length)])) (v := (.sref 1039 1 0 ((r4.fOut ++ ([(0 : Int)] : List Int)).length))) (c' := (.st [(i6 r4.fPort), (i6 r4.fSeconds), (.sref 1035 1 0 ((r4.fIn ++ ([(0 : Int)] : List Int)).length)), (.sref 1039 1 0 ((r4.fOut ++ ([(0 : Int)] : List Int)).length))])) tyS22 (SetAt.st1 (f := (.sref 100101 1 0 r4.fOut.length)) (by rfl) (by rfl) (SetAt.here _ _) (by rfl) (by rfl) (by first | rfl | omega)) (by rfl) (by rfl) (by simp) rfl (ot 41 (.ptr 1010 3 [3])) (ot 39 (.sref 1039 1 0 ((r4.fOut ++ ([(0 : Int)] : List Int)).length))))
            (OpJs.nil))))))))))))) (by kernel_rfl) (by rfl) (by rfl) ?_
          exact hjj9 _ h _ _ (Mat.trans (mp [] [(1, (i6 a1)), (2, (i6 a2)), (3, (i6 a3)), (8, (.ptr 1008 0 [])), (10, (.ptr 1010 0 []))] [(1008, some (.box 30 (.st [(i6 (0 : Int)), (i6 (0 : Int)), .nils, .nils]))), (1010, some (.box 30 (.st [(i6 r4.fPort), (i6 r4.fSeconds), (.sref 1035 1 0 ((r4.fIn ++ ([(0 : Int)] : List Int)).length)), (.sref 1039 1 0 ((r4.fOut ++ ([(0 : Int)] : List Int)).length))]))), (1035, some (.row 3 1 ((r4.fIn ++ ([(0 : Int)] : List Int)).map (eI .i64)))), (1039, some (.row 3 1 ((r4.fOut ++ ([(0 : Int)] : List Int)).map (eI .i64))))] hB) (mp [(13102, 1035), (13103, 1039)] ((fun m8 : (List Int) × (List Int) => ([(1, (i6 a1)), (2, (i6 a2)), (3, (i6 a3)), (8, (.ptr 1008 0 [])), (10, (.ptr 1010 0 []))] : EL)) ((r4.fOut ++ ([(0 : Int)] : List Int)), (r4.fIn ++ ([(0 : Int)] : List Int)))) ((fun m8 : (List Int) × (List Int) => ([(1008, some (.box 30 (.st [(i6 (0 : Int)), (i6 (0 : Int)), .nils, .nils]))), (1010, some (.box 30 (.st [(i6 r4.fPort), (i6 r4.fSeconds), (.sref 13102 1 0 m8.2.length), (.sref 13103 1 0 m8.1.length)]))), (13102, some (.row 3 1 (m8.2.map (eI .i64)))), (13103, some (.row 3 1 (m8.1.map (eI .i64))))] : OL)) ((r4.fOut ++ ([(0 : Int)] : List Int)), (r4.fIn ++ ([(0 : Int)] : List Int)))) hB))
        · replace h := ite_f hg16 h
          refine AWp.skip ?_
          exact hjj9 _ h _ _ (mp [(13102, 100100), (13103, 100101)] ((fun m8 : (List Int) × (List Int) => ([(1, (i6 a1)), (2, (i6 a2)), (3, (i6 a3)), (8, (.ptr 1008 0 [])), (10, (.ptr 1010 0 []))] : EL)) (r4.fOut, r4.fIn)) ((fun m8 : (List Int) × (List Int) => ([(1008, some (.box 30 (.st [(i6 (0 : Int)), (i6 (0 : Int)), .nils, .nils]))), (1010, some (.box 30 (.st [(i6 r4.fPort), (i6 r4.fSeconds), (.sref 13102 1 0 m8.2.length), (.sref 13103 1 0 m8.1.length)]))), (13102, some (.row 3 1 (m8.2.map (eI .i64)))), (13103, some (.row 3 1 (m8.1.map (eI .i64))))] : OL)) (r4.fOut, r4.fIn)) hB)


end Go.Proofs.Ytgbfjigliajbkaa
