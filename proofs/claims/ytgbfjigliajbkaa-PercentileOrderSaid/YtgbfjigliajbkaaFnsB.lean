/- Printed by gen.py: the Go functions as plain functions, and that the code does what they say. -/
import Derived.Test.YtgbfjigliajbkaaChecked
import Derived.Test.YtgbfjigliajbkaaVcY
import Derived.KernelRfl
import Derived.Test.YtgbfjigliajbkaaFnsA
import Derived.Test.YtgbfjigliajbkaaExt
namespace Go.Proofs.Ytgbfjigliajbkaa
open Go Go.Vc
noncomputable def exchangepointref40_Same (a0 : api_Series) (a1 : api_Series) : Option (Bool) :=
  jn (fun m5 : Bool =>
  some m5) (fun j6 =>
  (if ((a0.fPort == a1.fPort) && (a0.fSeconds == a1.fSeconds)) = true then
  (slices_Equal a0.fIn a1.fIn).bind fun r8 =>
  (if r8 = true then
  (slices_Equal a0.fOut a1.fOut).bind fun r10 =>
  j6 r10
  else
  j6 false)
  else
  j6 false))
set_option maxHeartbeats 4000000 in
set_option maxRecDepth 100000 in
theorem exchangepointref40_Same_ac (a0 : api_Series) (a1 : api_Series) (r : Bool) (h : exchangepointref40_Same a0 a1 = some r) : AC Try.prog 15 [(.d (e_api_Series a0)), (.d (e_api_Series a1))] [] (.d (.bool r)) [] := by
  refine AC.of_code2 Try.func15 rfl rfl (Nat.le_of_ble_eq_true (by rfl)) fun B hB hN => ?_
  delta exchangepointref40_Same at h
  refine AWp.seq ?_
  refine AWp.region (oc (OpJ.box hB (nm := 1002) (by decide) (by simp) rfl (ltN hN rfl) (ot 0 (.d (e_api_Series a0))))
  (oc (OpJ.box hB (nm := 1003) (by decide) (by simp) rfl (ltN hN rfl) (ot 1 (.d (e_api_Series a1))))
  (oc (OpJ.assign (ltN hN rfl) (Opd.bool false))
  (OpJs.nil)))) (by rfl) (by rfl) ?_
  refine seqQ_n ?_
  refine AWp.ghost (mp [] [(2, (.ptr 1002 0 [])), (3, (.ptr 1003 0 []))] [(1002, some (.box 30 (.d (e_api_Series a0)))), (1003, some (.box 30 (.d (e_api_Series a1))))] hB) ?_
  refine AWp.seq ?_
  refine AWp.cut h (fun m5 : Bool => ([(4, (bo m5))] : EL)) (fun m5 : Bool => ([] : OL)) (fun m5 h E' O' hmat => ?_) (fun j6 hjj6 h => ?_)
  · refine seqQ_n ?_
    refine AWp.ghost hmat ?_
    refine AWp.ret ?_
    obtain rfl := Option.some.inj h
    exact ⟨.inl rfl, _, _, (mp [] [(4, (bo m5))] [] hB), [(bo m5)], (Res.tmp (by rfl) (by rfl) Res.nil), rfl, by rfl, by rfl, by rfl⟩
  · rcases Bool.eq_false_or_eq_true ((a0.fPort == a1.fPort) && (a0.fSeconds == a1.fSeconds)) with hg7 | hg7
    · replace h := ite_t hg7 h
      obtain ⟨r8, hr8, h⟩ := bindS h
      rcases Bool.eq_false_or_eq_true r8 with hg9 | hg9
      · replace h := ite_t hg9 h
        obtain ⟨r10, hr10, h⟩ := bindS h
        refine AWp.region (oc (ov (.ptr 1002 0 [0]) (fp hN Try.underlying30 0 tyS3 (.box 30 (.d (e_api_Series a0))) (ot 2 (.ptr 1002 0 []))))
          (oc (lb hN 30 (.d (e_api_Series a0)) (i6 a0.fPort) tyS3 (ad (.int .i64 a0.fPort)) (ot 5 (.ptr 1002 0 [0])))
          (oc (ov (.ptr 1003 0 [0]) (fp hN Try.underlying30 0 tyS3 (.box 30 (.d (e_api_Series a1))) (ot 3 (.ptr 1003 0 []))))
          (oc (lb hN 30 (.d (e_api_Series a1)) (i6 a1.fPort) tyS3 (ad (.int .i64 a1.fPort)) (ot 7 (.ptr 1003 0 [0])))
          (oc (OpJ.eqlI (ltN hN rfl) (ot 6 (i6 a0.fPort)) (ot 8 (i6 a1.fPort)))
          (oc (mv hN (ot 9 (bo (a0.fPort == a1.fPort))))
          (oc (op hN (.ptr 1002 1 [1]) (ov (.ptr 1002 1 [1]) (fp hN Try.underlying30 1 tyS3 (.box 30 (.d (e_api_Series a0))) (ot 2 (.ptr 1002 0 [])))) (OptL.keep rfl OptL.nil) (GuardV.plain _))
          (oc (op hN (i6 a0.fSeconds) (lb hN 30 (.d (e_api_Series a0)) (i6 a0.fSeconds) tyS3 (ad (.int .i64 a0.fSeconds)) (ot 11 (.ptr 1002 1 [1]))) (OptL.opt OptL.nil) (GuardV.plain _))
          (oc (op hN (.ptr 1003 1 [1]) (ov (.ptr 1003 1 [1]) (fp hN Try.underlying30 1 tyS3 (.box 30 (.d (e_api_Series a1))) (ot 3 (.ptr 1003 0 [])))) (OptL.keep rfl OptL.nil) (GuardV.plain _))
          (oc (op hN (i6 a1.fSeconds) (lb hN 30 (.d (e_api_Series a1)) (i6 a1.fSeconds) tyS3 (ad (.int .i64 a1.fSeconds)) (ot 13 (.ptr 1003 1 [1]))) (OptL.opt OptL.nil) (GuardV.plain _))
          (oc (op hN (bo (a0.fSeconds == a1.fSeconds)) (OpJ.eqlI (ltN hN rfl) (ot 12 (i6 a0.fSeconds)) (ot 14 (i6 a1.fSeconds))) (OptL.opt (OptL.opt OptL.nil)) (GuardV.plain _))
          (oc (OpJ.pickAnd rfl (ltN hN rfl) (ot 10 (bo (a0.fPort == a1.fPort))) (ot 15 (.opt ((a0.fPort == a1.fPort) == true) (bo (a0.fSeconds == a1.fSeconds)))))
          (oc (OpJ.val (v' := .d (.bool true)) (by rw [hg7]) (mv hN (ot 16 (bo ((a0.fPort == a1.fPort) && (a0.fSeconds == a1.fSeconds))))))
          (oc (OpJ.guarded (by rfl) (ov (.ptr 1002 2 [2]) (fp hN Try.underlying30 2 tyS22 (.box 30 (.d (e_api_Series a0))) (ot 2 (.ptr 1002 0 [])))))
          (oc (OpJ.guarded (by rfl) (lb hN 30 (.d (e_api_Series a0)) (.d (.list 1 (a0.fIn.map (eI .i64)))) tyS22 (ad (.list 1 (a0.fIn.map (eI .i64)))) (ot 18 (.ptr 1002 2 [2]))))
          (oc (OpJ.guarded (by rfl) (ov (.ptr 1003 2 [2]) (fp hN Try.underlying30 2 tyS22 (.box 30 (.d (e_api_Series a1))) (ot 3 (.ptr 1003 0 [])))))
          (oc (OpJ.guarded (by rfl) (lb hN 30 (.d (e_api_Series a1)) (.d (.list 1 (a1.fIn.map (eI .i64)))) tyS22 (ad (.list 1 (a1.fIn.map (eI .i64)))) (ot 20 (.ptr 1003 2 [2]))))
          (oc (OpJ.guarded (by rfl) (OpJ.callFn hB fnOk34 (slices_Equal_ac a0.fIn a1.fIn r8 hr8) [] (by kernel_rfl) (ltN hN rfl) (by kernel_rfl) (OpdL.cons (ot 19 (.d (.list 1 (a0.fIn.map (eI .i64))))) (OpdL.cons (ot 21 (.d (.list 1 (a1.fIn.map (eI .i64))))) OpdL.nil))))
          (oc (OpJ.pickT (ltN hN rfl) (ot 17 (bo true)) (ot 22 (bo r8)))
          (oc (OpJ.val (v' := .d (.bool true)) (by rw [hg9]) (mv hN (ot 23 (bo r8))))
          (oc (OpJ.guarded (by rfl) (ov (.ptr 1002 3 [3]) (fp hN Try.underlying30 3 tyS22 (.box 30 (.d (e_api_Series a0))) (ot 2 (.ptr 1002 0 [])))))
          (oc (OpJ.guarded (by rfl) (lb hN 30 (.d (e_api_Series a0)) (.d (.list 1 (a0.fOut.map (eI .i64)))) tyS22 (ad (.list 1 (a0.fOut.map (eI .i64)))) (ot 25 (.ptr 1002 3 [3]))))
          (oc (OpJ.guarded (by rfl) (ov (.ptr 1003 3 [3]) (fp hN Try.underlying30 3 tyS22 (.box 30 (.d (e_api_Series a1))) (ot 3 (.ptr 1003 0 [])))))
          (oc (OpJ.guarded (by rfl) (lb hN 30 (.d (e_api_Series a1)) (.d (.list 1 (a1.fOut.map (eI .i64)))) tyS22 (ad (.list 1 (a1.fOut.map (eI .i64)))) (ot 27 (.ptr 1003 3 [3]))))
          (oc (OpJ.guarded (by rfl) (OpJ.callFn hB fnOk34 (slices_Equal_ac a0.fOut a1.fOut r10 hr10) [] (by kernel_rfl) (ltN hN rfl) (by kernel_rfl) (OpdL.cons (ot 26 (.d (.list 1 (a0.fOut.map (eI .i64))))) (OpdL.cons (ot 28 (.d (.list 1 (a1.fOut.map (eI .i64))))) OpdL.nil))))
          (oc (OpJ.pickT (ltN hN rfl) (ot 24 (bo true)) (ot 29 (bo r10)))
          (oc (OpJ.assign (ltN hN rfl) (ot 30 (bo r10)))
          (OpJs.nil)))))))))))))))))))))))))))) (by rfl) (by rfl) ?_
        exact hjj6 _ h _ _ (Mat.trans (mp [] [(4, (bo r10))] [] hB) (mp [] ((fun m5 : Bool => ([(4, (bo m5))] : EL)) r10) ((fun m5 : Bool => ([] : OL)) r10) hB))
      · replace h := ite_f hg9 h
        refine AWp.region (oc (ov (.ptr 1002 0 [0]) (fp hN Try.underlying30 0 tyS3 (.box 30 (.d (e_api_Series a0))) (ot 2 (.ptr 1002 0 []))))
          (oc (lb hN 30 (.d (e_api_Series a0)) (i6 a0.fPort) tyS3 (ad (.int .i64 a0.fPort)) (ot 5 (.ptr 1002 0 [0])))
          (oc (ov (.ptr 1003 0 [0]) (fp hN Try.underlying30 0 tyS3 (.box 30 (.d (e_api_Series a1))) (ot 3 (.ptr 1003 0 []))))
          (oc (lb hN 30 (.d (e_api_Series a1)) (i6 a1.fPort) tyS3 (ad (.int .i64 a1.fPort)) (ot 7 (.ptr 1003 0 [0])))
          (oc (OpJ.eqlI (ltN hN rfl) (ot 6 (i6 a0.fPort)) (ot 8 (i6 a1.fPort)))
          (oc (mv hN (ot 9 (bo (a0.fPort == a1.fPort))))
          (oc (op hN (.ptr 1002 1 [1]) (ov (.ptr 1002 1 [1]) (fp hN Try.underlying30 1 tyS3 (.box 30 (.d (e_api_Series a0))) (ot 2 (.ptr 1002 0 [])))) (OptL.keep rfl OptL.nil) (GuardV.plain _))
          (oc (op hN (i6 a0.fSeconds) (lb hN 30 (.d (e_api_Series a0)) (i6 a0.fSeconds) tyS3 (ad (.int .i64 a0.fSeconds)) (ot 11 (.ptr 1002 1 [1]))) (OptL.opt OptL.nil) (GuardV.plain _))
          (oc (op hN (.ptr 1003 1 [1]) (ov (.ptr 1003 1 [1]) (fp hN Try.underlying30 1 tyS3 (.box 30 (.d (e_api_Series a1))) (ot 3 (.ptr 1003 0 [])))) (OptL.keep rfl OptL.nil) (GuardV.plain _))
          (oc (op hN (i6 a1.fSeconds) (lb hN 30 (.d (e_api_Series a1)) (i6 a1.fSeconds) tyS3 (ad (.int .i64 a1.fSeconds)) (ot 13 (.ptr 1003 1 [1]))) (OptL.opt OptL.nil) (GuardV.plain _))
          (oc (op hN (bo (a0.fSeconds == a1.fSeconds)) (OpJ.eqlI (ltN hN rfl) (ot 12 (i6 a0.fSeconds)) (ot 14 (i6 a1.fSeconds))) (OptL.opt (OptL.opt OptL.nil)) (GuardV.plain _))
          (oc (OpJ.pickAnd rfl (ltN hN rfl) (ot 10 (bo (a0.fPort == a1.fPort))) (ot 15 (.opt ((a0.fPort == a1.fPort) == true) (bo (a0.fSeconds == a1.fSeconds)))))
          (oc (OpJ.val (v' := .d (.bool true)) (by rw [hg7]) (mv hN (ot 16 (bo ((a0.fPort == a1.fPort) && (a0.fSeconds == a1.fSeconds))))))
          (oc (OpJ.guarded (by rfl) (ov (.ptr 1002 2 [2]) (fp hN Try.underlying30 2 tyS22 (.box 30 (.d (e_api_Series a0))) (ot 2 (.ptr 1002 0 [])))))
          (oc (OpJ.guarded (by rfl) (lb hN 30 (.d (e_api_Series a0)) (.d (.list 1 (a0.fIn.map (eI .i64)))) tyS22 (ad (.list 1 (a0.fIn.map (eI .i64)))) (ot 18 (.ptr 1002 2 [2]))))
          (oc (OpJ.guarded (by rfl) (ov (.ptr 1003 2 [2]) (fp hN Try.underlying30 2 tyS22 (.box 30 (.d (e_api_Series a1))) (ot 3 (.ptr 1003 0 [])))))
          (oc (OpJ.guarded (by rfl) (lb hN 30 (.d (e_api_Series a1)) (.d (.list 1 (a1.fIn.map (eI .i64)))) tyS22 (ad (.list 1 (a1.fIn.map (eI .i64)))) (ot 20 (.ptr 1003 2 [2]))))
          (oc (OpJ.guarded (by rfl) (OpJ.callFn hB fnOk34 (slices_Equal_ac a0.fIn a1.fIn r8 hr8) [] (by kernel_rfl) (ltN hN rfl) (by kernel_rfl) (OpdL.cons (ot 19 (.d (.list 1 (a0.fIn.map (eI .i64))))) (OpdL.cons (ot 21 (.d (.list 1 (a1.fIn.map (eI .i64))))) OpdL.nil))))
          (oc (OpJ.pickT (ltN hN rfl) (ot 17 (bo true)) (ot 22 (bo r8)))
          (oc (OpJ.val (v' := .d (.bool false)) (by rw [hg9]) (mv hN (ot 23 (bo r8))))
          (oc (OpJ.skipU (ltN hN rfl) (by rfl))
          (oc (OpJ.skipU (ltN hN rfl) (by rfl))
          (oc (OpJ.skipU (ltN hN rfl) (by rfl))
          (oc (OpJ.skipU (ltN hN rfl) (by rfl))
          (oc (OpJ.skipU (ltN hN rfl) (by rfl))
          (oc (OpJ.pickF (ltN hN rfl) (ot 24 (bo false)) (Opd.bool false))
          (oc (OpJ.assign (ltN hN rfl) (ot 30 (bo false)))
          (OpJs.nil)))))))))))))))))))))))))))) (by rfl) (by rfl) ?_
        exact hjj6 _ h _ _ (Mat.trans (mp [] [(4, (bo false))] [] hB) (mp [] ((fun m5 : Bool => ([(4, (bo m5))] : EL)) false) ((fun m5 : Bool => ([] : OL)) false) hB))
    · replace h := ite_f hg7 h
      refine AWp.region (oc (ov (.ptr 1002 0 [0]) (fp hN Try.underlying30 0 tyS3 (.box 30 (.d (e_api_Series a0))) (ot 2 (.ptr 1002 0 []))))
        (oc (lb hN 30 (.d (e_api_Series a0)) (i6 a0.fPort) tyS3 (ad (.int .i64 a0.fPort)) (ot 5 (.ptr 1002 0 [0])))
        (oc (ov (.ptr 1003 0 [0]) (fp hN Try.underlying30 0 tyS3 (.box 30 (.d (e_api_Series a1))) (ot 3 (.ptr 1003 0 []))))
        (oc (lb hN 30 (.d (e_api_Series a1)) (i6 a1.fPort) tyS3 (ad (.int .i64 a1.fPort)) (ot 7 (.ptr 1003 0 [0])))
        (oc (OpJ.eqlI (ltN hN rfl) (ot 6 (i6 a0.fPort)) (ot 8 (i6 a1.fPort)))
        (oc (mv hN (ot 9 (bo (a0.fPort == a1.fPort))))
        (oc (op hN (.ptr 1002 1 [1]) (ov (.ptr 1002 1 [1]) (fp hN Try.underlying30 1 tyS3 (.box 30 (.d (e_api_Series a0))) (ot 2 (.ptr 1002 0 [])))) (OptL.keep rfl OptL.nil) (GuardV.plain _))
        (oc (op hN (i6 a0.fSeconds) (lb hN 30 (.d (e_api_Series a0)) (i6 a0.fSeconds) tyS3 (ad (.int .i64 a0.fSeconds)) (ot 11 (.ptr 1002 1 [1]))) (OptL.opt OptL.nil) (GuardV.plain _))
        (oc (op hN (.ptr 1003 1 [1]) (ov (.ptr 1003 1 [1]) (fp hN Try.underlying30 1 tyS3 (.box 30 (.d (e_api_Series a1))) (ot 3 (.ptr 1003 0 [])))) (OptL.keep rfl OptL.nil) (GuardV.plain _))
        (oc (op hN (i6 a1.fSeconds) (lb hN 30 (.d (e_api_Series a1)) (i6 a1.fSeconds) tyS3 (ad (.int .i64 a1.fSeconds)) (ot 13 (.ptr 1003 1 [1]))) (OptL.opt OptL.nil) (GuardV.plain _))
        (oc (op hN (bo (a0.fSeconds == a1.fSeconds)) (OpJ.eqlI (ltN hN rfl) (ot 12 (i6 a0.fSeconds)) (ot 14 (i6 a1.fSeconds))) (OptL.opt (OptL.opt OptL.nil)) (GuardV.plain _))
        (oc (OpJ.pickAnd rfl (ltN hN rfl) (ot 10 (bo (a0.fPort == a1.fPort))) (ot 15 (.opt ((a0.fPort == a1.fPort) == true) (bo (a0.fSeconds == a1.fSeconds)))))
        (oc (OpJ.val (v' := .d (.bool false)) (by rw [hg7]) (mv hN (ot 16 (bo ((a0.fPort == a1.fPort) && (a0.fSeconds == a1.fSeconds))))))
        (oc (OpJ.skipU (ltN hN rfl) (by rfl))
        (oc (OpJ.skipU (ltN hN rfl) (by rfl))
        (oc (OpJ.skipU (ltN hN rfl) (by rfl))
        (oc (OpJ.skipU (ltN hN rfl) (by rfl))
        (oc (OpJ.skipU (ltN hN rfl) (by rfl))
        (oc (OpJ.pickF (ltN hN rfl) (ot 17 (bo false)) (Opd.bool false))
        (oc (mv hN (ot 23 (bo false)))
        (oc (OpJ.skipU (ltN hN rfl) (by rfl))
        (oc (OpJ.skipU (ltN hN rfl) (by rfl))
        (oc (OpJ.skipU (ltN hN rfl) (by rfl))
        (oc (OpJ.skipU (ltN hN rfl) (by rfl))
        (oc (OpJ.skipU (ltN hN rfl) (by rfl))
        (oc (OpJ.pickF (ltN hN rfl) (ot 24 (bo false)) (Opd.bool false))
        (oc (OpJ.assign (ltN hN rfl) (ot 30 (bo false)))
        (OpJs.nil)))))))))))))))))))))))))))) (by rfl) (by rfl) ?_
      exact hjj6 _ h _ _ (Mat.trans (mp [] [(4, (bo false))] [] hB) (mp [] ((fun m5 : Bool => ([(4, (bo m5))] : EL)) false) ((fun m5 : Bool => ([] : OL)) false) hB))

noncomputable def exchangepointlaw40_PercentileParts_L0 (a1 : Int) (r2 : api_Series × exchangepointmill_Deck) (s5 : Int × (List Int) × (List Int) × (List Int) × (List Int)) : Option ((((List Int) × (List Int) × (List Int) × (List Int))) ⊕ (Int × (List Int) × (List Int) × (List Int) × (List Int))) :=
  (if (decide (s5.1 < (r2.1.fIn.length : Int))) = true then
  jn (fun m64 : (List Int) × (List Int) × (List Int) × (List Int) =>
  some (.inr ((w64 (s5.1 + (1 : Int))), m64.1, m64.2.1, m64.2.2.1, m64.2.2.2))) (fun j65 =>
  (if ((bitI .and .i64 (shrI .i64 a1 (IntKind.u64.wrap (w64 ((2 : Int) * (Int.tmod s5.1 (30 : Int)))))) (3 : Int)) == (1 : Int)) = true then
  (idx s5.2.2.2.2 s5.1).bind fun x67 =>
  (idx s5.2.2.2.2 s5.1).bind fun x68 =>
  (idx s5.2.2.2.1 s5.1).bind fun x69 =>
  (idx s5.2.2.2.1 s5.1).bind fun x70 =>
  j65 (s5.2.1, s5.2.2.1, (s5.2.2.2.1.set s5.1.toNat (-1 : Int)), (s5.2.2.2.2.set s5.1.toNat (-1 : Int)))
  else
  (if ((bitI .and .i64 (shrI .i64 a1 (IntKind.u64.wrap (w64 ((2 : Int) * (Int.tmod s5.1 (30 : Int)))))) (3 : Int)) == (2 : Int)) = true then
  (idx s5.2.2.1 s5.1).bind fun x72 =>
  (idx s5.2.2.1 s5.1).bind fun x73 =>
  (idx s5.2.1 s5.1).bind fun x74 =>
  (idx s5.2.1 s5.1).bind fun x75 =>
  j65 ((s5.2.1.set s5.1.toNat (-1 : Int)), (s5.2.2.1.set s5.1.toNat (-1 : Int)), s5.2.2.2.1, s5.2.2.2.2)
  else
  j65 (s5.2.1, s5.2.2.1, s5.2.2.2.1, s5.2.2.2.2))))
  else
  some (.inl (s5.2.1, s5.2.2.1, s5.2.2.2.1, s5.2.2.2.2)))
noncomputable def exchangepointlaw40_PercentileParts (a0 : (List Int)) (a1 : Int) : Option (Bool) :=
  (exchangepointmill_New a0).bind fun r1 =>
  (exchangepointmill_Deck_Series r1 (7 : Int)).bind fun r2 =>
  (exchangepointref40_Copy_3 r2.1).bind fun r3 =>
  (exchangepointref40_Copy_3 r2.1).bind fun r4 =>
  (loop (exchangepointlaw40_PercentileParts_L0 a1 r2) ((0 : Int), r4.fOut, r4.fIn, r3.fOut, r3.fIn)).bind fun p52 =>
  (percentile_Merge (api_Series.mk r3.fPort r3.fSeconds p52.2.2.2 p52.2.2.1) (api_Series.mk r4.fPort r4.fSeconds p52.2.1 p52.1)).bind fun r78 =>
  (percentile_Merge (api_Series.mk r4.fPort r4.fSeconds p52.2.1 p52.1) (api_Series.mk r3.fPort r3.fSeconds p52.2.2.2 p52.2.2.1)).bind fun r79 =>
  jn (fun m86 : Bool =>
  some m86) (fun j87 =>
  (if ((r78.2 == (0 : Int)) && (r79.2 == (0 : Int))) = true then
  (exchangepointref40_Same r78.1 r2.1).bind fun r89 =>
  (if r89 = true then
  (exchangepointref40_Same r79.1 r2.1).bind fun r91 =>
  (if r91 = true then
  (exchangepointlaw40_awake).bind fun r93 =>
  j87 r93
  else
  j87 false)
  else
  j87 false)
  else
  j87 false))
set_option maxHeartbeats 4000000 in
set_option maxRecDepth 100000 in
theorem exchangepointlaw40_PercentileParts_ac (a0 : (List Int)) (a1 : Int) (r : Bool) (h : exchangepointlaw40_PercentileParts a0 a1 = some r) : AC Try.prog 4 [(.d (.list 1 (a0.map (eI .i64)))), (.d (.int .i64 a1))] [] (.d (.bool r)) [] := by
  refine AC.of_code2 Try.func4 rfl rfl (Nat.le_of_ble_eq_true (by rfl)) fun B hB hN => ?_
  delta exchangepointlaw40_PercentileParts at h
  refine AWp.seq ?_
  refine AWp.region (oc (OpJ.assign (ltN hN rfl) (Opd.bool false))
  (OpJs.nil)) (by rfl) (by rfl) ?_
  refine seqQ_n ?_
  refine AWp.ghost (mp [] [(0, (.d (.list 1 (a0.map (eI .i64))))), (1, (i6 a1))] [] hB) ?_
  refine AWp.seq ?_
  obtain ⟨r1, hr1, h⟩ := bindS h
  obtain ⟨r2, hr2, h⟩ := bindS h
  refine AWp.region (oc (mv hN (ot 0 (.d (.list 1 (a0.map (eI .i64))))))
  (oc (OpJ.callFn hB fnOk11 (exchangepointmill_New_ac a0 r1 hr1) [(1005, 100000)] (by kernel_rfl) (ltN hN rfl) (by kernel_rfl) (OpdL.cons (ot 13 (.d (.list 1 (a0.map (eI .i64))))) OpdL.nil))
  (oc (OpJ.callFn hB fnOk12 (exchangepointmill_Deck_Series_ac r1 (7 : Int) r2 hr2) [(0, 100000)] (by kernel_rfl) (ltN hN rfl) (by kernel_rfl) (OpdL.cons (ot 14 (.ptr 100000 0 [])) (OpdL.cons (Opd.int .i64 (7)) OpdL.nil)))
  (oc (OpJ.alloc hB tyZ30 (nm := 1005) (by decide) (ltN hN rfl))
  (oc (OpJ.storeB (bt := 30) (c := (.st [(i6 (0 : Int)), (i6 (0 : Int)), .nils, .nils])) (v := (.d (e_api_Series r2.1))) (c' := (.d (e_api_Series r2.1))) tyS30 (SetAt.here _ _) (by rfl) (by rfl) (by simp) rfl (ot 5 (.ptr 1005 0 [])) (ot 15 (.d (e_api_Series r2.1))))
  (OpJs.nil)))))) (by rfl) (by rfl) ?_
  refine seqQ_n ?_
  refine AWp.ghost (mp [] [(1, (i6 a1)), (5, (.ptr 1005 0 []))] [(1005, some (.box 30 (.d (e_api_Series r2.1))))] hB) ?_
  refine AWp.seq ?_
  obtain ⟨r3, hr3, h⟩ := bindS h
  obtain ⟨r4, hr4, h⟩ := bindS h
  refine AWp.draws (by kernel_rfl) (oc (lb hN 30 (.d (e_api_Series r2.1)) (.d (e_api_Series r2.1)) tyS30 (At.here _) (ot 5 (.ptr 1005 0 [])))
  (oc (OpJ.callFn hB fnOk13 (exchangepointref40_Copy_3_ac r2.1 r3 hr3) [(900000, 100200), (900001, 100201)] (by kernel_rfl) (ltN hN rfl) (by kernel_rfl) (OpdL.cons (ot 16 (.d (e_api_Series r2.1))) OpdL.nil))
  (oc (lb hN 30 (.d (e_api_Series r2.1)) (.d (e_api_Series r2.1)) tyS30 (At.here _) (ot 5 (.ptr 1005 0 [])))
  (oc (OpJ.callFn hB fnOk13 (exchangepointref40_Copy_3_ac r2.1 r4 hr4) [(900000, 100300), (900001, 100301)] (by kernel_rfl) (ltN hN rfl) (by kernel_rfl) (OpdL.cons (ot 18 (.d (e_api_Series r2.1))) OpdL.nil))
  (oc (OpJ.alloc hB tyZ30 (nm := 1006) (by decide) (ltN hN rfl))
  (oc (OpJ.alloc hB tyZ30 (nm := 1007) (by decide) (ltN hN rfl))
  (oc (OpJ.storeB (bt := 30) (c := (.st [(i6 (0 : Int)), (i6 (0 : Int)), .nils, .nils])) (v := (.st [(i6 r3.fPort), (i6 r3.fSeconds), (.sref 100200 1 0 r3.fIn.length), (.sref 100201 1 0 r3.fOut.length)])) (c' := (.st [(i6 r3.fPort), (i6 r3.fSeconds), (.sref 100200 1 0 r3.fIn.length), (.sref 100201 1 0 r3.fOut.length)])) tyS30 (SetAt.here _ _) (by rfl) (by rfl) (by simp) rfl (ot 6 (.ptr 1006 0 [])) (ot 17 (.st [(i6 r3.fPort), (i6 r3.fSeconds), (.sref 100200 1 0 r3.fIn.length), (.sref 100201 1 0 r3.fOut.length)])))
  (oc (OpJ.storeB (bt := 30) (c := (.st [(i6 (0 : Int)), (i6 (0 : Int)), .nils, .nils])) (v := (.st [(i6 r4.fPort), (i6 r4.fSeconds), (.sref 100300 1 0 r4.fIn.length), (.sref 100301 1 0 r4.fOut.length)])) (c' := (.st [(i6 r4.fPort), (i6 r4.fSeconds), (.sref 100300 1 0 r4.fIn.length), (.sref 100301 1 0 r4.fOut.length)])) tyS30 (SetAt.here _ _) (by rfl) (by rfl) (by simp) rfl (ot 7 (.ptr 1007 0 [])) (ot 19 (.st [(i6 r4.fPort), (i6 r4.fSeconds), (.sref 100300 1 0 r4.fIn.length), (.sref 100301 1 0 r4.fOut.length)])))
  (OpJs.nil))))))))) (by kernel_rfl) (by rfl) (by rfl) ?_
  refine seqQ_n ?_
  refine AWp.ghost (mp [] [(1, (i6 a1)), (5, (.ptr 1005 0 [])), (6, (.ptr 1006 0 [])), (7, (.ptr 1007 0 []))] [(1005, some (.box 30 (.d (e_api_Series r2.1)))), (1006, some (.box 30 (.st [(i6 r3.fPort), (i6 r3.fSeconds), (.sref 100200 1 0 r3.fIn.length), (.sref 100201 1 0 r3.fOut.length)]))), (1007, some (.box 30 (.st [(i6 r4.fPort), (i6 r4.fSeconds), (.sref 100300 1 0 r4.fIn.length), (.sref 100301 1 0 r4.fOut.length)]))), (100200, some (.row 3 1 (r3.fIn.map (eI .i64)))), (100201, some (.row 3 1 (r3.fOut.map (eI .i64)))), (100300, some (.row 3 1 (r4.fIn.map (eI .i64)))), (100301, some (.row 3 1 (r4.fOut.map (eI .i64))))] hB) ?_
  refine AWp.seq ?_
  refine AWp.seq ?_
  refine AWp.region (oc (ov (.ptr 1005 2 [2]) (fp hN Try.underlying30 2 tyS22 (.box 30 (.d (e_api_Series r2.1))) (ot 5 (.ptr 1005 0 []))))
  (oc (lb hN 30 (.d (e_api_Series r2.1)) (.d (.list 1 (r2.1.fIn.map (eI .i64)))) tyS22 (ad (.list 1 (r2.1.fIn.map (eI .i64)))) (ot 20 (.ptr 1005 2 [2])))
  (oc (OpJ.val (v' := (i6 (r2.1.fIn.length : Int))) (by simp) (OpJ.lenD Try.underlying22 (ltN hN rfl) (ot 21 (.d (.list 1 (r2.1.fIn.map (eI .i64)))))))
  (oc (mv hN (Opd.int .i64 (0)))
  (OpJs.nil))))) (by rfl) (by rfl) ?_
  refine seqQ_n ?_
  refine AWp.ghost (mp [] [(1, (i6 a1)), (5, (.ptr 1005 0 [])), (6, (.ptr 1006 0 [])), (7, (.ptr 1007 0 [])), (22, (i6 (r2.1.fIn.length : Int))), (23, (i6 (0 : Int)))] [(1005, some (.box 30 (.d (e_api_Series r2.1)))), (1006, some (.box 30 (.st [(i6 r3.fPort), (i6 r3.fSeconds), (.sref 100200 1 0 r3.fIn.length), (.sref 100201 1 0 r3.fOut.length)]))), (1007, some (.box 30 (.st [(i6 r4.fPort), (i6 r4.fSeconds), (.sref 100300 1 0 r4.fIn.length), (.sref 100301 1 0 r4.fOut.length)]))), (100200, some (.row 3 1 (r3.fIn.map (eI .i64)))), (100201, some (.row 3 1 (r3.fOut.map (eI .i64)))), (100300, some (.row 3 1 (r4.fIn.map (eI .i64)))), (100301, some (.row 3 1 (r4.fOut.map (eI .i64))))] hB) ?_
  refine AWp.block ?_
  obtain ⟨p52, hx77, h⟩ := bindS h
  refine AWp.ghost (mp [] ((fun s5 : Int × (List Int) × (List Int) × (List Int) × (List Int) => ([(1, (i6 a1)), (5, (.ptr 1005 0 [])), (6, (.ptr 1006 0 [])), (7, (.ptr 1007 0 [])), (22, (i6 (r2.1.fIn.length : Int))), (23, (i6 s5.1))] : EL)) ((0 : Int), r4.fOut, r4.fIn, r3.fOut, r3.fIn)) ((fun s5 : Int × (List Int) × (List Int) × (List Int) × (List Int) => ([(1005, some (.box 30 (.d (e_api_Series r2.1)))), (1006, some (.box 30 (.st [(i6 r3.fPort), (i6 r3.fSeconds), (.sref 100200 1 0 s5.2.2.2.2.length), (.sref 100201 1 0 s5.2.2.2.1.length)]))), (1007, some (.box 30 (.st [(i6 r4.fPort), (i6 r4.fSeconds), (.sref 100300 1 0 s5.2.2.1.length), (.sref 100301 1 0 s5.2.1.length)]))), (100200, some (.row 3 1 (s5.2.2.2.2.map (eI .i64)))), (100201, some (.row 3 1 (s5.2.2.2.1.map (eI .i64)))), (100300, some (.row 3 1 (s5.2.2.1.map (eI .i64)))), (100301, some (.row 3 1 (s5.2.1.map (eI .i64))))] : OL)) ((0 : Int), r4.fOut, r4.fIn, r3.fOut, r3.fIn)) hB) ?_
  refine AWp.loopS (exchangepointlaw40_PercentileParts_L0 a1 r2) (fun s5 : Int × (List Int) × (List Int) × (List Int) × (List Int) => ([(1, (i6 a1)), (5, (.ptr 1005 0 [])), (6, (.ptr 1006 0 [])), (7, (.ptr 1007 0 [])), (22, (i6 (r2.1.fIn.length : Int))), (23, (i6 s5.1))] : EL)) (fun s5 : Int × (List Int) × (List Int) × (List Int) × (List Int) => ([(1005, some (.box 30 (.d (e_api_Series r2.1)))), (1006, some (.box 30 (.st [(i6 r3.fPort), (i6 r3.fSeconds), (.sref 100200 1 0 s5.2.2.2.2.length), (.sref 100201 1 0 s5.2.2.2.1.length)]))), (1007, some (.box 30 (.st [(i6 r4.fPort), (i6 r4.fSeconds), (.sref 100300 1 0 s5.2.2.1.length), (.sref 100301 1 0 s5.2.1.length)]))), (100200, some (.row 3 1 (s5.2.2.2.2.map (eI .i64)))), (100201, some (.row 3 1 (s5.2.2.2.1.map (eI .i64)))), (100300, some (.row 3 1 (s5.2.2.1.map (eI .i64)))), (100301, some (.row 3 1 (s5.2.1.map (eI .i64))))] : OL)) (fun (p52 : ((List Int) × (List Int) × (List Int) × (List Int))) e E' O' => e = .exit 0 ∧ Mat B E' O' ([(5, (.ptr 1005 0 [])), (6, (.ptr 1006 0 [])), (7, (.ptr 1007 0 []))] : EL) ([(1005, some (.box 30 (.d (e_api_Series r2.1)))), (1006, some (.box 30 (.st [(i6 r3.fPort), (i6 r3.fSeconds), (.sref 100200 1 0 p52.2.2.2.length), (.sref 100201 1 0 p52.2.2.1.length)]))), (1007, some (.box 30 (.st [(i6 r4.fPort), (i6 r4.fSeconds), (.sref 100300 1 0 p52.2.1.length), (.sref 100301 1 0 p52.1.length)]))), (100200, some (.row 3 1 (p52.2.2.2.map (eI .i64)))), (100201, some (.row 3 1 (p52.2.2.1.map (eI .i64)))), (100300, some (.row 3 1 (p52.2.1.map (eI .i64)))), (100301, some (.row 3 1 (p52.1.map (eI .i64))))] : OL)) hx77 (fun s5 y h => ?_) (fun e E' O' hR => ?_)
  · unfold exchangepointlaw40_PercentileParts_L0 at h
    show AWp _ _ _ _ ([(1, (i6 a1)), (5, (.ptr 1005 0 [])), (6, (.ptr 1006 0 [])), (7, (.ptr 1007 0 [])), (22, (i6 (r2.1.fIn.length : Int))), (23, (i6 s5.1))] : EL) ([(1005, some (.box 30 (.d (e_api_Series r2.1)))), (1006, some (.box 30 (.st [(i6 r3.fPort), (i6 r3.fSeconds), (.sref 100200 1 0 s5.2.2.2.2.length), (.sref 100201 1 0 s5.2.2.2.1.length)]))), (1007, some (.box 30 (.st [(i6 r4.fPort), (i6 r4.fSeconds), (.sref 100300 1 0 s5.2.2.1.length), (.sref 100301 1 0 s5.2.1.length)]))), (100200, some (.row 3 1 (s5.2.2.2.2.map (eI .i64)))), (100201, some (.row 3 1 (s5.2.2.2.1.map (eI .i64)))), (100300, some (.row 3 1 (s5.2.2.1.map (eI .i64)))), (100301, some (.row 3 1 (s5.2.1.map (eI .i64))))] : OL)
    refine AWp.seq ?_
    refine AWp.region (oc (OpJ.lss (ltN hN rfl) (ot 23 (i6 s5.1)) (ot 22 (i6 (r2.1.fIn.length : Int))))
      (OpJs.nil)) (by rfl) (by rfl) ?_
    refine seqQ_n ?_
    refine AWp.ghost (mp [] [(1, (i6 a1)), (5, (.ptr 1005 0 [])), (6, (.ptr 1006 0 [])), (7, (.ptr 1007 0 [])), (22, (i6 (r2.1.fIn.length : Int))), (23, (i6 s5.1)), (24, (bo (decide (s5.1 < (r2.1.fIn.length : Int)))))] [(1005, some (.box 30 (.d (e_api_Series r2.1)))), (1006, some (.box 30 (.st [(i6 r3.fPort), (i6 r3.fSeconds), (.sref 100200 1 0 s5.2.2.2.2.length), (.sref 100201 1 0 s5.2.2.2.1.length)]))), (1007, some (.box 30 (.st [(i6 r4.fPort), (i6 r4.fSeconds), (.sref 100300 1 0 s5.2.2.1.length), (.sref 100301 1 0 s5.2.1.length)]))), (100200, some (.row 3 1 (s5.2.2.2.2.map (eI .i64)))), (100201, some (.row 3 1 (s5.2.2.2.1.map (eI .i64)))), (100300, some (.row 3 1 (s5.2.2.1.map (eI .i64)))), (100301, some (.row 3 1 (s5.2.1.map (eI .i64))))] hB) ?_
    refine AWp.seq ?_
    refine AWp.cond (b := (decide (s5.1 < (r2.1.fIn.length : Int)))) (by rfl) (fun hg53 => ?_) (fun hg53 => ?_)
    · replace h := ite_t hg53 h
      refine AWp.skip ?_
      refine seqQ_n ?_
      refine AWp.seq ?_
      refine AWp.block ?_
      refine AWp.seq ?_
      refine AWp.region (oc (mv hN (ot 23 (i6 s5.1)))
        (oc (OpJ.assign (ltN hN rfl) (ot 25 (i6 s5.1)))
        (OpJs.nil))) (by rfl) (by rfl) ?_
      refine seqQ_n ?_
      refine AWp.ghost (mp [] [(1, (i6 a1)), (5, (.ptr 1005 0 [])), (6, (.ptr 1006 0 [])), (7, (.ptr 1007 0 [])), (8, (i6 s5.1)), (22, (i6 (r2.1.fIn.length : Int))), (23, (i6 s5.1))] [(1005, some (.box 30 (.d (e_api_Series r2.1)))), (1006, some (.box 30 (.st [(i6 r3.fPort), (i6 r3.fSeconds), (.sref 100200 1 0 s5.2.2.2.2.length), (.sref 100201 1 0 s5.2.2.2.1.length)]))), (1007, some (.box 30 (.st [(i6 r4.fPort), (i6 r4.fSeconds), (.sref 100300 1 0 s5.2.2.1.length), (.sref 100301 1 0 s5.2.1.length)]))), (100200, some (.row 3 1 (s5.2.2.2.2.map (eI .i64)))), (100201, some (.row 3 1 (s5.2.2.2.1.map (eI .i64)))), (100300, some (.row 3 1 (s5.2.2.1.map (eI .i64)))), (100301, some (.row 3 1 (s5.2.1.map (eI .i64))))] hB) ?_
      refine AWp.seq ?_
      refine AWp.region (oc (mv hN (ot 1 (i6 a1)))
        (oc (mv hN (ot 8 (i6 s5.1)))
        (oc (OpJ.rem (ltN hN rfl) (ot 27 (i6 s5.1)) (Opd.int .i64 (30)) (by decide))
        (oc (OpJ.mul (ltN hN rfl) (Opd.int .i64 (2)) (ot 28 (i6 (Int.tmod s5.1 (30 : Int)))))
        (oc (OpJ.conv Try.underlying3 Try.underlying35 (ltN hN rfl) (ot 29 (i6 (w64 ((2 : Int) * (Int.tmod s5.1 (30 : Int)))))))
        (oc (OpJ.shr (ltN hN rfl) (ot 26 (i6 a1)) (ot 30 (.d (.int .u64 (IntKind.u64.wrap (w64 ((2 : Int) * (Int.tmod s5.1 (30 : Int)))))))) (wrap_nonneg rfl _))
        (oc (OpJ.bits (op := .and) (by simp) (ltN hN rfl) (ot 31 (i6 (shrI .i64 a1 (IntKind.u64.wrap (w64 ((2 : Int) * (Int.tmod s5.1 (30 : Int)))))))) (Opd.int .i64 (3)))
        (OpJs.nil)))))))) (by rfl) (by rfl) ?_
      refine seqQ_n ?_
      refine AWp.ghost (mp [] [(1, (i6 a1)), (5, (.ptr 1005 0 [])), (6, (.ptr 1006 0 [])), (7, (.ptr 1007 0 [])), (8, (i6 s5.1)), (22, (i6 (r2.1.fIn.length : Int))), (23, (i6 s5.1)), (32, (i6 (bitI .and .i64 (shrI .i64 a1 (IntKind.u64.wrap (w64 ((2 : Int) * (Int.tmod s5.1 (30 : Int)))))) (3 : Int))))] [(1005, some (.box 30 (.d (e_api_Series r2.1)))), (1006, some (.box 30 (.st [(i6 r3.fPort), (i6 r3.fSeconds), (.sref 100200 1 0 s5.2.2.2.2.length), (.sref 100201 1 0 s5.2.2.2.1.length)]))), (1007, some (.box 30 (.st [(i6 r4.fPort), (i6 r4.fSeconds), (.sref 100300 1 0 s5.2.2.1.length), (.sref 100301 1 0 s5.2.1.length)]))), (100200, some (.row 3 1 (s5.2.2.2.2.map (eI .i64)))), (100201, some (.row 3 1 (s5.2.2.2.1.map (eI .i64)))), (100300, some (.row 3 1 (s5.2.2.1.map (eI .i64)))), (100301, some (.row 3 1 (s5.2.1.map (eI .i64))))] hB) ?_
      refine AWp.block ?_
      refine AWp.seq ?_
      refine AWp.region (oc (OpJ.eqlI (ltN hN rfl) (ot 32 (i6 (bitI .and .i64 (shrI .i64 a1 (IntKind.u64.wrap (w64 ((2 : Int) * (Int.tmod s5.1 (30 : Int)))))) (3 : Int)))) (Opd.int .i64 (1)))
        (oc (OpJ.assign (ltN hN rfl) (ot 34 (bo ((bitI .and .i64 (shrI .i64 a1 (IntKind.u64.wrap (w64 ((2 : Int) * (Int.tmod s5.1 (30 : Int)))))) (3 : Int)) == (1 : Int)))))
        (OpJs.nil))) (by rfl) (by rfl) ?_
      refine seqQ_n ?_
      refine AWp.ghost (mp [] [(1, (i6 a1)), (5, (.ptr 1005 0 [])), (6, (.ptr 1006 0 [])), (7, (.ptr 1007 0 [])), (8, (i6 s5.1)), (22, (i6 (r2.1.fIn.length : Int))), (23, (i6 s5.1)), (32, (i6 (bitI .and .i64 (shrI .i64 a1 (IntKind.u64.wrap (w64 ((2 : Int) * (Int.tmod s5.1 (30 : Int)))))) (3 : Int)))), (33, (bo ((bitI .and .i64 (shrI .i64 a1 (IntKind.u64.wrap (w64 ((2 : Int) * (Int.tmod s5.1 (30 : Int)))))) (3 : Int)) == (1 : Int))))] [(1005, some (.box 30 (.d (e_api_Series r2.1)))), (1006, some (.box 30 (.st [(i6 r3.fPort), (i6 r3.fSeconds), (.sref 100200 1 0 s5.2.2.2.2.length), (.sref 100201 1 0 s5.2.2.2.1.length)]))), (1007, some (.box 30 (.st [(i6 r4.fPort), (i6 r4.fSeconds), (.sref 100300 1 0 s5.2.2.1.length), (.sref 100301 1 0 s5.2.1.length)]))), (100200, some (.row 3 1 (s5.2.2.2.2.map (eI .i64)))), (100201, some (.row 3 1 (s5.2.2.2.1.map (eI .i64)))), (100300, some (.row 3 1 (s5.2.2.1.map (eI .i64)))), (100301, some (.row 3 1 (s5.2.1.map (eI .i64))))] hB) ?_
      refine AWp.cut h (fun m64 : (List Int) × (List Int) × (List Int) × (List Int) => ([(1, (i6 a1)), (5, (.ptr 1005 0 [])), (6, (.ptr 1006 0 [])), (7, (.ptr 1007 0 [])), (22, (i6 (r2.1.fIn.length : Int))), (23, (i6 s5.1))] : EL)) (fun m64 : (List Int) × (List Int) × (List Int) × (List Int) => ([(1005, some (.box 30 (.d (e_api_Series r2.1)))), (1006, some (.box 30 (.st [(i6 r3.fPort), (i6 r3.fSeconds), (.sref 100200 1 0 m64.2.2.2.length), (.sref 100201 1 0 m64.2.2.1.length)]))), (1007, some (.box 30 (.st [(i6 r4.fPort), (i6 r4.fSeconds), (.sref 100300 1 0 m64.2.1.length), (.sref 100301 1 0 m64.1.length)]))), (100200, some (.row 3 1 (m64.2.2.2.map (eI .i64)))), (100201, some (.row 3 1 (m64.2.2.1.map (eI .i64)))), (100300, some (.row 3 1 (m64.2.1.map (eI .i64)))), (100301, some (.row 3 1 (m64.1.map (eI .i64))))] : OL)) (fun m64 h E' O' hmat => ?_) (fun j65 hjj65 h => ?_)
      · refine blkQ_n ?_
        refine blkQ_n ?_
        refine seqQ_n ?_
        refine AWp.ghost hmat ?_
        refine AWp.region (oc (OpJ.add (ltN hN rfl) (ot 23 (i6 s5.1)) (Opd.int .i64 (1)))
          (oc (mv hN (ot 53 (i6 (w64 (s5.1 + (1 : Int))))))
          (OpJs.nil))) (by rfl) (by rfl) ?_
        obtain rfl := Option.some.inj h
        exact ⟨rfl, (Mat.trans (mp [] [(1, (i6 a1)), (5, (.ptr 1005 0 [])), (6, (.ptr 1006 0 [])), (7, (.ptr 1007 0 [])), (22, (i6 (r2.1.fIn.length : Int))), (23, (i6 (w64 (s5.1 + (1 : Int)))))] [(1005, some (.box 30 (.d (e_api_Series r2.1)))), (1006, some (.box 30 (.st [(i6 r3.fPort), (i6 r3.fSeconds), (.sref 100200 1 0 m64.2.2.2.length), (.sref 100201 1 0 m64.2.2.1.length)]))), (1007, some (.box 30 (.st [(i6 r4.fPort), (i6 r4.fSeconds), (.sref 100300 1 0 m64.2.1.length), (.sref 100301 1 0 m64.1.length)]))), (100200, some (.row 3 1 (m64.2.2.2.map (eI .i64)))), (100201, some (.row 3 1 (m64.2.2.1.map (eI .i64)))), (100300, some (.row 3 1 (m64.2.1.map (eI .i64)))), (100301, some (.row 3 1 (m64.1.map (eI .i64))))] hB) (mp [] ((fun s5 : Int × (List Int) × (List Int) × (List Int) × (List Int) => ([(1, (i6 a1)), (5, (.ptr 1005 0 [])), (6, (.ptr 1006 0 [])), (7, (.ptr 1007 0 [])), (22, (i6 (r2.1.fIn.length : Int))), (23, (i6 s5.1))] : EL)) ((w64 (s5.1 + (1 : Int))), m64.1, m64.2.1, m64.2.2.1, m64.2.2.2)) ((fun s5 : Int × (List Int) × (List Int) × (List Int) × (List Int) => ([(1005, some (.box 30 (.d (e_api_Series r2.1)))), (1006, some (.box 30 (.st [(i6 r3.fPort), (i6 r3.fSeconds), (.sref 100200 1 0 s5.2.2.2.2.length), (.sref 100201 1 0 s5.2.2.2.1.length)]))), (1007, some (.box 30 (.st [(i6 r4.fPort), (i6 r4.fSeconds), (.sref 100300 1 0 s5.2.2.1.length), (.sref 100301 1 0 s5.2.1.length)]))), (100200, some (.row 3 1 (s5.2.2.2.2.map (eI .i64)))), (100201, some (.row 3 1 (s5.2.2.2.1.map (eI .i64)))), (100300, some (.row 3 1 (s5.2.2.1.map (eI .i64)))), (100301, some (.row 3 1 (s5.2.1.map (eI .i64))))] : OL)) ((w64 (s5.1 + (1 : Int))), m64.1, m64.2.1, m64.2.2.1, m64.2.2.2)) hB))⟩
      · refine AWp.cond (b := ((bitI .and .i64 (shrI .i64 a1 (IntKind.u64.wrap (w64 ((2 : Int) * (Int.tmod s5.1 (30 : Int)))))) (3 : Int)) == (1 : Int))) (by rfl) (fun hg66 => ?_) (fun hg66 => ?_)
        · replace h := ite_t hg66 h
          obtain ⟨x67, hx67, h⟩ := bindS h
          obtain ⟨x68, hx68, h⟩ := bindS h
          obtain ⟨x69, hx69, h⟩ := bindS h
          obtain ⟨x70, hx70, h⟩ := bindS h
          refine AWp.draws (by kernel_rfl) (oc (ov (.ptr 1006 2 [2]) (fp hN Try.underlying30 2 tyS22 (.box 30 (.st [(i6 r3.fPort), (i6 r3.fSeconds), (.sref 100200 1 0 s5.2.2.2.2.length), (.sref 100201 1 0 s5.2.2.2.1.length)])) (ot 6 (.ptr 1006 0 []))))
            (oc (lb hN 30 (.st [(i6 r3.fPort), (i6 r3.fSeconds), (.sref 100200 1 0 s5.2.2.2.2.length), (.sref 100201 1 0 s5.2.2.2.1.length)]) (.sref 100200 1 0 s5.2.2.2.2.length) tyS22 (At.st1 (f := (.sref 100200 1 0 s5.2.2.2.2.length)) (by rfl) (by rfl) (At.here _) (by first | rfl | omega)) (ot 35 (.ptr 1006 2 [2])))
            (oc (mv hN (ot 8 (i6 s5.1)))
            (oc (ov (.ptr 1006 3 [3]) (fp hN Try.underlying30 3 tyS22 (.box 30 (.st [(i6 r3.fPort), (i6 r3.fSeconds), (.sref 100200 1 0 s5.2.2.2.2.length), (.sref 100201 1 0 s5.2.2.2.1.length)])) (ot 6 (.ptr 1006 0 []))))
            (oc (lb hN 30 (.st [(i6 r3.fPort), (i6 r3.fSeconds), (.sref 100200 1 0 s5.2.2.2.2.length), (.sref 100201 1 0 s5.2.2.2.1.length)]) (.sref 100201 1 0 s5.2.2.2.1.length) tyS22 (At.st1 (f := (.sref 100201 1 0 s5.2.2.2.1.length)) (by rfl) (by rfl) (At.here _) (by first | rfl | omega)) (ot 38 (.ptr 1006 3 [3])))
            (oc (mv hN (ot 8 (i6 s5.1)))
            (oc (OpJ.val (v' := (.ptr 100200 (s5.1.toNat * 1) [s5.1.toNat])) (by simp) (OpJ.indexS Try.underlying22 tyS3 (obj := (.row 3 1 (s5.2.2.2.2.map (eI .i64)))) (idx_some hx67).1 (by have := idx_lt hx67; first | (simpa using this) | ((try simp only [List.length_map] at this); (try simp only [List.length_map]); omega)) (ltN hN rfl) (ot 36 (.sref 100200 1 0 s5.2.2.2.2.length)) (ot 37 (i6 s5.1))))
            (oc (OpJ.storeR (e := 3) (sz := 1) (es := s5.2.2.2.2.map (eI .i64)) (es' := (s5.2.2.2.2.set s5.1.toNat (-1 : Int)).map (eI .i64)) tyS3 (get_map (eI .i64) (idx_some hx68).2) (o := 0) (v := (.int .i64 (-1 : Int))) (el' := (.int .i64 (-1 : Int))) (SetAt.here _ _) (by rfl) (map_set _ _ _ _) (by rfl) (by rfl) (ot 41 (.ptr 100200 (s5.1.toNat * 1) [s5.1.toNat])) (Opd.int .i64 (-1)))
            (oc (OpJ.val (v' := (.ptr 100201 (s5.1.toNat * 1) [s5.1.toNat])) (by simp) (OpJ.indexS Try.underlying22 tyS3 (obj := (.row 3 1 (s5.2.2.2.1.map (eI .i64)))) (idx_some hx69).1 (by have := idx_lt hx69; first | (simpa using this) | ((try simp only [List.length_map] at this); (try simp only [List.length_map]); omega)) (ltN hN rfl) (ot 39 (.sref 100201 1 0 s5.2.2.2.1.length)) (ot 40 (i6 s5.1))))
            (oc (OpJ.storeR (e := 3) (sz := 1) (es := s5.2.2.2.1.map (eI .i64)) (es' := (s5.2.2.2.1.set s5.1.toNat (-1 : Int)).map (eI .i64)) tyS3 (get_map (eI .i64) (idx_some hx70).2) (o := 0) (v := (.int .i64 (-1 : Int))) (el' := (.int .i64 (-1 : Int))) (SetAt.here _ _) (by rfl) (map_set _ _ _ _) (by rfl) (by rfl) (ot 42 (.ptr 100201 (s5.1.toNat * 1) [s5.1.toNat])) (Opd.int .i64 (-1)))
            (OpJs.nil))))))))))) (by kernel_rfl) (by rfl) (by rfl) ?_
          exact hjj65 _ h _ _ (Mat.trans (mp [] [(1, (i6 a1)), (5, (.ptr 1005 0 [])), (6, (.ptr 1006 0 [])), (7, (.ptr 1007 0 [])), (22, (i6 (r2.1.fIn.length : Int))), (23, (i6 s5.1))] [(1005, some (.box 30 (.d (e_api_Series r2.1)))), (1006, some (.box 30 (.st [(i6 r3.fPort), (i6 r3.fSeconds), (.sref 100200 1 0 s5.2.2.2.2.length), (.sref 100201 1 0 s5.2.2.2.1.length)]))), (1007, some (.box 30 (.st [(i6 r4.fPort), (i6 r4.fSeconds), (.sref 100300 1 0 s5.2.2.1.length), (.sref 100301 1 0 s5.2.1.length)]))), (100200, some (.row 3 1 ((s5.2.2.2.2.set s5.1.toNat (-1 : Int)).map (eI .i64)))), (100201, some (.row 3 1 ((s5.2.2.2.1.set s5.1.toNat (-1 : Int)).map (eI .i64)))), (100300, some (.row 3 1 (s5.2.2.1.map (eI .i64)))), (100301, some (.row 3 1 (s5.2.1.map (eI .i64))))] hB) (Mat.trans (Mat.lenP (Ts := []) (Bs := [(1006, some (.box 30 (.st [(i6 r3.fPort), (i6 r3.fSeconds), (.sref 100200 1 0 ((s5.2.2.2.2.set s5.1.toNat (-1 : Int)).length)), (.sref 100201 1 0 s5.2.2.2.1.length)])))]) TwT.nil (TwB.cons (x := (.st [(i6 r3.fPort), (i6 r3.fSeconds), (.sref 100200 1 0 s5.2.2.2.2.length), (.sref 100201 1 0 s5.2.2.2.1.length)])) (by rfl) (Tw.st (TwL.cons (Tw.same _) (TwL.cons (Tw.same _) (TwL.cons (Tw.leaf ⟨_, _, _, _, _, rfl, rfl, (by first | rfl | (simp; done) | (simp; omega))⟩) (TwL.cons (Tw.same _) TwL.nil))))) TwB.nil)) (Mat.trans (Mat.lenP (Ts := []) (Bs := [(1006, some (.box 30 (.st [(i6 r3.fPort), (i6 r3.fSeconds), (.sref 100200 1 0 ((s5.2.2.2.2.set s5.1.toNat (-1 : Int)).length)), (.sref 100201 1 0 ((s5.2.2.2.1.set s5.1.toNat (-1 : Int)).length))])))]) TwT.nil (TwB.cons (x := (.st [(i6 r3.fPort), (i6 r3.fSeconds), (.sref 100200 1 0 ((s5.2.2.2.2.set s5.1.toNat (-1 : Int)).length)), (.sref 100201 1 0 s5.2.2.2.1.length)])) (by rfl) (Tw.st (TwL.cons (Tw.same _) (TwL.cons (Tw.same _) (TwL.cons (Tw.same _) (TwL.cons (Tw.leaf ⟨_, _, _, _, _, rfl, rfl, (by first | rfl | (simp; done) | (simp; omega))⟩) TwL.nil))))) TwB.nil)) (mp [] ((fun m64 : (List Int) × (List Int) × (List Int) × (List Int) => ([(1, (i6 a1)), (5, (.ptr 1005 0 [])), (6, (.ptr 1006 0 [])), (7, (.ptr 1007 0 [])), (22, (i6 (r2.1.fIn.length : Int))), (23, (i6 s5.1))] : EL)) (s5.2.1, s5.2.2.1, (s5.2.2.2.1.set s5.1.toNat (-1 : Int)), (s5.2.2.2.2.set s5.1.toNat (-1 : Int)))) ((fun m64 : (List Int) × (List Int) × (List Int) × (List Int) => ([(1005, some (.box 30 (.d (e_api_Series r2.1)))), (1006, some (.box 30 (.st [(i6 r3.fPort), (i6 r3.fSeconds), (.sref 100200 1 0 m64.2.2.2.length), (.sref 100201 1 0 m64.2.2.1.length)]))), (1007, some (.box 30 (.st [(i6 r4.fPort), (i6 r4.fSeconds), (.sref 100300 1 0 m64.2.1.length), (.sref 100301 1 0 m64.1.length)]))), (100200, some (.row 3 1 (m64.2.2.2.map (eI .i64)))), (100201, some (.row 3 1 (m64.2.2.1.map (eI .i64)))), (100300, some (.row 3 1 (m64.2.1.map (eI .i64)))), (100301, some (.row 3 1 (m64.1.map (eI .i64))))] : OL)) (s5.2.1, s5.2.2.1, (s5.2.2.2.1.set s5.1.toNat (-1 : Int)), (s5.2.2.2.2.set s5.1.toNat (-1 : Int)))) hB))))
        · replace h := ite_f hg66 h
          refine AWp.seq ?_
          refine AWp.region (oc (OpJ.eqlI (ltN hN rfl) (ot 32 (i6 (bitI .and .i64 (shrI .i64 a1 (IntKind.u64.wrap (w64 ((2 : Int) * (Int.tmod s5.1 (30 : Int)))))) (3 : Int)))) (Opd.int .i64 (2)))
            (oc (OpJ.assign (ltN hN rfl) (ot 44 (bo ((bitI .and .i64 (shrI .i64 a1 (IntKind.u64.wrap (w64 ((2 : Int) * (Int.tmod s5.1 (30 : Int)))))) (3 : Int)) == (2 : Int)))))
            (OpJs.nil))) (by rfl) (by rfl) ?_
          refine seqQ_n ?_
          refine AWp.ghost (mp [] [(1, (i6 a1)), (5, (.ptr 1005 0 [])), (6, (.ptr 1006 0 [])), (7, (.ptr 1007 0 [])), (8, (i6 s5.1)), (22, (i6 (r2.1.fIn.length : Int))), (23, (i6 s5.1)), (43, (bo ((bitI .and .i64 (shrI .i64 a1 (IntKind.u64.wrap (w64 ((2 : Int) * (Int.tmod s5.1 (30 : Int)))))) (3 : Int)) == (2 : Int))))] [(1005, some (.box 30 (.d (e_api_Series r2.1)))), (1006, some (.box 30 (.st [(i6 r3.fPort), (i6 r3.fSeconds), (.sref 100200 1 0 s5.2.2.2.2.length), (.sref 100201 1 0 s5.2.2.2.1.length)]))), (1007, some (.box 30 (.st [(i6 r4.fPort), (i6 r4.fSeconds), (.sref 100300 1 0 s5.2.2.1.length), (.sref 100301 1 0 s5.2.1.length)]))), (100200, some (.row 3 1 (s5.2.2.2.2.map (eI .i64)))), (100201, some (.row 3 1 (s5.2.2.2.1.map (eI .i64)))), (100300, some (.row 3 1 (s5.2.2.1.map (eI .i64)))), (100301, some (.row 3 1 (s5.2.1.map (eI .i64))))] hB) ?_
          refine AWp.cond (b := ((bitI .and .i64 (shrI .i64 a1 (IntKind.u64.wrap (w64 ((2 : Int) * (Int.tmod s5.1 (30 : Int)))))) (3 : Int)) == (2 : Int))) (by rfl) (fun hg71 => ?_) (fun hg71 => ?_)
          · replace h := ite_t hg71 h
            obtain ⟨x72, hx72, h⟩ := bindS h
            obtain ⟨x73, hx73, h⟩ := bindS h
            obtain ⟨x74, hx74, h⟩ := bindS h
            obtain ⟨x75, hx75, h⟩ := bindS h
            refine AWp.draws (by kernel_rfl) (oc (ov (.ptr 1007 2 [2]) (fp hN Try.underlying30 2 tyS22 (.box 30 (.st [(i6 r4.fPort), (i6 r4.fSeconds), (.sref 100300 1 0 s5.2.2.1.length), (.sref 100301 1 0 s5.2.1.length)])) (ot 7 (.ptr 1007 0 []))))
              (oc (lb hN 30 (.st [(i6 r4.fPort), (i6 r4.fSeconds), (.sref 100300 1 0 s5.2.2.1.length), (.sref 100301 1 0 s5.2.1.length)]) (.sref 100300 1 0 s5.2.2.1.length) tyS22 (At.st1 (f := (.sref 100300 1 0 s5.2.2.1.length)) (by rfl) (by rfl) (At.here _) (by first | rfl | omega)) (ot 45 (.ptr 1007 2 [2])))
              (oc (mv hN (ot 8 (i6 s5.1)))
              (oc (ov (.ptr 1007 3 [3]) (fp hN Try.underlying30 3 tyS22 (.box 30 (.st [(i6 r4.fPort), (i6 r4.fSeconds), (.sref 100300 1 0 s5.2.2.1.length), (.sref 100301 1 0 s5.2.1.length)])) (ot 7 (.ptr 1007 0 []))))
              (oc (lb hN 30 (.st [(i6 r4.fPort), (i6 r4.fSeconds), (.sref 100300 1 0 s5.2.2.1.length), (.sref 100301 1 0 s5.2.1.length)]) (.sref 100301 1 0 s5.2.1.length) tyS22 (At.st1 (f := (.sref 100301 1 0 s5.2.1.length)) (by rfl) (by rfl) (At.here _) (by first | rfl | omega)) (ot 48 (.ptr 1007 3 [3])))
              (oc (mv hN (ot 8 (i6 s5.1)))
              (oc (OpJ.val (v' := (.ptr 100300 (s5.1.toNat * 1) [s5.1.toNat])) (by simp) (OpJ.indexS Try.underlying22 tyS3 (obj := (.row 3 1 (s5.2.2.1.map (eI .i64)))) (idx_some hx72).1 (by have := idx_lt hx72; first | (simpa using this) | ((try simp only [List.length_map] at this); (try simp only [List.length_map]); omega)) (ltN hN rfl) (ot 46 (.sref 100300 1 0 s5.2.2.1.length)) (ot 47 (i6 s5.1))))
              (oc (OpJ.storeR (e := 3) (sz := 1) (es := s5.2.2.1.map (eI .i64)) (es' := (s5.2.2.1.set s5.1.toNat (-1 : Int)).map (eI .i64)) tyS3 (get_map (eI .i64) (idx_some hx73).2) (o := 0) (v := (.int .i64 (-1 : Int))) (el' := (.int .i64 (-1 : Int))) (SetAt.here _ _) (by rfl) (map_set _ _ _ _) (by rfl) (by rfl) (ot 51 (.ptr 100300 (s5.1.toNat * 1) [s5.1.toNat])) (Opd.int .i64 (-1)))
              (oc (OpJ.val (v' := (.ptr 100301 (s5.1.toNat * 1) [s5.1.toNat])) (by simp) (OpJ.indexS Try.underlying22 tyS3 (obj := (.row 3 1 (s5.2.1.map (eI .i64)))) (idx_some hx74).1 (by have := idx_lt hx74; first | (simpa using this) | ((try simp only [List.length_map] at this); (try simp only [List.length_map]); omega)) (ltN hN rfl) (ot 49 (.sref 100301 1 0 s5.2.1.length)) (ot 50 (i6 s5.1))))
              (oc (OpJ.storeR (e := 3) (sz := 1) (es := s5.2.1.map (eI .i64)) (es' := (s5.2.1.set s5.1.toNat (-1 : Int)).map (eI .i64)) tyS3 (get_map (eI .i64) (idx_some hx75).2) (o := 0) (v := (.int .i64 (-1 : Int))) (el' := (.int .i64 (-1 : Int))) (SetAt.here _ _) (by rfl) (map_set _ _ _ _) (by rfl) (by rfl) (ot 52 (.ptr 100301 (s5.1.toNat * 1) [s5.1.toNat])) (Opd.int .i64 (-1)))
              (OpJs.nil))))))))))) (by kernel_rfl) (by rfl) (by rfl) ?_
            exact hjj65 _ h _ _ (Mat.trans (mp [] [(1, (i6 a1)), (5, (.ptr 1005 0 [])), (6, (.ptr 1006 0 [])), (7, (.ptr 1007 0 [])), (22, (i6 (r2.1.fIn.length : Int))), (23, (i6 s5.1))] [(1005, some (.box 30 (.d (e_api_Series r2.1)))), (1006, some (.box 30 (.st [(i6 r3.fPort), (i6 r3.fSeconds), (.sref 100200 1 0 s5.2.2.2.2.length), (.sref 100201 1 0 s5.2.2.2.1.length)]))), (1007, some (.box 30 (.st [(i6 r4.fPort), (i6 r4.fSeconds), (.sref 100300 1 0 s5.2.2.1.length), (.sref 100301 1 0 s5.2.1.length)]))), (100200, some (.row 3 1 (s5.2.2.2.2.map (eI .i64)))), (100201, some (.row 3 1 (s5.2.2.2.1.map (eI .i64)))), (100300, some (.row 3 1 ((s5.2.2.1.set s5.1.toNat (-1 : Int)).map (eI .i64)))), (100301, some (.row 3 1 ((s5.2.1.set s5.1.toNat (-1 : Int)).map (eI .i64))))] hB) (Mat.trans (Mat.lenP (Ts := []) (Bs := [(1007, some (.box 30 (.st [(i6 r4.fPort), (i6 r4.fSeconds), (.sref 100300 1 0 ((s5.2.2.1.set s5.1.toNat (-1 : Int)).length)), (.sref 100301 1 0 s5.2.1.length)])))]) TwT.nil (TwB.cons (x := (.st [(i6 r4.fPort), (i6 r4.fSeconds), (.sref 100300 1 0 s5.2.2.1.length), (.sref 100301 1 0 s5.2.1.length)])) (by rfl) (Tw.st (TwL.cons (Tw.same _) (TwL.cons (Tw.same _) (TwL.cons (Tw.leaf ⟨_, _, _, _, _, rfl, rfl, (by first | rfl | (simp; done) | (simp; omega))⟩) (TwL.cons (Tw.same _) TwL.nil))))) TwB.nil)) (Mat.trans (Mat.lenP (Ts := []) (Bs := [(1007, some (.box 30 (.st [(i6 r4.fPort), (i6 r4.fSeconds), (.sref 100300 1 0 ((s5.2.2.1.set s5.1.toNat (-1 : Int)).length)), (.sref 100301 1 0 ((s5.2.1.set s5.1.toNat (-1 : Int)).length))])))]) TwT.nil (TwB.cons (x := (.st [(i6 r4.fPort), (i6 r4.fSeconds), (.sref 100300 1 0 ((s5.2.2.1.set s5.1.toNat (-1 : Int)).length)), (.sref 100301 1 0 s5.2.1.length)])) (by rfl) (Tw.st (TwL.cons (Tw.same _) (TwL.cons (Tw.same _) (TwL.cons (Tw.same _) (TwL.cons (Tw.leaf ⟨_, _, _, _, _, rfl, rfl, (by first | rfl | (simp; done) | (simp; omega))⟩) TwL.nil))))) TwB.nil)) (mp [] ((fun m64 : (List Int) × (List Int) × (List Int) × (List Int) => ([(1, (i6 a1)), (5, (.ptr 1005 0 [])), (6, (.ptr 1006 0 [])), (7, (.ptr 1007 0 [])), (22, (i6 (r2.1.fIn.length : Int))), (23, (i6 s5.1))] : EL)) ((s5.2.1.set s5.1.toNat (-1 : Int)), (s5.2.2.1.set s5.1.toNat (-1 : Int)), s5.2.2.2.1, s5.2.2.2.2)) ((fun m64 : (List Int) × (List Int) × (List Int) × (List Int) => ([(1005, some (.box 30 (.d (e_api_Series r2.1)))), (1006, some (.box 30 (.st [(i6 r3.fPort), (i6 r3.fSeconds), (.sref 100200 1 0 m64.2.2.2.length), (.sref 100201 1 0 m64.2.2.1.length)]))), (1007, some (.box 30 (.st [(i6 r4.fPort), (i6 r4.fSeconds), (.sref 100300 1 0 m64.2.1.length), (.sref 100301 1 0 m64.1.length)]))), (100200, some (.row 3 1 (m64.2.2.2.map (eI .i64)))), (100201, some (.row 3 1 (m64.2.2.1.map (eI .i64)))), (100300, some (.row 3 1 (m64.2.1.map (eI .i64)))), (100301, some (.row 3 1 (m64.1.map (eI .i64))))] : OL)) ((s5.2.1.set s5.1.toNat (-1 : Int)), (s5.2.2.1.set s5.1.toNat (-1 : Int)), s5.2.2.2.1, s5.2.2.2.2)) hB))))
          · replace h := ite_f hg71 h
            refine AWp.skip ?_
            exact hjj65 _ h _ _ (mp [] ((fun m64 : (List Int) × (List Int) × (List Int) × (List Int) => ([(1, (i6 a1)), (5, (.ptr 1005 0 [])), (6, (.ptr 1006 0 [])), (7, (.ptr 1007 0 [])), (22, (i6 (r2.1.fIn.length : Int))), (23, (i6 s5.1))] : EL)) (s5.2.1, s5.2.2.1, s5.2.2.2.1, s5.2.2.2.2)) ((fun m64 : (List Int) × (List Int) × (List Int) × (List Int) => ([(1005, some (.box 30 (.d (e_api_Series r2.1)))), (1006, some (.box 30 (.st [(i6 r3.fPort), (i6 r3.fSeconds), (.sref 100200 1 0 m64.2.2.2.length), (.sref 100201 1 0 m64.2.2.1.length)]))), (1007, some (.box 30 (.st [(i6 r4.fPort), (i6 r4.fSeconds), (.sref 100300 1 0 m64.2.1.length), (.sref 100301 1 0 m64.1.length)]))), (100200, some (.row 3 1 (m64.2.2.2.map (eI .i64)))), (100201, some (.row 3 1 (m64.2.2.1.map (eI .i64)))), (100300, some (.row 3 1 (m64.2.1.map (eI .i64)))), (100301, some (.row 3 1 (m64.1.map (eI .i64))))] : OL)) (s5.2.1, s5.2.2.1, s5.2.2.2.1, s5.2.2.2.2)) hB)
    · replace h := ite_f hg53 h
      refine AWp.exit ?_
      refine seqQ_e ?_
      obtain rfl := Option.some.inj h
      exact ⟨(fun hc => by cases hc), rfl, (mp [] ((fun p52 : (List Int) × (List Int) × (List Int) × (List Int) => ([(5, (.ptr 1005 0 [])), (6, (.ptr 1006 0 [])), (7, (.ptr 1007 0 []))] : EL)) (s5.2.1, s5.2.2.1, s5.2.2.2.1, s5.2.2.2.2)) ((fun p52 : (List Int) × (List Int) × (List Int) × (List Int) => ([(1005, some (.box 30 (.d (e_api_Series r2.1)))), (1006, some (.box 30 (.st [(i6 r3.fPort), (i6 r3.fSeconds), (.sref 100200 1 0 p52.2.2.2.length), (.sref 100201 1 0 p52.2.2.1.length)]))), (1007, some (.box 30 (.st [(i6 r4.fPort), (i6 r4.fSeconds), (.sref 100300 1 0 p52.2.1.length), (.sref 100301 1 0 p52.1.length)]))), (100200, some (.row 3 1 (p52.2.2.2.map (eI .i64)))), (100201, some (.row 3 1 (p52.2.2.1.map (eI .i64)))), (100300, some (.row 3 1 (p52.2.1.map (eI .i64)))), (100301, some (.row 3 1 (p52.1.map (eI .i64))))] : OL)) (s5.2.1, s5.2.2.1, s5.2.2.2.1, s5.2.2.2.2)) hB)⟩
  · obtain ⟨rfl, hmat⟩ := hR
    refine blkQ_hit ?_
    refine seqQ_n ?_
    refine AWp.ghost hmat ?_
    refine AWp.seq ?_
    refine AWp.ghost (Mat.freezeP (n := 100200) (e := 3) (sz := 1) (es := p52.2.2.2.map (eI .i64)) (Ts := []) (Bs := [(1006, some (.box 30 (.st [(i6 r3.fPort), (i6 r3.fSeconds), (.d (.list 1 (p52.2.2.2.map (eI .i64)))), (.sref 100201 1 0 p52.2.2.1.length)])))]) (by rfl) TwT.nil (TwB.cons (x := (.st [(i6 r3.fPort), (i6 r3.fSeconds), (.sref 100200 1 0 p52.2.2.2.length), (.sref 100201 1 0 p52.2.2.1.length)])) (by rfl) (Tw.st (TwL.cons (Tw.same _) (TwL.cons (Tw.same _) (TwL.cons (FrzL.all (by first | rfl | (simp; done) | (simp; omega))) (TwL.cons (Tw.same _) TwL.nil))))) TwB.nil)) ?_
    refine AWp.ghost (Mat.freezeP (n := 100201) (e := 3) (sz := 1) (es := p52.2.2.1.map (eI .i64)) (Ts := []) (Bs := [(1006, some (.box 30 (.st [(i6 r3.fPort), (i6 r3.fSeconds), (.d (.list 1 (p52.2.2.2.map (eI .i64)))), (.d (.list 1 (p52.2.2.1.map (eI .i64))))])))]) (by rfl) TwT.nil (TwB.cons (x := (.st [(i6 r3.fPort), (i6 r3.fSeconds), (.d (.list 1 (p52.2.2.2.map (eI .i64)))), (.sref 100201 1 0 p52.2.2.1.length)])) (by rfl) (Tw.st (TwL.cons (Tw.same _) (TwL.cons (Tw.same _) (TwL.cons (Tw.same _) (TwL.cons (FrzL.all (by first | rfl | (simp; done) | (simp; omega))) TwL.nil))))) TwB.nil)) ?_
    refine AWp.ghost (Mat.freezeP (n := 100300) (e := 3) (sz := 1) (es := p52.2.1.map (eI .i64)) (Ts := []) (Bs := [(1007, some (.box 30 (.st [(i6 r4.fPort), (i6 r4.fSeconds), (.d (.list 1 (p52.2.1.map (eI .i64)))), (.sref 100301 1 0 p52.1.length)])))]) (by rfl) TwT.nil (TwB.cons (x := (.st [(i6 r4.fPort), (i6 r4.fSeconds), (.sref 100300 1 0 p52.2.1.length), (.sref 100301 1 0 p52.1.length)])) (by rfl) (Tw.st (TwL.cons (Tw.same _) (TwL.cons (Tw.same _) (TwL.cons (FrzL.all (by first | rfl | (simp; done) | (simp; omega))) (TwL.cons (Tw.same _) TwL.nil))))) TwB.nil)) ?_
    refine AWp.ghost (Mat.freezeP (n := 100301) (e := 3) (sz := 1) (es := p52.1.map (eI .i64)) (Ts := []) (Bs := [(1007, some (.box 30 (.st [(i6 r4.fPort), (i6 r4.fSeconds), (.d (.list 1 (p52.2.1.map (eI .i64)))), (.d (.list 1 (p52.1.map (eI .i64))))])))]) (by rfl) TwT.nil (TwB.cons (x := (.st [(i6 r4.fPort), (i6 r4.fSeconds), (.d (.list 1 (p52.2.1.map (eI .i64)))), (.sref 100301 1 0 p52.1.length)])) (by rfl) (Tw.st (TwL.cons (Tw.same _) (TwL.cons (Tw.same _) (TwL.cons (Tw.same _) (TwL.cons (FrzL.all (by first | rfl | (simp; done) | (simp; omega))) TwL.nil))))) TwB.nil)) ?_
    obtain ⟨r78, hr78, h⟩ := bindS h
    refine AWp.region (oc (lb hN 30 (.st [(i6 r3.fPort), (i6 r3.fSeconds), (.d (.list 1 (p52.2.2.2.map (eI .i64)))), (.d (.list 1 (p52.2.2.1.map (eI .i64))))]) (.st [(i6 r3.fPort), (i6 r3.fSeconds), (.d (.list 1 (p52.2.2.2.map (eI .i64)))), (.d (.list 1 (p52.2.2.1.map (eI .i64))))]) tyS30 (At.here _) (ot 6 (.ptr 1006 0 [])))
      (oc (lb hN 30 (.st [(i6 r4.fPort), (i6 r4.fSeconds), (.d (.list 1 (p52.2.1.map (eI .i64)))), (.d (.list 1 (p52.1.map (eI .i64))))]) (.st [(i6 r4.fPort), (i6 r4.fSeconds), (.d (.list 1 (p52.2.1.map (eI .i64)))), (.d (.list 1 (p52.1.map (eI .i64))))]) tyS30 (At.here _) (ot 7 (.ptr 1007 0 [])))
      (oc (OpJ.callFn hB fnOk14 (percentile_Merge_ac (api_Series.mk r3.fPort r3.fSeconds p52.2.2.2 p52.2.2.1) (api_Series.mk r4.fPort r4.fSeconds p52.2.1 p52.1) r78 hr78) [] (by kernel_rfl) (ltN hN rfl) (by kernel_rfl) (OpdL.cons (Opd.tw (ot 55 (.st [(i6 r3.fPort), (i6 r3.fSeconds), (.d (.list 1 (p52.2.2.2.map (eI .i64)))), (.d (.list 1 (p52.2.2.1.map (eI .i64))))])) (Tw.leaf ⟨_, (Co.st (CoL.cons (Co.d _) (CoL.cons (Co.d _) (CoL.cons (Co.d _) (CoL.cons (Co.d _) CoL.nil))))), rfl⟩)) (OpdL.cons (Opd.tw (ot 56 (.st [(i6 r4.fPort), (i6 r4.fSeconds), (.d (.list 1 (p52.2.1.map (eI .i64)))), (.d (.list 1 (p52.1.map (eI .i64))))])) (Tw.leaf ⟨_, (Co.st (CoL.cons (Co.d _) (CoL.cons (Co.d _) (CoL.cons (Co.d _) (CoL.cons (Co.d _) CoL.nil))))), rfl⟩)) OpdL.nil)))
      (oc (mv hN (ot 57 (.tup [(.d (e_api_Series r78.1)), (i6 r78.2)])))
      (oc (OpJ.extract (v := (.d (e_api_Series r78.1))) (by rfl) rfl (ltN hN rfl) (ot 54 (.tup [(.d (e_api_Series r78.1)), (i6 r78.2)])))
      (oc (OpJ.extract (v := (i6 r78.2)) (by rfl) rfl (ltN hN rfl) (ot 54 (.tup [(.d (e_api_Series r78.1)), (i6 r78.2)])))
      (oc (OpJ.alloc hB tyZ30 (nm := 1009) (by decide) (ltN hN rfl))
      (oc (OpJ.storeB (bt := 30) (c := (.st [(i6 (0 : Int)), (i6 (0 : Int)), .nils, .nils])) (v := (.d (e_api_Series r78.1))) (c' := (.d (e_api_Series r78.1))) tyS30 (SetAt.here _ _) (by rfl) (by rfl) (by simp) rfl (ot 9 (.ptr 1009 0 [])) (ot 58 (.d (e_api_Series r78.1))))
      (oc (OpJ.assign (ltN hN rfl) (ot 59 (i6 r78.2)))
      (OpJs.nil)))))))))) (by rfl) (by rfl) ?_
    refine seqQ_n ?_
    refine AWp.ghost (mp [] [(5, (.ptr 1005 0 [])), (6, (.ptr 1006 0 [])), (7, (.ptr 1007 0 [])), (9, (.ptr 1009 0 [])), (10, (i6 r78.2))] [(1005, some (.box 30 (.d (e_api_Series r2.1)))), (1006, some (.box 30 (.st [(i6 r3.fPort), (i6 r3.fSeconds), (.d (.list 1 (p52.2.2.2.map (eI .i64)))), (.d (.list 1 (p52.2.2.1.map (eI .i64))))]))), (1007, some (.box 30 (.st [(i6 r4.fPort), (i6 r4.fSeconds), (.d (.list 1 (p52.2.1.map (eI .i64)))), (.d (.list 1 (p52.1.map (eI .i64))))]))), (1009, some (.box 30 (.d (e_api_Series r78.1))))] hB) ?_
    refine AWp.seq ?_
    obtain ⟨r79, hr79, h⟩ := bindS h
    refine AWp.region (oc (lb hN 30 (.st [(i6 r4.fPort), (i6 r4.fSeconds), (.d (.list 1 (p52.2.1.map (eI .i64)))), (.d (.list 1 (p52.1.map (eI .i64))))]) (.st [(i6 r4.fPort), (i6 r4.fSeconds), (.d (.list 1 (p52.2.1.map (eI .i64)))), (.d (.list 1 (p52.1.map (eI .i64))))]) tyS30 (At.here _) (ot 7 (.ptr 1007 0 [])))
      (oc (lb hN 30 (.st [(i6 r3.fPort), (i6 r3.fSeconds), (.d (.list 1 (p52.2.2.2.map (eI .i64)))), (.d (.list 1 (p52.2.2.1.map (eI .i64))))]) (.st [(i6 r3.fPort), (i6 r3.fSeconds), (.d (.list 1 (p52.2.2.2.map (eI .i64)))), (.d (.list 1 (p52.2.2.1.map (eI .i64))))]) tyS30 (At.here _) (ot 6 (.ptr 1006 0 [])))
      (oc (OpJ.callFn hB fnOk14 (percentile_Merge_ac (api_Series.mk r4.fPort r4.fSeconds p52.2.1 p52.1) (api_Series.mk r3.fPort r3.fSeconds p52.2.2.2 p52.2.2.1) r79 hr79) [] (by kernel_rfl) (ltN hN rfl) (by kernel_rfl) (OpdL.cons (Opd.tw (ot 61 (.st [(i6 r4.fPort), (i6 r4.fSeconds), (.d (.list 1 (p52.2.1.map (eI .i64)))), (.d (.list 1 (p52.1.map (eI .i64))))])) (Tw.leaf ⟨_, (Co.st (CoL.cons (Co.d _) (CoL.cons (Co.d _) (CoL.cons (Co.d _) (CoL.cons (Co.d _) CoL.nil))))), rfl⟩)) (OpdL.cons (Opd.tw (ot 62 (.st [(i6 r3.fPort), (i6 r3.fSeconds), (.d (.list 1 (p52.2.2.2.map (eI .i64)))), (.d (.list 1 (p52.2.2.1.map (eI .i64))))])) (Tw.leaf ⟨_, (Co.st (CoL.cons (Co.d _) (CoL.cons (Co.d _) (CoL.cons (Co.d _) (CoL.cons (Co.d _) CoL.nil))))), rfl⟩)) OpdL.nil)))
      (oc (mv hN (ot 63 (.tup [(.d (e_api_Series r79.1)), (i6 r79.2)])))
      (oc (OpJ.extract (v := (.d (e_api_Series r79.1))) (by rfl) rfl (ltN hN rfl) (ot 60 (.tup [(.d (e_api_Series r79.1)), (i6 r79.2)])))
      (oc (OpJ.extract (v := (i6 r79.2)) (by rfl) rfl (ltN hN rfl) (ot 60 (.tup [(.d (e_api_Series r79.1)), (i6 r79.2)])))
      (oc (OpJ.alloc hB tyZ30 (nm := 1011) (by decide) (ltN hN rfl))
      (oc (OpJ.storeB (bt := 30) (c := (.st [(i6 (0 : Int)), (i6 (0 : Int)), .nils, .nils])) (v := (.d (e_api_Series r79.1))) (c' := (.d (e_api_Series r79.1))) tyS30 (SetAt.here _ _) (by rfl) (by rfl) (by simp) rfl (ot 11 (.ptr 1011 0 [])) (ot 64 (.d (e_api_Series r79.1))))
      (oc (OpJ.assign (ltN hN rfl) (ot 65 (i6 r79.2)))
      (OpJs.nil)))))))))) (by rfl) (by rfl) ?_
    refine seqQ_n ?_
    refine AWp.ghost (mp [] [(5, (.ptr 1005 0 [])), (9, (.ptr 1009 0 [])), (10, (i6 r78.2)), (11, (.ptr 1011 0 [])), (12, (i6 r79.2))] [(1005, some (.box 30 (.d (e_api_Series r2.1)))), (1009, some (.box 30 (.d (e_api_Series r78.1)))), (1011, some (.box 30 (.d (e_api_Series r79.1))))] hB) ?_
    refine AWp.seq ?_
    refine AWp.cut h (fun m86 : Bool => ([(4, (bo m86))] : EL)) (fun m86 : Bool => ([] : OL)) (fun m86 h E' O' hmat => ?_) (fun j87 hjj87 h => ?_)
    · refine seqQ_n ?_
      refine AWp.ghost hmat ?_
      refine AWp.ret ?_
      obtain rfl := Option.some.inj h
      exact ⟨.inl rfl, _, _, (mp [] [(4, (bo m86))] [] hB), [(bo m86)], (Res.tmp (by rfl) (by rfl) Res.nil), rfl, by rfl, by rfl, by rfl⟩
    · rcases Bool.eq_false_or_eq_true ((r78.2 == (0 : Int)) && (r79.2 == (0 : Int))) with hg88 | hg88
      · replace h := ite_t hg88 h
        obtain ⟨r89, hr89, h⟩ := bindS h
        rcases Bool.eq_false_or_eq_true r89 with hg90 | hg90
        · replace h := ite_t hg90 h
          obtain ⟨r91, hr91, h⟩ := bindS h
          rcases Bool.eq_false_or_eq_true r91 with hg92 | hg92
          · replace h := ite_t hg92 h
            obtain ⟨r93, hr93, h⟩ := bindS h
            refine AWp.region (oc (mv hN (ot 10 (i6 r78.2)))
              (oc (OpJ.eqlI (ltN hN rfl) (ot 66 (i6 r78.2)) (Opd.int .i64 (0)))
              (oc (mv hN (ot 67 (bo (r78.2 == (0 : Int)))))
              (oc (op hN (i6 r79.2) (mv hN (ot 12 (i6 r79.2))) (OptL.keep rfl OptL.nil) (GuardV.plain _))
              (oc (op hN (bo (r79.2 == (0 : Int))) (OpJ.eqlI (ltN hN rfl) (ot 69 (i6 r79.2)) (Opd.int .i64 (0))) (OptL.opt OptL.nil) (GuardV.plain _))
              (oc (OpJ.pickAnd rfl (ltN hN rfl) (ot 68 (bo (r78.2 == (0 : Int)))) (ot 70 (.opt ((r78.2 == (0 : Int)) == true) (bo (r79.2 == (0 : Int))))))
              (oc (OpJ.val (v' := .d (.bool true)) (by rw [hg88]) (mv hN (ot 71 (bo ((r78.2 == (0 : Int)) && (r79.2 == (0 : Int)))))))
              (oc (OpJ.guarded (by rfl) (lb hN 30 (.d (e_api_Series r78.1)) (.d (e_api_Series r78.1)) tyS30 (At.here _) (ot 9 (.ptr 1009 0 []))))
              (oc (OpJ.guarded (by rfl) (lb hN 30 (.d (e_api_Series r2.1)) (.d (e_api_Series r2.1)) tyS30 (At.here _) (ot 5 (.ptr 1005 0 []))))
              (oc (OpJ.guarded (by rfl) (OpJ.callFn hB fnOk15 (exchangepointref40_Same_ac r78.1 r2.1 r89 hr89) [] (by kernel_rfl) (ltN hN rfl) (by kernel_rfl) (OpdL.cons (ot 73 (.d (e_api_Series r78.1))) (OpdL.cons (ot 74 (.d (e_api_Series r2.1))) OpdL.nil))))
              (oc (OpJ.pickT (ltN hN rfl) (ot 72 (bo true)) (ot 75 (bo r89)))
              (oc (OpJ.val (v' := .d (.bool true)) (by rw [hg90]) (mv hN (ot 76 (bo r89))))
              (oc (OpJ.guarded (by rfl) (lb hN 30 (.d (e_api_Series r79.1)) (.d (e_api_Series r79.1)) tyS30 (At.here _) (ot 11 (.ptr 1011 0 []))))
              (oc (OpJ.guarded (by rfl) (lb hN 30 (.d (e_api_Series r2.1)) (.d (e_api_Series r2.1)) tyS30 (At.here _) (ot 5 (.ptr 1005 0 []))))
              (oc (OpJ.guarded (by rfl) (OpJ.callFn hB fnOk15 (exchangepointref40_Same_ac r79.1 r2.1 r91 hr91) [] (by kernel_rfl) (ltN hN rfl) (by kernel_rfl) (OpdL.cons (ot 78 (.d (e_api_Series r79.1))) (OpdL.cons (ot 79 (.d (e_api_Series r2.1))) OpdL.nil))))
              (oc (OpJ.pickT (ltN hN rfl) (ot 77 (bo true)) (ot 80 (bo r91)))
              (oc (OpJ.val (v' := .d (.bool true)) (by rw [hg92]) (mv hN (ot 81 (bo r91))))
              (oc (OpJ.guarded (by rfl) (OpJ.callFn hB fnOk9 (exchangepointlaw40_awake_ac  r93 hr93) [] (by kernel_rfl) (ltN hN rfl) (by kernel_rfl) OpdL.nil))
              (oc (OpJ.pickT (ltN hN rfl) (ot 82 (bo true)) (ot 83 (bo r93)))
              (oc (OpJ.assign (ltN hN rfl) (ot 84 (bo r93)))
              (OpJs.nil))))))))))))))))))))) (by rfl) (by rfl) ?_
            exact hjj87 _ h _ _ (Mat.trans (mp [] [(4, (bo r93))] [] hB) (mp [] ((fun m86 : Bool => ([(4, (bo m86))] : EL)) r93) ((fun m86 : Bool => ([] : OL)) r93) hB))
          · replace h := ite_f hg92 h
            refine AWp.region (oc (mv hN (ot 10 (i6 r78.2)))
              (oc (OpJ.eqlI (ltN hN rfl) (ot 66 (i6 r78.2)) (Opd.int .i64 (0)))
              (oc (mv hN (ot 67 (bo (r78.2 == (0 : Int)))))
              (oc (op hN (i6 r79.2) (mv hN (ot 12 (i6 r79.2))) (OptL.keep rfl OptL.nil) (GuardV.plain _))
              (oc (op hN (bo (r79.2 == (0 : Int))) (OpJ.eqlI (ltN hN rfl) (ot 69 (i6 r79.2)) (Opd.int .i64 (0))) (OptL.opt OptL.nil) (GuardV.plain _))
              (oc (OpJ.pickAnd rfl (ltN hN rfl) (ot 68 (bo (r78.2 == (0 : Int)))) (ot 70 (.opt ((r78.2 == (0 : Int)) == true) (bo (r79.2 == (0 : Int))))))
              (oc (OpJ.val (v' := .d (.bool true)) (by rw [hg88]) (mv hN (ot 71 (bo ((r78.2 == (0 : Int)) && (r79.2 == (0 : Int)))))))
              (oc (OpJ.guarded (by rfl) (lb hN 30 (.d (e_api_Series r78.1)) (.d (e_api_Series r78.1)) tyS30 (At.here _) (ot 9 (.ptr 1009 0 []))))
              (oc (OpJ.guarded (by rfl) (lb hN 30 (.d (e_api_Series r2.1)) (.d (e_api_Series r2.1)) tyS30 (At.here _) (ot 5 (.ptr 1005 0 []))))
              (oc (OpJ.guarded (by rfl) (OpJ.callFn hB fnOk15 (exchangepointref40_Same_ac r78.1 r2.1 r89 hr89) [] (by kernel_rfl) (ltN hN rfl) (by kernel_rfl) (OpdL.cons (ot 73 (.d (e_api_Series r78.1))) (OpdL.cons (ot 74 (.d (e_api_Series r2.1))) OpdL.nil))))
              (oc (OpJ.pickT (ltN hN rfl) (ot 72 (bo true)) (ot 75 (bo r89)))
              (oc (OpJ.val (v' := .d (.bool true)) (by rw [hg90]) (mv hN (ot 76 (bo r89))))
              (oc (OpJ.guarded (by rfl) (lb hN 30 (.d (e_api_Series r79.1)) (.d (e_api_Series r79.1)) tyS30 (At.here _) (ot 11 (.ptr 1011 0 []))))
              (oc (OpJ.guarded (by rfl) (lb hN 30 (.d (e_api_Series r2.1)) (.d (e_api_Series r2.1)) tyS30 (At.here _) (ot 5 (.ptr 1005 0 []))))
              (oc (OpJ.guarded (by rfl) (OpJ.callFn hB fnOk15 (exchangepointref40_Same_ac r79.1 r2.1 r91 hr91) [] (by kernel_rfl) (ltN hN rfl) (by kernel_rfl) (OpdL.cons (ot 78 (.d (e_api_Series r79.1))) (OpdL.cons (ot 79 (.d (e_api_Series r2.1))) OpdL.nil))))
              (oc (OpJ.pickT (ltN hN rfl) (ot 77 (bo true)) (ot 80 (bo r91)))
              (oc (OpJ.val (v' := .d (.bool false)) (by rw [hg92]) (mv hN (ot 81 (bo r91))))
              (oc (OpJ.skipU (ltN hN rfl) (by rfl))
              (oc (OpJ.pickF (ltN hN rfl) (ot 82 (bo false)) (Opd.bool false))
              (oc (OpJ.assign (ltN hN rfl) (ot 84 (bo false)))
              (OpJs.nil))))))))))))))))))))) (by rfl) (by rfl) ?_
            exact hjj87 _ h _ _ (Mat.trans (mp [] [(4, (bo false))] [] hB) (mp [] ((fun m86 : Bool => ([(4, (bo m86))] : EL)) false) ((fun m86 : Bool => ([] : OL)) false) hB))
        · replace h := ite_f hg90 h
          refine AWp.region (oc (mv hN (ot 10 (i6 r78.2)))
            (oc (OpJ.eqlI (ltN hN rfl) (ot 66 (i6 r78.2)) (Opd.int .i64 (0)))
            (oc (mv hN (ot 67 (bo (r78.2 == (0 : Int)))))
            (oc (op hN (i6 r79.2) (mv hN (ot 12 (i6 r79.2))) (OptL.keep rfl OptL.nil) (GuardV.plain _))
            (oc (op hN (bo (r79.2 == (0 : Int))) (OpJ.eqlI (ltN hN rfl) (ot 69 (i6 r79.2)) (Opd.int .i64 (0))) (OptL.opt OptL.nil) (GuardV.plain _))
            (oc (OpJ.pickAnd rfl (ltN hN rfl) (ot 68 (bo (r78.2 == (0 : Int)))) (ot 70 (.opt ((r78.2 == (0 : Int)) == true) (bo (r79.2 == (0 : Int))))))
            (oc (OpJ.val (v' := .d (.bool true)) (by rw [hg88]) (mv hN (ot 71 (bo ((r78.2 == (0 : Int)) && (r79.2 == (0 : Int)))))))
            (oc (OpJ.guarded (by rfl) (lb hN 30 (.d (e_api_Series r78.1)) (.d (e_api_Series r78.1)) tyS30 (At.here _) (ot 9 (.ptr 1009 0 []))))
            (oc (OpJ.guarded (by rfl) (lb hN 30 (.d (e_api_Series r2.1)) (.d (e_api_Series r2.1)) tyS30 (At.here _) (ot 5 (.ptr 1005 0 []))))
            (oc (OpJ.guarded (by rfl) (OpJ.callFn hB fnOk15 (exchangepointref40_Same_ac r78.1 r2.1 r89 hr89) [] (by kernel_rfl) (ltN hN rfl) (by kernel_rfl) (OpdL.cons (ot 73 (.d (e_api_Series r78.1))) (OpdL.cons (ot 74 (.d (e_api_Series r2.1))) OpdL.nil))))
            (oc (OpJ.pickT (ltN hN rfl) (ot 72 (bo true)) (ot 75 (bo r89)))
            (oc (OpJ.val (v' := .d (.bool false)) (by rw [hg90]) (mv hN (ot 76 (bo r89))))
            (oc (OpJ.skipU (ltN hN rfl) (by rfl))
            (oc (OpJ.skipU (ltN hN rfl) (by rfl))
            (oc (OpJ.skipU (ltN hN rfl) (by rfl))
            (oc (OpJ.pickF (ltN hN rfl) (ot 77 (bo false)) (Opd.bool false))
            (oc (mv hN (ot 81 (bo false)))
            (oc (OpJ.skipU (ltN hN rfl) (by rfl))
            (oc (OpJ.pickF (ltN hN rfl) (ot 82 (bo false)) (Opd.bool false))
            (oc (OpJ.assign (ltN hN rfl) (ot 84 (bo false)))
            (OpJs.nil))))))))))))))))))))) (by rfl) (by rfl) ?_
          exact hjj87 _ h _ _ (Mat.trans (mp [] [(4, (bo false))] [] hB) (mp [] ((fun m86 : Bool => ([(4, (bo m86))] : EL)) false) ((fun m86 : Bool => ([] : OL)) false) hB))
      · replace h := ite_f hg88 h
        refine AWp.region (oc (mv hN (ot 10 (i6 r78.2)))
          (oc (OpJ.eqlI (ltN hN rfl) (ot 66 (i6 r78.2)) (Opd.int .i64 (0)))
          (oc (mv hN (ot 67 (bo (r78.2 == (0 : Int)))))
          (oc (op hN (i6 r79.2) (mv hN (ot 12 (i6 r79.2))) (OptL.keep rfl OptL.nil) (GuardV.plain _))
          (oc (op hN (bo (r79.2 == (0 : Int))) (OpJ.eqlI (ltN hN rfl) (ot 69 (i6 r79.2)) (Opd.int .i64 (0))) (OptL.opt OptL.nil) (GuardV.plain _))
          (oc (OpJ.pickAnd rfl (ltN hN rfl) (ot 68 (bo (r78.2 == (0 : Int)))) (ot 70 (.opt ((r78.2 == (0 : Int)) == true) (bo (r79.2 == (0 : Int))))))
          (oc (OpJ.val (v' := .d (.bool false)) (by rw [hg88]) (mv hN (ot 71 (bo ((r78.2 == (0 : Int)) && (r79.2 == (0 : Int)))))))
          (oc (OpJ.skipU (ltN hN rfl) (by rfl))
          (oc (OpJ.skipU (ltN hN rfl) (by rfl))
          (oc (OpJ.skipU (ltN hN rfl) (by rfl))
          (oc (OpJ.pickF (ltN hN rfl) (ot 72 (bo false)) (Opd.bool false))
          (oc (mv hN (ot 76 (bo false)))
          (oc (OpJ.skipU (ltN hN rfl) (by rfl))
          (oc (OpJ.skipU (ltN hN rfl) (by rfl))
          (oc (OpJ.skipU (ltN hN rfl) (by rfl))
          (oc (OpJ.pickF (ltN hN rfl) (ot 77 (bo false)) (Opd.bool false))
          (oc (mv hN (ot 81 (bo false)))
          (oc (OpJ.skipU (ltN hN rfl) (by rfl))
          (oc (OpJ.pickF (ltN hN rfl) (ot 82 (bo false)) (Opd.bool false))
          (oc (OpJ.assign (ltN hN rfl) (ot 84 (bo false)))
          (OpJs.nil))))))))))))))))))))) (by rfl) (by rfl) ?_
        exact hjj87 _ h _ _ (Mat.trans (mp [] [(4, (bo false))] [] hB) (mp [] ((fun m86 : Bool => ([(4, (bo m86))] : EL)) false) ((fun m86 : Bool => ([] : OL)) false) hB))

noncomputable def exchangepointref40_Valid_L0 (a0 : api_Series) (s2 : Int) : Option (((Unit) ⊕ (Unit)) ⊕ (Int)) :=
  (if (decide (s2 < (a0.fIn.length : Int))) = true then
  (idx a0.fIn s2).bind fun x14 =>
  (idx a0.fOut s2).bind fun x15 =>
  (if (((((decide (x14 < (-1 : Int))) || (decide ((1125899906842624 : Int) < x14))) || (decide (x15 < (-1 : Int)))) || (decide ((1125899906842624 : Int) < x15))) || ((x14 == (-1 : Int)) != (x15 == (-1 : Int)))) = true then
  some (.inl (.inl ()))
  else
  some (.inr (w64 (s2 + (1 : Int)))))
  else
  some (.inl (.inr ())))
noncomputable def exchangepointref40_Valid (a0 : api_Series) : Option (Bool) :=
  (if ((((((decide (a0.fPort < (1 : Int))) || (decide ((999 : Int) < a0.fPort))) || (decide (a0.fSeconds < (1 : Int)))) || (decide ((86400 : Int) < a0.fSeconds))) || ((a0.fIn.length : Int) != (a0.fOut.length : Int))) || (decide ((9000 : Int) < (a0.fIn.length : Int)))) = true then
  some false
  else
  (loop (exchangepointref40_Valid_L0 a0) (0 : Int)).bind fun x17 => match x17 with
  | (.inl _) =>
    some false
  | (.inr _) =>
    some true)
set_option maxHeartbeats 4000000 in
set_option maxRecDepth 100000 in
theorem exchangepointref40_Valid_ac (a0 : api_Series) (r : Bool) (h : exchangepointref40_Valid a0 = some r) : AC Try.prog 17 [(.d (e_api_Series a0))] [] (.d (.bool r)) [] := by
  refine AC.of_code2 Try.func17 rfl rfl (Nat.le_of_ble_eq_true (by rfl)) fun B hB hN => ?_
  delta exchangepointref40_Valid at h
  refine AWp.seq ?_
  refine AWp.region (oc (OpJ.box hB (nm := 1001) (by decide) (by simp) rfl (ltN hN rfl) (ot 0 (.d (e_api_Series a0))))
  (oc (OpJ.assign (ltN hN rfl) (Opd.bool false))
  (OpJs.nil))) (by rfl) (by rfl) ?_
  refine seqQ_n ?_
  refine AWp.ghost (mp [] [(1, (.ptr 1001 0 []))] [(1001, some (.box 30 (.d (e_api_Series a0))))] hB) ?_
  refine AWp.seq ?_
  refine AWp.seq ?_
  refine AWp.region (oc (ov (.ptr 1001 0 [0]) (fp hN Try.underlying30 0 tyS3 (.box 30 (.d (e_api_Series a0))) (ot 1 (.ptr 1001 0 []))))
  (oc (lb hN 30 (.d (e_api_Series a0)) (i6 a0.fPort) tyS3 (ad (.int .i64 a0.fPort)) (ot 6 (.ptr 1001 0 [0])))
  (oc (OpJ.lss (ltN hN rfl) (ot 7 (i6 a0.fPort)) (Opd.int .i64 (1)))
  (oc (mv hN (ot 8 (bo (decide (a0.fPort < (1 : Int))))))
  (oc (op hN (.ptr 1001 0 [0]) (ov (.ptr 1001 0 [0]) (fp hN Try.underlying30 0 tyS3 (.box 30 (.d (e_api_Series a0))) (ot 1 (.ptr 1001 0 [])))) (OptL.keep rfl OptL.nil) (GuardV.plain _))
  (oc (op hN (i6 a0.fPort) (lb hN 30 (.d (e_api_Series a0)) (i6 a0.fPort) tyS3 (ad (.int .i64 a0.fPort)) (ot 10 (.ptr 1001 0 [0]))) (OptL.opt OptL.nil) (GuardV.plain _))
  (oc (op hN (bo (decide ((999 : Int) < a0.fPort))) (OpJ.gtr (ltN hN rfl) (ot 11 (i6 a0.fPort)) (Opd.int .i64 (999))) (OptL.opt OptL.nil) (GuardV.plain _))
  (oc (OpJ.pickOr rfl (ltN hN rfl) (ot 9 (bo (decide (a0.fPort < (1 : Int))))) (ot 12 (.opt ((decide (a0.fPort < (1 : Int))) == false) (bo (decide ((999 : Int) < a0.fPort))))))
  (oc (mv hN (ot 13 (bo ((decide (a0.fPort < (1 : Int))) || (decide ((999 : Int) < a0.fPort))))))
  (oc (op hN (.ptr 1001 1 [1]) (ov (.ptr 1001 1 [1]) (fp hN Try.underlying30 1 tyS3 (.box 30 (.d (e_api_Series a0))) (ot 1 (.ptr 1001 0 [])))) (OptL.keep rfl OptL.nil) (GuardV.plain _))
  (oc (op hN (i6 a0.fSeconds) (lb hN 30 (.d (e_api_Series a0)) (i6 a0.fSeconds) tyS3 (ad (.int .i64 a0.fSeconds)) (ot 15 (.ptr 1001 1 [1]))) (OptL.opt OptL.nil) (GuardV.plain _))
  (oc (op hN (bo (decide (a0.fSeconds < (1 : Int)))) (OpJ.lss (ltN hN rfl) (ot 16 (i6 a0.fSeconds)) (Opd.int .i64 (1))) (OptL.opt OptL.nil) (GuardV.plain _))
  (oc (OpJ.pickOr rfl (ltN hN rfl) (ot 14 (bo ((decide (a0.fPort < (1 : Int))) || (decide ((999 : Int) < a0.fPort))))) (ot 17 (.opt (((decide (a0.fPort < (1 : Int))) || (decide ((999 : Int) < a0.fPort))) == false) (bo (decide (a0.fSeconds < (1 : Int)))))))
  (oc (mv hN (ot 18 (bo (((decide (a0.fPort < (1 : Int))) || (decide ((999 : Int) < a0.fPort))) || (decide (a0.fSeconds < (1 : Int)))))))
  (oc (op hN (.ptr 1001 1 [1]) (ov (.ptr 1001 1 [1]) (fp hN Try.underlying30 1 tyS3 (.box 30 (.d (e_api_Series a0))) (ot 1 (.ptr 1001 0 [])))) (OptL.keep rfl OptL.nil) (GuardV.plain _))
  (oc (op hN (i6 a0.fSeconds) (lb hN 30 (.d (e_api_Series a0)) (i6 a0.fSeconds) tyS3 (ad (.int .i64 a0.fSeconds)) (ot 20 (.ptr 1001 1 [1]))) (OptL.opt OptL.nil) (GuardV.plain _))
  (oc (op hN (bo (decide ((86400 : Int) < a0.fSeconds))) (OpJ.gtr (ltN hN rfl) (ot 21 (i6 a0.fSeconds)) (Opd.int .i64 (86400))) (OptL.opt OptL.nil) (GuardV.plain _))
  (oc (OpJ.pickOr rfl (ltN hN rfl) (ot 19 (bo (((decide (a0.fPort < (1 : Int))) || (decide ((999 : Int) < a0.fPort))) || (decide (a0.fSeconds < (1 : Int)))))) (ot 22 (.opt ((((decide (a0.fPort < (1 : Int))) || (decide ((999 : Int) < a0.fPort))) || (decide (a0.fSeconds < (1 : Int)))) == false) (bo (decide ((86400 : Int) < a0.fSeconds))))))
  (oc (mv hN (ot 23 (bo ((((decide (a0.fPort < (1 : Int))) || (decide ((999 : Int) < a0.fPort))) || (decide (a0.fSeconds < (1 : Int)))) || (decide ((86400 : Int) < a0.fSeconds))))))
  (oc (op hN (.ptr 1001 2 [2]) (ov (.ptr 1001 2 [2]) (fp hN Try.underlying30 2 tyS22 (.box 30 (.d (e_api_Series a0))) (ot 1 (.ptr 1001 0 [])))) (OptL.keep rfl OptL.nil) (GuardV.plain _))
  (oc (op hN (.d (.list 1 (a0.fIn.map (eI .i64)))) (lb hN 30 (.d (e_api_Series a0)) (.d (.list 1 (a0.fIn.map (eI .i64)))) tyS22 (ad (.list 1 (a0.fIn.map (eI .i64)))) (ot 25 (.ptr 1001 2 [2]))) (OptL.opt OptL.nil) (GuardV.plain _))
  (oc (op hN (i6 (a0.fIn.length : Int)) (OpJ.val (v' := (i6 (a0.fIn.length : Int))) (by simp) (OpJ.lenD Try.underlying22 (ltN hN rfl) (ot 26 (.d (.list 1 (a0.fIn.map (eI .i64))))))) (OptL.opt OptL.nil) (GuardV.plain _))
  (oc (op hN (.ptr 1001 3 [3]) (ov (.ptr 1001 3 [3]) (fp hN Try.underlying30 3 tyS22 (.box 30 (.d (e_api_Series a0))) (ot 1 (.ptr 1001 0 [])))) (OptL.keep rfl OptL.nil) (GuardV.plain _))
  (oc (op hN (.d (.list 1 (a0.fOut.map (eI .i64)))) (lb hN 30 (.d (e_api_Series a0)) (.d (.list 1 (a0.fOut.map (eI .i64)))) tyS22 (ad (.list 1 (a0.fOut.map (eI .i64)))) (ot 28 (.ptr 1001 3 [3]))) (OptL.opt OptL.nil) (GuardV.plain _))
  (oc (op hN (i6 (a0.fOut.length : Int)) (OpJ.val (v' := (i6 (a0.fOut.length : Int))) (by simp) (OpJ.lenD Try.underlying22 (ltN hN rfl) (ot 29 (.d (.list 1 (a0.fOut.map (eI .i64))))))) (OptL.opt OptL.nil) (GuardV.plain _))
  (oc (op hN (bo ((a0.fIn.length : Int) != (a0.fOut.length : Int))) (OpJ.neqI (ltN hN rfl) (ot 27 (i6 (a0.fIn.length : Int))) (ot 30 (i6 (a0.fOut.length : Int)))) (OptL.opt (OptL.opt OptL.nil)) (GuardV.plain _))
  (oc (OpJ.pickOr rfl (ltN hN rfl) (ot 24 (bo ((((decide (a0.fPort < (1 : Int))) || (decide ((999 : Int) < a0.fPort))) || (decide (a0.fSeconds < (1 : Int)))) || (decide ((86400 : Int) < a0.fSeconds))))) (ot 31 (.opt (((((decide (a0.fPort < (1 : Int))) || (decide ((999 : Int) < a0.fPort))) || (decide (a0.fSeconds < (1 : Int)))) || (decide ((86400 : Int) < a0.fSeconds))) == false) (bo ((a0.fIn.length : Int) != (a0.fOut.length : Int))))))
  (oc (mv hN (ot 32 (bo (((((decide (a0.fPort < (1 : Int))) || (decide ((999 : Int) < a0.fPort))) || (decide (a0.fSeconds < (1 : Int)))) || (decide ((86400 : Int) < a0.fSeconds))) || ((a0.fIn.length : Int) != (a0.fOut.length : Int))))))
  (oc (op hN (.ptr 1001 2 [2]) (ov (.ptr 1001 2 [2]) (fp hN Try.underlying30 2 tyS22 (.box 30 (.d (e_api_Series a0))) (ot 1 (.ptr 1001 0 [])))) (OptL.keep rfl OptL.nil) (GuardV.plain _))
  (oc (op hN (.d (.list 1 (a0.fIn.map (eI .i64)))) (lb hN 30 (.d (e_api_Series a0)) (.d (.list 1 (a0.fIn.map (eI .i64)))) tyS22 (ad (.list 1 (a0.fIn.map (eI .i64)))) (ot 34 (.ptr 1001 2 [2]))) (OptL.opt OptL.nil) (GuardV.plain _))
  (oc (op hN (i6 (a0.fIn.length : Int)) (OpJ.val (v' := (i6 (a0.fIn.length : Int))) (by simp) (OpJ.lenD Try.underlying22 (ltN hN rfl) (ot 35 (.d (.list 1 (a0.fIn.map (eI .i64))))))) (OptL.opt OptL.nil) (GuardV.plain _))
  (oc (op hN (bo (decide ((9000 : Int) < (a0.fIn.length : Int)))) (OpJ.gtr (ltN hN rfl) (ot 36 (i6 (a0.fIn.length : Int))) (Opd.int .i64 (9000))) (OptL.opt OptL.nil) (GuardV.plain _))
  (oc (OpJ.pickOr rfl (ltN hN rfl) (ot 33 (bo (((((decide (a0.fPort < (1 : Int))) || (decide ((999 : Int) < a0.fPort))) || (decide (a0.fSeconds < (1 : Int)))) || (decide ((86400 : Int) < a0.fSeconds))) || ((a0.fIn.length : Int) != (a0.fOut.length : Int))))) (ot 37 (.opt ((((((decide (a0.fPort < (1 : Int))) || (decide ((999 : Int) < a0.fPort))) || (decide (a0.fSeconds < (1 : Int)))) || (decide ((86400 : Int) < a0.fSeconds))) || ((a0.fIn.length : Int) != (a0.fOut.length : Int))) == false) (bo (decide ((9000 : Int) < (a0.fIn.length : Int)))))))
  (OpJs.nil)))))))))))))))))))))))))))))))))) (by rfl) (by rfl) ?_
  refine seqQ_n ?_
  refine AWp.ghost (mp [] [(1, (.ptr 1001 0 [])), (38, (bo ((((((decide (a0.fPort < (1 : Int))) || (decide ((999 : Int) < a0.fPort))) || (decide (a0.fSeconds < (1 : Int)))) || (decide ((86400 : Int) < a0.fSeconds))) || ((a0.fIn.length : Int) != (a0.fOut.length : Int))) || (decide ((9000 : Int) < (a0.fIn.length : Int))))))] [(1001, some (.box 30 (.d (e_api_Series a0))))] hB) ?_
  refine AWp.cond (b := ((((((decide (a0.fPort < (1 : Int))) || (decide ((999 : Int) < a0.fPort))) || (decide (a0.fSeconds < (1 : Int)))) || (decide ((86400 : Int) < a0.fSeconds))) || ((a0.fIn.length : Int) != (a0.fOut.length : Int))) || (decide ((9000 : Int) < (a0.fIn.length : Int))))) (by rfl) (fun hg1 => ?_) (fun hg1 => ?_)
  · replace h := ite_t hg1 h
    refine AWp.seq ?_
    refine AWp.region (oc (OpJ.assign (ltN hN rfl) (Opd.bool false))
      (OpJs.nil)) (by rfl) (by rfl) ?_
    refine seqQ_n ?_
    refine AWp.ghost (mp [] [(2, (bo false))] [] hB) ?_
    refine AWp.ret ?_
    refine seqQ_r ?_
    obtain rfl := Option.some.inj h
    exact ⟨.inl rfl, _, _, (mp [] [(2, (bo false))] [] hB), [(bo false)], (Res.tmp (by rfl) (by rfl) Res.nil), rfl, by rfl, by rfl, by rfl⟩
  · replace h := ite_f hg1 h
    refine AWp.skip ?_
    refine seqQ_n ?_
    refine AWp.seq ?_
    refine AWp.seq ?_
    refine AWp.region (oc (ov (.ptr 1001 2 [2]) (fp hN Try.underlying30 2 tyS22 (.box 30 (.d (e_api_Series a0))) (ot 1 (.ptr 1001 0 []))))
      (oc (lb hN 30 (.d (e_api_Series a0)) (.d (.list 1 (a0.fIn.map (eI .i64)))) tyS22 (ad (.list 1 (a0.fIn.map (eI .i64)))) (ot 39 (.ptr 1001 2 [2])))
      (oc (OpJ.val (v' := (i6 (a0.fIn.length : Int))) (by simp) (OpJ.lenD Try.underlying22 (ltN hN rfl) (ot 40 (.d (.list 1 (a0.fIn.map (eI .i64)))))))
      (oc (mv hN (Opd.int .i64 (0)))
      (OpJs.nil))))) (by rfl) (by rfl) ?_
    refine seqQ_n ?_
    refine AWp.ghost (mp [] [(1, (.ptr 1001 0 [])), (41, (i6 (a0.fIn.length : Int))), (42, (i6 (0 : Int)))] [(1001, some (.box 30 (.d (e_api_Series a0))))] hB) ?_
    refine AWp.block ?_
    obtain ⟨x17, hx18, h⟩ := bindS h
    refine AWp.ghost (mp [] ((fun s2 : Int => ([(1, (.ptr 1001 0 [])), (41, (i6 (a0.fIn.length : Int))), (42, (i6 s2))] : EL)) (0 : Int)) ((fun s2 : Int => ([(1001, some (.box 30 (.d (e_api_Series a0))))] : OL)) (0 : Int)) hB) ?_
    refine AWp.loopS (exchangepointref40_Valid_L0 a0) (fun s2 : Int => ([(1, (.ptr 1001 0 [])), (41, (i6 (a0.fIn.length : Int))), (42, (i6 s2))] : EL)) (fun s2 : Int => ([(1001, some (.box 30 (.d (e_api_Series a0))))] : OL)) (fun (x : (Unit) ⊕ (Unit)) e E' O' => match x with | (.inl _p) => e = .ret ∧ Mat B E' O' ([(2, (bo false))] : EL) ([] : OL) | (.inr _p) => e = .exit 0 ∧ Mat B E' O' ([] : EL) ([] : OL)) hx18 (fun s2 y h => ?_) (fun e E' O' hR => ?_)
    · unfold exchangepointref40_Valid_L0 at h
      show AWp _ _ _ _ ([(1, (.ptr 1001 0 [])), (41, (i6 (a0.fIn.length : Int))), (42, (i6 s2))] : EL) ([(1001, some (.box 30 (.d (e_api_Series a0))))] : OL)
      refine AWp.seq ?_
      refine AWp.region (oc (OpJ.lss (ltN hN rfl) (ot 42 (i6 s2)) (ot 41 (i6 (a0.fIn.length : Int))))
        (OpJs.nil)) (by rfl) (by rfl) ?_
      refine seqQ_n ?_
      refine AWp.ghost (mp [] [(1, (.ptr 1001 0 [])), (41, (i6 (a0.fIn.length : Int))), (42, (i6 s2)), (43, (bo (decide (s2 < (a0.fIn.length : Int)))))] [(1001, some (.box 30 (.d (e_api_Series a0))))] hB) ?_
      refine AWp.seq ?_
      refine AWp.cond (b := (decide (s2 < (a0.fIn.length : Int)))) (by rfl) (fun hg13 => ?_) (fun hg13 => ?_)
      · replace h := ite_t hg13 h
        refine AWp.skip ?_
        refine seqQ_n ?_
        refine AWp.seq ?_
        refine AWp.block ?_
        refine AWp.seq ?_
        refine AWp.region (oc (mv hN (ot 42 (i6 s2)))
          (oc (OpJ.assign (ltN hN rfl) (ot 44 (i6 s2)))
          (OpJs.nil))) (by rfl) (by rfl) ?_
        refine seqQ_n ?_
        refine AWp.ghost (mp [] [(1, (.ptr 1001 0 [])), (3, (i6 s2)), (41, (i6 (a0.fIn.length : Int))), (42, (i6 s2))] [(1001, some (.box 30 (.d (e_api_Series a0))))] hB) ?_
        refine AWp.seq ?_
        obtain ⟨x14, hx14, h⟩ := bindS h
        obtain ⟨x15, hx15, h⟩ := bindS h
        refine AWp.draws (by kernel_rfl) (oc (ov (.ptr 1001 2 [2]) (fp hN Try.underlying30 2 tyS22 (.box 30 (.d (e_api_Series a0))) (ot 1 (.ptr 1001 0 []))))
          (oc (lb hN 30 (.d (e_api_Series a0)) (.d (.list 1 (a0.fIn.map (eI .i64)))) tyS22 (ad (.list 1 (a0.fIn.map (eI .i64)))) (ot 45 (.ptr 1001 2 [2])))
          (oc (mv hN (ot 3 (i6 s2)))
          (oc (OpJ.indexD (el := (.int .i64 x14)) Try.underlying22 tyS3 (idx_some hx14).1 (get_map (eI .i64) (idx_some hx14).2) (ltN hN rfl) (ot 46 (.d (.list 1 (a0.fIn.map (eI .i64))))) (ot 47 (i6 s2)))
          (oc (OpJ.loadD tyS3 (by rfl) (by rfl) (ltN hN rfl) (ot 48 (.dptr (.int .i64 x14))))
          (oc (ov (.ptr 1001 3 [3]) (fp hN Try.underlying30 3 tyS22 (.box 30 (.d (e_api_Series a0))) (ot 1 (.ptr 1001 0 []))))
          (oc (lb hN 30 (.d (e_api_Series a0)) (.d (.list 1 (a0.fOut.map (eI .i64)))) tyS22 (ad (.list 1 (a0.fOut.map (eI .i64)))) (ot 50 (.ptr 1001 3 [3])))
          (oc (mv hN (ot 3 (i6 s2)))
          (oc (OpJ.indexD (el := (.int .i64 x15)) Try.underlying22 tyS3 (idx_some hx15).1 (get_map (eI .i64) (idx_some hx15).2) (ltN hN rfl) (ot 51 (.d (.list 1 (a0.fOut.map (eI .i64))))) (ot 52 (i6 s2)))
          (oc (OpJ.loadD tyS3 (by rfl) (by rfl) (ltN hN rfl) (ot 53 (.dptr (.int .i64 x15))))
          (oc (OpJ.assign (ltN hN rfl) (ot 49 (i6 x14)))
          (oc (OpJ.assign (ltN hN rfl) (ot 54 (i6 x15)))
          (OpJs.nil))))))))))))) (by kernel_rfl) (by rfl) (by rfl) ?_
        refine seqQ_n ?_
        refine AWp.ghost (mp [] [(1, (.ptr 1001 0 [])), (4, (i6 x14)), (5, (i6 x15)), (41, (i6 (a0.fIn.length : Int))), (42, (i6 s2))] [(1001, some (.box 30 (.d (e_api_Series a0))))] hB) ?_
        refine AWp.seq ?_
        refine AWp.region (oc (mv hN (ot 4 (i6 x14)))
          (oc (OpJ.lss (ltN hN rfl) (ot 55 (i6 x14)) (Opd.int .i64 (-1)))
          (oc (mv hN (ot 56 (bo (decide (x14 < (-1 : Int))))))
          (oc (op hN (i6 x14) (mv hN (ot 4 (i6 x14))) (OptL.keep rfl OptL.nil) (GuardV.plain _))
          (oc (op hN (bo (decide ((1125899906842624 : Int) < x14))) (OpJ.gtr (ltN hN rfl) (ot 58 (i6 x14)) (Opd.int .i64 (1125899906842624))) (OptL.opt OptL.nil) (GuardV.plain _))
          (oc (OpJ.pickOr rfl (ltN hN rfl) (ot 57 (bo (decide (x14 < (-1 : Int))))) (ot 59 (.opt ((decide (x14 < (-1 : Int))) == false) (bo (decide ((1125899906842624 : Int) < x14))))))
          (oc (mv hN (ot 60 (bo ((decide (x14 < (-1 : Int))) || (decide ((1125899906842624 : Int) < x14))))))
          (oc (op hN (i6 x15) (mv hN (ot 5 (i6 x15))) (OptL.keep rfl OptL.nil) (GuardV.plain _))
          (oc (op hN (bo (decide (x15 < (-1 : Int)))) (OpJ.lss (ltN hN rfl) (ot 62 (i6 x15)) (Opd.int .i64 (-1))) (OptL.opt OptL.nil) (GuardV.plain _))
          (oc (OpJ.pickOr rfl (ltN hN rfl) (ot 61 (bo ((decide (x14 < (-1 : Int))) || (decide ((1125899906842624 : Int) < x14))))) (ot 63 (.opt (((decide (x14 < (-1 : Int))) || (decide ((1125899906842624 : Int) < x14))) == false) (bo (decide (x15 < (-1 : Int)))))))
          (oc (mv hN (ot 64 (bo (((decide (x14 < (-1 : Int))) || (decide ((1125899906842624 : Int) < x14))) || (decide (x15 < (-1 : Int)))))))
          (oc (op hN (i6 x15) (mv hN (ot 5 (i6 x15))) (OptL.keep rfl OptL.nil) (GuardV.plain _))
          (oc (op hN (bo (decide ((1125899906842624 : Int) < x15))) (OpJ.gtr (ltN hN rfl) (ot 66 (i6 x15)) (Opd.int .i64 (1125899906842624))) (OptL.opt OptL.nil) (GuardV.plain _))
          (oc (OpJ.pickOr rfl (ltN hN rfl) (ot 65 (bo (((decide (x14 < (-1 : Int))) || (decide ((1125899906842624 : Int) < x14))) || (decide (x15 < (-1 : Int)))))) (ot 67 (.opt ((((decide (x14 < (-1 : Int))) || (decide ((1125899906842624 : Int) < x14))) || (decide (x15 < (-1 : Int)))) == false) (bo (decide ((1125899906842624 : Int) < x15))))))
          (oc (mv hN (ot 68 (bo ((((decide (x14 < (-1 : Int))) || (decide ((1125899906842624 : Int) < x14))) || (decide (x15 < (-1 : Int)))) || (decide ((1125899906842624 : Int) < x15))))))
          (oc (op hN (i6 x14) (mv hN (ot 4 (i6 x14))) (OptL.keep rfl OptL.nil) (GuardV.plain _))
          (oc (op hN (bo (x14 == (-1 : Int))) (OpJ.eqlI (ltN hN rfl) (ot 70 (i6 x14)) (Opd.int .i64 (-1))) (OptL.opt OptL.nil) (GuardV.plain _))
          (oc (op hN (i6 x15) (mv hN (ot 5 (i6 x15))) (OptL.keep rfl OptL.nil) (GuardV.plain _))
          (oc (op hN (bo (x15 == (-1 : Int))) (OpJ.eqlI (ltN hN rfl) (ot 72 (i6 x15)) (Opd.int .i64 (-1))) (OptL.opt OptL.nil) (GuardV.plain _))
          (oc (op hN (bo ((x14 == (-1 : Int)) != (x15 == (-1 : Int)))) (OpJ.neqB Try.underlying4 (ltN hN rfl) (ot 71 (bo (x14 == (-1 : Int)))) (ot 73 (bo (x15 == (-1 : Int))))) (OptL.opt (OptL.opt OptL.nil)) (GuardV.plain _))
          (oc (OpJ.pickOr rfl (ltN hN rfl) (ot 69 (bo ((((decide (x14 < (-1 : Int))) || (decide ((1125899906842624 : Int) < x14))) || (decide (x15 < (-1 : Int)))) || (decide ((1125899906842624 : Int) < x15))))) (ot 74 (.opt (((((decide (x14 < (-1 : Int))) || (decide ((1125899906842624 : Int) < x14))) || (decide (x15 < (-1 : Int)))) || (decide ((1125899906842624 : Int) < x15))) == false) (bo ((x14 == (-1 : Int)) != (x15 == (-1 : Int)))))))
          (OpJs.nil)))))))))))))))))))))) (by rfl) (by rfl) ?_
        refine seqQ_n ?_
        refine AWp.ghost (mp [] [(1, (.ptr 1001 0 [])), (41, (i6 (a0.fIn.length : Int))), (42, (i6 s2)), (75, (bo (((((decide (x14 < (-1 : Int))) || (decide ((1125899906842624 : Int) < x14))) || (decide (x15 < (-1 : Int)))) || (decide ((1125899906842624 : Int) < x15))) || ((x14 == (-1 : Int)) != (x15 == (-1 : Int))))))] [(1001, some (.box 30 (.d (e_api_Series a0))))] hB) ?_
        refine AWp.cond (b := (((((decide (x14 < (-1 : Int))) || (decide ((1125899906842624 : Int) < x14))) || (decide (x15 < (-1 : Int)))) || (decide ((1125899906842624 : Int) < x15))) || ((x14 == (-1 : Int)) != (x15 == (-1 : Int))))) (by rfl) (fun hg16 => ?_) (fun hg16 => ?_)
        · replace h := ite_t hg16 h
          refine AWp.seq ?_
          refine AWp.region (oc (OpJ.assign (ltN hN rfl) (Opd.bool false))
            (OpJs.nil)) (by rfl) (by rfl) ?_
          refine seqQ_n ?_
          refine AWp.ghost (mp [] [(2, (bo false))] [] hB) ?_
          refine AWp.ret ?_
          refine blkQ_r ?_
          refine seqQ_r ?_
          obtain rfl := Option.some.inj h
          exact ⟨(fun hc => by cases hc), rfl, (mp [] ((fun _ : Unit => ([(2, (bo false))] : EL)) ()) ((fun _ : Unit => ([] : OL)) ()) hB)⟩
        · replace h := ite_f hg16 h
          refine AWp.skip ?_
          refine blkQ_n ?_
          refine seqQ_n ?_
          refine AWp.region (oc (OpJ.add (ltN hN rfl) (ot 42 (i6 s2)) (Opd.int .i64 (1)))
            (oc (mv hN (ot 76 (i6 (w64 (s2 + (1 : Int))))))
            (OpJs.nil))) (by rfl) (by rfl) ?_
          obtain rfl := Option.some.inj h
          exact ⟨rfl, (Mat.trans (mp [] [(1, (.ptr 1001 0 [])), (41, (i6 (a0.fIn.length : Int))), (42, (i6 (w64 (s2 + (1 : Int)))))] [(1001, some (.box 30 (.d (e_api_Series a0))))] hB) (mp [] ((fun s2 : Int => ([(1, (.ptr 1001 0 [])), (41, (i6 (a0.fIn.length : Int))), (42, (i6 s2))] : EL)) (w64 (s2 + (1 : Int)))) ((fun s2 : Int => ([(1001, some (.box 30 (.d (e_api_Series a0))))] : OL)) (w64 (s2 + (1 : Int)))) hB))⟩
      · replace h := ite_f hg13 h
        refine AWp.exit ?_
        refine seqQ_e ?_
        obtain rfl := Option.some.inj h
        exact ⟨(fun hc => by cases hc), rfl, (mp [] ((fun _ : Unit => ([] : EL)) ()) ((fun _ : Unit => ([] : OL)) ()) hB)⟩
    · rcases x17 with _ | _
      · obtain ⟨rfl, hmat⟩ := hR
        refine blkQ_r ?_
        refine seqQ_r ?_
        obtain rfl := Option.some.inj h
        exact ⟨.inl rfl, _, _, (Mat.trans hmat (mp [] [(2, (bo false))] [] hB)), [(bo false)], (Res.tmp (by rfl) (by rfl) Res.nil), rfl, by rfl, by rfl, by rfl⟩
      · obtain ⟨rfl, hmat⟩ := hR
        refine blkQ_hit ?_
        refine seqQ_n ?_
        refine AWp.ghost hmat ?_
        refine AWp.seq ?_
        refine AWp.region (oc (OpJ.assign (ltN hN rfl) (Opd.bool true))
          (OpJs.nil)) (by rfl) (by rfl) ?_
        refine seqQ_n ?_
        refine AWp.ghost (mp [] [(2, (bo true))] [] hB) ?_
        refine AWp.ret ?_
        obtain rfl := Option.some.inj h
        exact ⟨.inl rfl, _, _, (mp [] [(2, (bo true))] [] hB), [(bo true)], (Res.tmp (by rfl) (by rfl) Res.nil), rfl, by rfl, by rfl, by rfl⟩

noncomputable def percentile_Rates_L0 (a0 : (List Int)) (a1 : Int) (s3 : Int × (List Int)) : Option (((Int) ⊕ ((List Int))) ⊕ (Int × (List Int))) :=
  (if (decide (s3.1 < (a0.length : Int))) = true then
  jn (fun m38 : (List Int) =>
  some (.inr ((w64 (s3.1 + (1 : Int))), m38))) (fun j39 =>
  (idx a0 s3.1).bind fun x40 =>
  (if (x40 == (-1 : Int)) = true then
  j39 s3.2
  else
  (percentile_Rate x40 a1).bind fun r42 =>
  (if (r42.2 != (0 : Int)) = true then
  some (.inl (.inl r42.2))
  else
  chk (decide ((s3.2 ++ ([r42.1] : List Int)).length ≤ LIM)) <|
  j39 (s3.2 ++ ([r42.1] : List Int)))))
  else
  some (.inl (.inr s3.2)))
noncomputable def percentile_Rates (a0 : (List Int)) (a1 : Int) : Option ((List Int) × Int) :=
  (percentile_length a1).bind fun r1 =>
  (if (!r1) = true then
  some (([] : List Int), (1 : Int))
  else
  (loop (percentile_Rates_L0 a0 a1) ((0 : Int), ([] : List Int))).bind fun x45 => match x45 with
  | (.inl p30) =>
    some (([] : List Int), p30)
  | (.inr p31) =>
    some (p31, (0 : Int)))
set_option maxHeartbeats 4000000 in
set_option maxRecDepth 100000 in
theorem percentile_Rates_ac (a0 : (List Int)) (a1 : Int) (r : (List Int) × Int) (h : percentile_Rates a0 a1 = some r) : AC Try.prog 22 [(.d (.list 1 (a0.map (eI .i64)))), (.d (.int .i64 a1))] [] (.tup [(.d (.list 1 (r.1.map (eI .i64)))), (.d (.int .i64 r.2))]) [] := by
  refine AC.of_code2 Try.func22 rfl rfl (Nat.le_of_ble_eq_true (by rfl)) fun B hB hN => ?_
  delta percentile_Rates at h
  refine AWp.seq ?_
  refine AWp.region (oc (OpJ.assign (ltN hN rfl) Opd.nils)
  (oc (OpJ.assign (ltN hN rfl) (Opd.int .i64 (0)))
  (OpJs.nil))) (by rfl) (by rfl) ?_
  refine seqQ_n ?_
  refine AWp.ghost (mp [] [(0, (.d (.list 1 (a0.map (eI .i64))))), (1, (i6 a1))] [] hB) ?_
  refine AWp.seq ?_
  refine AWp.seq ?_
  obtain ⟨r1, hr1, h⟩ := bindS h
  refine AWp.region (oc (mv hN (ot 1 (i6 a1)))
  (oc (OpJ.callFn hB fnOk35 (percentile_length_ac a1 r1 hr1) [] (by kernel_rfl) (ltN hN rfl) (by kernel_rfl) (OpdL.cons (ot 11 (i6 a1)) OpdL.nil))
  (oc (OpJ.not (ltN hN rfl) (ot 12 (bo r1)))
  (OpJs.nil)))) (by rfl) (by rfl) ?_
  refine seqQ_n ?_
  refine AWp.ghost (mp [] [(0, (.d (.list 1 (a0.map (eI .i64))))), (1, (i6 a1)), (13, (bo (!r1)))] [] hB) ?_
  refine AWp.cond (b := (!r1)) (by rfl) (fun hg2 => ?_) (fun hg2 => ?_)
  · replace h := ite_t hg2 h
    refine AWp.seq ?_
    refine AWp.region (oc (OpJ.assign (ltN hN rfl) Opd.nils)
      (oc (OpJ.assign (ltN hN rfl) (Opd.int .i64 (1)))
      (OpJs.nil))) (by rfl) (by rfl) ?_
    refine seqQ_n ?_
    refine AWp.ghost (mp [] [(4, .nils), (5, (i6 (1 : Int)))] [] hB) ?_
    refine AWp.ret ?_
    refine seqQ_r ?_
    obtain rfl := Option.some.inj h
    exact ⟨.inl rfl, _, _, (Mat.trans (Mat.coeP (Ts := [(4, (.d (.list 1 (([] : List Int).map (eI .i64)))))]) (Bs := []) (TwT.cons (x := .nils) (by rfl) (Tw.leaf ⟨_, (Co.nils 1), rfl⟩) TwT.nil) TwB.nil) (mp [] [(4, (.d (.list 1 (([] : List Int).map (eI .i64))))), (5, (i6 (1 : Int)))] [] hB)), [(.d (.list 1 (([] : List Int).map (eI .i64)))), (i6 (1 : Int))], (Res.tmp (by rfl) (by rfl) (Res.tmp (by rfl) (by rfl) Res.nil)), rfl, by rfl, by rfl, by rfl⟩
  · replace h := ite_f hg2 h
    refine AWp.skip ?_
    refine seqQ_n ?_
    refine AWp.seq ?_
    refine AWp.region (oc (OpJ.assign (ltN hN rfl) Opd.nils)
      (OpJs.nil)) (by rfl) (by rfl) ?_
    refine seqQ_n ?_
    refine AWp.ghost (mp [] [(0, (.d (.list 1 (a0.map (eI .i64))))), (1, (i6 a1)), (6, .nils)] [] hB) ?_
    refine AWp.seq ?_
    refine AWp.seq ?_
    refine AWp.region (oc (mv hN (ot 0 (.d (.list 1 (a0.map (eI .i64))))))
      (oc (OpJ.val (v' := (i6 (a0.length : Int))) (by simp) (OpJ.lenD Try.underlying22 (ltN hN rfl) (ot 14 (.d (.list 1 (a0.map (eI .i64)))))))
      (oc (mv hN (Opd.int .i64 (0)))
      (OpJs.nil)))) (by rfl) (by rfl) ?_
    refine seqQ_n ?_
    refine AWp.ghost (mp [] [(1, (i6 a1)), (6, .nils), (14, (.d (.list 1 (a0.map (eI .i64))))), (15, (i6 (a0.length : Int))), (16, (i6 (0 : Int)))] [] hB) ?_
    refine AWp.block ?_
    obtain ⟨x45, hx46, h⟩ := bindS h
    refine AWp.ghost (Mat.trans (Mat.beginP (n := 3006) (e := 3) (sz := 1) (Ts := [(6, (.sref 3006 1 0 0))]) (Bs := []) hB (by decide) (by rfl) (by decide) (TwT.cons (x := .nils) (by rfl) (Tw.leaf ⟨rfl, rfl⟩) TwT.nil) TwB.nil) (mp [] ((fun s3 : Int × (List Int) => ([(1, (i6 a1)), (6, (.sref 3006 1 0 s3.2.length)), (14, (.d (.list 1 (a0.map (eI .i64))))), (15, (i6 (a0.length : Int))), (16, (i6 s3.1))] : EL)) ((0 : Int), ([] : List Int))) ((fun s3 : Int × (List Int) => ([(3006, some (.row 3 1 (s3.2.map (eI .i64))))] : OL)) ((0 : Int), ([] : List Int))) hB)) ?_
    refine AWp.loopS (percentile_Rates_L0 a0 a1) (fun s3 : Int × (List Int) => ([(1, (i6 a1)), (6, (.sref 3006 1 0 s3.2.length)), (14, (.d (.list 1 (a0.map (eI .i64))))), (15, (i6 (a0.length : Int))), (16, (i6 s3.1))] : EL)) (fun s3 : Int × (List Int) => ([(3006, some (.row 3 1 (s3.2.map (eI .i64))))] : OL)) (fun (x : (Int) ⊕ ((List Int))) e E' O' => match x with | (.inl p30) => e = .ret ∧ Mat B E' O' ([(4, .nils), (5, (i6 p30))] : EL) ([] : OL) | (.inr p31) => e = .exit 0 ∧ Mat B E' O' ([(6, (.sref 3006 1 0 p31.length))] : EL) ([(3006, some (.row 3 1 (p31.map (eI .i64))))] : OL)) hx46 (fun s3 y h => ?_) (fun e E' O' hR => ?_)
    · unfold percentile_Rates_L0 at h
      show AWp _ _ _ _ ([(1, (i6 a1)), (6, (.sref 3006 1 0 s3.2.length)), (14, (.d (.list 1 (a0.map (eI .i64))))), (15, (i6 (a0.length : Int))), (16, (i6 s3.1))] : EL) ([(3006, some (.row 3 1 (s3.2.map (eI .i64))))] : OL)
      refine AWp.seq ?_
      refine AWp.region (oc (OpJ.lss (ltN hN rfl) (ot 16 (i6 s3.1)) (ot 15 (i6 (a0.length : Int))))
        (OpJs.nil)) (by rfl) (by rfl) ?_
      refine seqQ_n ?_
      refine AWp.ghost (mp [] [(1, (i6 a1)), (6, (.sref 3006 1 0 s3.2.length)), (14, (.d (.list 1 (a0.map (eI .i64))))), (15, (i6 (a0.length : Int))), (16, (i6 s3.1)), (17, (bo (decide (s3.1 < (a0.length : Int)))))] [(3006, some (.row 3 1 (s3.2.map (eI .i64))))] hB) ?_
      refine AWp.seq ?_
      refine AWp.cond (b := (decide (s3.1 < (a0.length : Int)))) (by rfl) (fun hg32 => ?_) (fun hg32 => ?_)
      · replace h := ite_t hg32 h
        refine AWp.skip ?_
        refine seqQ_n ?_
        refine AWp.seq ?_
        refine AWp.cut h (fun m38 : (List Int) => ([(1, (i6 a1)), (6, (.sref 3006 1 0 m38.length)), (14, (.d (.list 1 (a0.map (eI .i64))))), (15, (i6 (a0.length : Int))), (16, (i6 s3.1))] : EL)) (fun m38 : (List Int) => ([(3006, some (.row 3 1 (m38.map (eI .i64))))] : OL)) (fun m38 h E' O' hmat => ?_) (fun j39 hjj39 h => ?_)
        · refine seqQ_n ?_
          refine AWp.ghost hmat ?_
          refine AWp.region (oc (OpJ.add (ltN hN rfl) (ot 16 (i6 s3.1)) (Opd.int .i64 (1)))
            (oc (mv hN (ot 35 (i6 (w64 (s3.1 + (1 : Int))))))
            (OpJs.nil))) (by rfl) (by rfl) ?_
          obtain rfl := Option.some.inj h
          exact ⟨rfl, (Mat.trans (mp [] [(1, (i6 a1)), (6, (.sref 3006 1 0 m38.length)), (14, (.d (.list 1 (a0.map (eI .i64))))), (15, (i6 (a0.length : Int))), (16, (i6 (w64 (s3.1 + (1 : Int)))))] [(3006, some (.row 3 1 (m38.map (eI .i64))))] hB) (mp [] ((fun s3 : Int × (List Int) => ([(1, (i6 a1)), (6, (.sref 3006 1 0 s3.2.length)), (14, (.d (.list 1 (a0.map (eI .i64))))), (15, (i6 (a0.length : Int))), (16, (i6 s3.1))] : EL)) ((w64 (s3.1 + (1 : Int))), m38)) ((fun s3 : Int × (List Int) => ([(3006, some (.row 3 1 (s3.2.map (eI .i64))))] : OL)) ((w64 (s3.1 + (1 : Int))), m38)) hB))⟩
        · refine AWp.block ?_
          refine AWp.seq ?_
          obtain ⟨x40, hx40, h⟩ := bindS h
          refine AWp.region (oc (OpJ.indexD (el := (.int .i64 x40)) Try.underlying22 tyS3 (idx_some hx40).1 (get_map (eI .i64) (idx_some hx40).2) (ltN hN rfl) (ot 14 (.d (.list 1 (a0.map (eI .i64))))) (ot 16 (i6 s3.1)))
            (oc (OpJ.loadD tyS3 (by rfl) (by rfl) (ltN hN rfl) (ot 18 (.dptr (.int .i64 x40))))
            (oc (OpJ.assign (ltN hN rfl) (ot 19 (i6 x40)))
            (OpJs.nil)))) (by rfl) (by rfl) ?_
          refine seqQ_n ?_
          refine AWp.ghost (mp [] [(1, (i6 a1)), (6, (.sref 3006 1 0 s3.2.length)), (8, (i6 x40)), (14, (.d (.list 1 (a0.map (eI .i64))))), (15, (i6 (a0.length : Int))), (16, (i6 s3.1))] [(3006, some (.row 3 1 (s3.2.map (eI .i64))))] hB) ?_
          refine AWp.seq ?_
          refine AWp.seq ?_
          refine AWp.region (oc (mv hN (ot 8 (i6 x40)))
            (oc (OpJ.eqlI (ltN hN rfl) (ot 20 (i6 x40)) (Opd.int .i64 (-1)))
            (OpJs.nil))) (by rfl) (by rfl) ?_
          refine seqQ_n ?_
          refine AWp.ghost (mp [] [(1, (i6 a1)), (6, (.sref 3006 1 0 s3.2.length)), (8, (i6 x40)), (14, (.d (.list 1 (a0.map (eI .i64))))), (15, (i6 (a0.length : Int))), (16, (i6 s3.1)), (21, (bo (x40 == (-1 : Int))))] [(3006, some (.row 3 1 (s3.2.map (eI .i64))))] hB) ?_
          refine AWp.cond (b := (x40 == (-1 : Int))) (by rfl) (fun hg41 => ?_) (fun hg41 => ?_)
          · replace h := ite_t hg41 h
            refine AWp.exit ?_
            refine seqQ_e ?_
            refine blkQ_hit ?_
            exact hjj39 _ h _ _ (mp [] ((fun m38 : (List Int) => ([(1, (i6 a1)), (6, (.sref 3006 1 0 m38.length)), (14, (.d (.list 1 (a0.map (eI .i64))))), (15, (i6 (a0.length : Int))), (16, (i6 s3.1))] : EL)) s3.2) ((fun m38 : (List Int) => ([(3006, some (.row 3 1 (m38.map (eI .i64))))] : OL)) s3.2) hB)
          · replace h := ite_f hg41 h
            refine AWp.skip ?_
            refine seqQ_n ?_
            refine AWp.seq ?_
            obtain ⟨r42, hr42, h⟩ := bindS h
            refine AWp.region (oc (mv hN (ot 8 (i6 x40)))
              (oc (mv hN (ot 1 (i6 a1)))
              (oc (OpJ.callFn hB fnOk20 (percentile_Rate_ac x40 a1 r42 hr42) [] (by kernel_rfl) (ltN hN rfl) (by kernel_rfl) (OpdL.cons (ot 23 (i6 x40)) (OpdL.cons (ot 24 (i6 a1)) OpdL.nil)))
              (oc (mv hN (ot 25 (.tup [(i6 r42.1), (i6 r42.2)])))
              (oc (OpJ.extract (v := (i6 r42.1)) (by rfl) rfl (ltN hN rfl) (ot 22 (.tup [(i6 r42.1), (i6 r42.2)])))
              (oc (OpJ.extract (v := (i6 r42.2)) (by rfl) rfl (ltN hN rfl) (ot 22 (.tup [(i6 r42.1), (i6 r42.2)])))
              (oc (OpJ.assign (ltN hN rfl) (ot 26 (i6 r42.1)))
              (oc (OpJ.assign (ltN hN rfl) (ot 27 (i6 r42.2)))
              (OpJs.nil))))))))) (by rfl) (by rfl) ?_
            refine seqQ_n ?_
            refine AWp.ghost (mp [] [(1, (i6 a1)), (6, (.sref 3006 1 0 s3.2.length)), (9, (i6 r42.1)), (10, (i6 r42.2)), (14, (.d (.list 1 (a0.map (eI .i64))))), (15, (i6 (a0.length : Int))), (16, (i6 s3.1))] [(3006, some (.row 3 1 (s3.2.map (eI .i64))))] hB) ?_
            refine AWp.seq ?_
            refine AWp.seq ?_
            refine AWp.region (oc (mv hN (ot 10 (i6 r42.2)))
              (oc (OpJ.neqI (ltN hN rfl) (ot 28 (i6 r42.2)) (Opd.int .i64 (0)))
              (OpJs.nil))) (by rfl) (by rfl) ?_
            refine seqQ_n ?_
            refine AWp.ghost (mp [] [(1, (i6 a1)), (6, (.sref 3006 1 0 s3.2.length)), (9, (i6 r42.1)), (10, (i6 r42.2)), (14, (.d (.list 1 (a0.map (eI .i64))))), (15, (i6 (a0.length : Int))), (16, (i6 s3.1)), (29, (bo (r42.2 != (0 : Int))))] [(3006, some (.row 3 1 (s3.2.map (eI .i64))))] hB) ?_
            refine AWp.cond (b := (r42.2 != (0 : Int))) (by rfl) (fun hg43 => ?_) (fun hg43 => ?_)
            · replace h := ite_t hg43 h
              refine AWp.seq ?_
              refine AWp.region (oc (mv hN (ot 10 (i6 r42.2)))
                (oc (OpJ.assign (ltN hN rfl) Opd.nils)
                (oc (OpJ.assign (ltN hN rfl) (ot 30 (i6 r42.2)))
                (OpJs.nil)))) (by rfl) (by rfl) ?_
              refine seqQ_n ?_
              refine AWp.ghost (mp [] [(4, .nils), (5, (i6 r42.2))] [] hB) ?_
              refine AWp.ret ?_
              refine seqQ_r ?_
              refine blkQ_r ?_
              refine seqQ_r ?_
              obtain rfl := Option.some.inj h
              exact ⟨(fun hc => by cases hc), rfl, (mp [] ((fun p30 : Int => ([(4, .nils), (5, (i6 p30))] : EL)) r42.2) ((fun p30 : Int => ([] : OL)) r42.2) hB)⟩
            · replace h := ite_f hg43 h
              refine AWp.skip ?_
              refine seqQ_n ?_
              obtain ⟨hc44, h⟩ := chk_some h
              refine AWp.region (oc (mv hN (ot 6 (.sref 3006 1 0 s3.2.length)))
                (oc (mv hN (ot 9 (i6 r42.1)))
                (oc (OpJ.buildSlice Try.underlying22 tyS3 tyZD3 (by rfl) (by decide) (by decide) (Opds.cons (ot 32 (i6 r42.1)) Opds.nil) (by kernel_rfl) (es := ([(.int .i64 r42.1)] : List D)) (by rfl) (by rfl) (by kernel_rfl) (by simp) (ltN hN rfl))
                (oc (OpJ.append hB Try.underlying22 tyE3 (nm := 1034) (by decide) (es := s3.2.map (eI .i64)) (ys := ([r42.1] : List Int).map (eI .i64)) (es' := (s3.2 ++ ([r42.1] : List Int)).map (eI .i64)) (len := (s3.2 ++ ([r42.1] : List Int)).length) (by simp) (by simp) (map_sz (f := (eI .i64)) (fun _ => rfl)) (by rw [List.length_map]; exact lim_mulN hc44 (by decide)) (by rw [List.length_map]; exact lim_leN hc44) (ltN hN rfl) (by simp) (ot 31 (.sref 3006 1 0 s3.2.length)) (ot 33 (.d (.list 1 (([r42.1] : List Int).map (eI .i64))))))
                (oc (OpJ.assign (ltN hN rfl) (ot 34 (.sref 1034 1 0 ((s3.2 ++ ([r42.1] : List Int)).length))))
                (OpJs.nil)))))) (by rfl) (by rfl) ?_
              refine blkQ_n ?_
              exact hjj39 _ h _ _ (Mat.trans (mp [] [(1, (i6 a1)), (6, (.sref 1034 1 0 ((s3.2 ++ ([r42.1] : List Int)).length))), (14, (.d (.list 1 (a0.map (eI .i64))))), (15, (i6 (a0.length : Int))), (16, (i6 s3.1))] [(1034, some (.row 3 1 ((s3.2 ++ ([r42.1] : List Int)).map (eI .i64))))] hB) (mp [(3006, 1034)] ((fun m38 : (List Int) => ([(1, (i6 a1)), (6, (.sref 3006 1 0 m38.length)), (14, (.d (.list 1 (a0.map (eI .i64))))), (15, (i6 (a0.length : Int))), (16, (i6 s3.1))] : EL)) (s3.2 ++ ([r42.1] : List Int))) ((fun m38 : (List Int) => ([(3006, some (.row 3 1 (m38.map (eI .i64))))] : OL)) (s3.2 ++ ([r42.1] : List Int))) hB))
      · replace h := ite_f hg32 h
        refine AWp.exit ?_
        refine seqQ_e ?_
        obtain rfl := Option.some.inj h
        exact ⟨(fun hc => by cases hc), rfl, (mp [] ((fun p31 : (List Int) => ([(6, (.sref 3006 1 0 p31.length))] : EL)) s3.2) ((fun p31 : (List Int) => ([(3006, some (.row 3 1 (p31.map (eI .i64))))] : OL)) s3.2) hB)⟩
    · rcases x45 with p30 | p31
      · obtain ⟨rfl, hmat⟩ := hR
        refine blkQ_r ?_
        refine seqQ_r ?_
        obtain rfl := Option.some.inj h
        exact ⟨.inl rfl, _, _, (Mat.trans hmat (Mat.trans (Mat.coeP (Ts := [(4, (.d (.list 1 (([] : List Int).map (eI .i64)))))]) (Bs := []) (TwT.cons (x := .nils) (by rfl) (Tw.leaf ⟨_, (Co.nils 1), rfl⟩) TwT.nil) TwB.nil) (mp [] [(4, (.d (.list 1 (([] : List Int).map (eI .i64))))), (5, (i6 p30))] [] hB))), [(.d (.list 1 (([] : List Int).map (eI .i64)))), (i6 p30)], (Res.tmp (by rfl) (by rfl) (Res.tmp (by rfl) (by rfl) Res.nil)), rfl, by rfl, by rfl, by rfl⟩
      · obtain ⟨rfl, hmat⟩ := hR
        refine blkQ_hit ?_
        refine seqQ_n ?_
        refine AWp.ghost hmat ?_
        refine AWp.seq ?_
        refine AWp.region (oc (mv hN (ot 6 (.sref 3006 1 0 p31.length)))
          (oc (OpJ.assign (ltN hN rfl) (ot 36 (.sref 3006 1 0 p31.length)))
          (oc (OpJ.assign (ltN hN rfl) (Opd.int .i64 (0)))
          (OpJs.nil)))) (by rfl) (by rfl) ?_
        refine seqQ_n ?_
        refine AWp.ghost (mp [] [(4, (.sref 3006 1 0 p31.length)), (5, (i6 (0 : Int)))] [(3006, some (.row 3 1 (p31.map (eI .i64))))] hB) ?_
        refine AWp.ret ?_
        obtain rfl := Option.some.inj h
        exact ⟨.inl rfl, _, _, (Mat.trans (Mat.freezeP (n := 3006) (e := 3) (sz := 1) (es := p31.map (eI .i64)) (Ts := [(4, (.d (.list 1 (p31.map (eI .i64)))))]) (Bs := []) (by rfl) (TwT.cons (x := (.sref 3006 1 0 p31.length)) (by rfl) (FrzL.all (by first | rfl | (simp; done) | (simp; omega))) TwT.nil) TwB.nil) (mp [] [(4, (.d (.list 1 (p31.map (eI .i64))))), (5, (i6 (0 : Int)))] [] hB)), [(.d (.list 1 (p31.map (eI .i64)))), (i6 (0 : Int))], (Res.tmp (by rfl) (by rfl) (Res.tmp (by rfl) (by rfl) Res.nil)), rfl, by rfl, by rfl, by rfl⟩

noncomputable def percentile_Used_L0 (a0 : api_Series) (a1 : Int) (s3 : Int × Int) : Option (((Int) ⊕ (Int)) ⊕ (Int × Int)) :=
  (if (decide (s3.2 < (([a0.fIn, a0.fOut] : List (List Int)).length : Int))) = true then
  (idx ([a0.fIn, a0.fOut] : List (List Int)) s3.2).bind fun x19 =>
  (percentile_Rates x19 a0.fSeconds).bind fun r20 =>
  (if (r20.2 != (0 : Int)) = true then
  some (.inl (.inl r20.2))
  else
  (percentile_Percentile r20.1 a1).bind fun r22 =>
  (if (r22.2 != (0 : Int)) = true then
  some (.inl (.inl r22.2))
  else
  some (.inr ((maxI s3.1 r22.1), (w64 (s3.2 + (1 : Int)))))))
  else
  some (.inl (.inr s3.1)))
noncomputable def percentile_Used (a0 : api_Series) (a1 : Int) : Option (Int × Int) :=
  (percentile_Valid a0).bind fun r1 =>
  (if (!r1) = true then
  some ((0 : Int), (1 : Int))
  else
  (loop (percentile_Used_L0 a0 a1) ((0 : Int), (0 : Int))).bind fun x24 => match x24 with
  | (.inl p16) =>
    some ((0 : Int), p16)
  | (.inr p17) =>
    some (p17, (0 : Int)))
set_option maxHeartbeats 4000000 in
set_option maxRecDepth 100000 in
theorem percentile_Used_ac (a0 : api_Series) (a1 : Int) (r : Int × Int) (h : percentile_Used a0 a1 = some r) : AC Try.prog 18 [(.d (e_api_Series a0)), (.d (.int .i64 a1))] [] (.tup [(.d (.int .i64 r.1)), (.d (.int .i64 r.2))]) [] := by
  refine AC.of_code2 Try.func18 rfl rfl (Nat.le_of_ble_eq_true (by rfl)) fun B hB hN => ?_
  delta percentile_Used at h
  refine AWp.seq ?_
  refine AWp.region (oc (OpJ.box hB (nm := 1002) (by decide) (by simp) rfl (ltN hN rfl) (ot 0 (.d (e_api_Series a0))))
  (oc (OpJ.assign (ltN hN rfl) (Opd.int .i64 (0)))
  (oc (OpJ.assign (ltN hN rfl) (Opd.int .i64 (0)))
  (OpJs.nil)))) (by rfl) (by rfl) ?_
  refine seqQ_n ?_
  refine AWp.ghost (mp [] [(1, (i6 a1)), (2, (.ptr 1002 0 []))] [(1002, some (.box 30 (.d (e_api_Series a0))))] hB) ?_
  refine AWp.seq ?_
  refine AWp.seq ?_
  obtain ⟨r1, hr1, h⟩ := bindS h
  refine AWp.region (oc (lb hN 30 (.d (e_api_Series a0)) (.d (e_api_Series a0)) tyS30 (At.here _) (ot 2 (.ptr 1002 0 [])))
  (oc (OpJ.callFn hB fnOk16 (percentile_Valid_ac a0 r1 hr1) [] (by kernel_rfl) (ltN hN rfl) (by kernel_rfl) (OpdL.cons (ot 12 (.d (e_api_Series a0))) OpdL.nil))
  (oc (OpJ.not (ltN hN rfl) (ot 13 (bo r1)))
  (OpJs.nil)))) (by rfl) (by rfl) ?_
  refine seqQ_n ?_
  refine AWp.ghost (mp [] [(1, (i6 a1)), (2, (.ptr 1002 0 [])), (14, (bo (!r1)))] [(1002, some (.box 30 (.d (e_api_Series a0))))] hB) ?_
  refine AWp.cond (b := (!r1)) (by rfl) (fun hg2 => ?_) (fun hg2 => ?_)
  · replace h := ite_t hg2 h
    refine AWp.seq ?_
    refine AWp.region (oc (OpJ.assign (ltN hN rfl) (Opd.int .i64 (0)))
      (oc (OpJ.assign (ltN hN rfl) (Opd.int .i64 (1)))
      (OpJs.nil))) (by rfl) (by rfl) ?_
    refine seqQ_n ?_
    refine AWp.ghost (mp [] [(4, (i6 (0 : Int))), (5, (i6 (1 : Int)))] [] hB) ?_
    refine AWp.ret ?_
    refine seqQ_r ?_
    obtain rfl := Option.some.inj h
    exact ⟨.inl rfl, _, _, (mp [] [(4, (i6 (0 : Int))), (5, (i6 (1 : Int)))] [] hB), [(i6 (0 : Int)), (i6 (1 : Int))], (Res.tmp (by rfl) (by rfl) (Res.tmp (by rfl) (by rfl) Res.nil)), rfl, by rfl, by rfl, by rfl⟩
  · replace h := ite_f hg2 h
    refine AWp.skip ?_
    refine seqQ_n ?_
    refine AWp.seq ?_
    refine AWp.region (oc (OpJ.assign (ltN hN rfl) (Opd.int .i64 (0)))
      (OpJs.nil)) (by rfl) (by rfl) ?_
    refine seqQ_n ?_
    refine AWp.ghost (mp [] [(1, (i6 a1)), (2, (.ptr 1002 0 [])), (6, (i6 (0 : Int)))] [(1002, some (.box 30 (.d (e_api_Series a0))))] hB) ?_
    refine AWp.seq ?_
    refine AWp.seq ?_
    refine AWp.region (oc (ov (.ptr 1002 2 [2]) (fp hN Try.underlying30 2 tyS22 (.box 30 (.d (e_api_Series a0))) (ot 2 (.ptr 1002 0 []))))
      (oc (lb hN 30 (.d (e_api_Series a0)) (.d (.list 1 (a0.fIn.map (eI .i64)))) tyS22 (ad (.list 1 (a0.fIn.map (eI .i64)))) (ot 15 (.ptr 1002 2 [2])))
      (oc (ov (.ptr 1002 3 [3]) (fp hN Try.underlying30 3 tyS22 (.box 30 (.d (e_api_Series a0))) (ot 2 (.ptr 1002 0 []))))
      (oc (lb hN 30 (.d (e_api_Series a0)) (.d (.list 1 (a0.fOut.map (eI .i64)))) tyS22 (ad (.list 1 (a0.fOut.map (eI .i64)))) (ot 17 (.ptr 1002 3 [3])))
      (oc (OpJ.buildSlice Try.underlying42 tyS22 tyZD22 (by rfl) (by decide) (by decide) (Opds.cons (ot 16 (.d (.list 1 (a0.fIn.map (eI .i64))))) (Opds.cons (ot 18 (.d (.list 1 (a0.fOut.map (eI .i64))))) Opds.nil)) (by kernel_rfl) (es := ([(.list 1 (a0.fIn.map (eI .i64))), (.list 1 (a0.fOut.map (eI .i64)))] : List D)) (by rfl) (by rfl) (by kernel_rfl) (by simp) (ltN hN rfl))
      (oc (OpJ.val (v' := (i6 (([a0.fIn, a0.fOut] : List (List Int)).length : Int))) (by simp) (OpJ.lenD Try.underlying42 (ltN hN rfl) (ot 19 (.d (.list 1 (([a0.fIn, a0.fOut] : List (List Int)).map e_LeIi64))))))
      (oc (mv hN (Opd.int .i64 (0)))
      (OpJs.nil)))))))) (by rfl) (by rfl) ?_
    refine seqQ_n ?_
    refine AWp.ghost (mp [] [(1, (i6 a1)), (2, (.ptr 1002 0 [])), (6, (i6 (0 : Int))), (19, (.d (.list 1 (([a0.fIn, a0.fOut] : List (List Int)).map e_LeIi64)))), (20, (i6 (([a0.fIn, a0.fOut] : List (List Int)).length : Int))), (21, (i6 (0 : Int)))] [(1002, some (.box 30 (.d (e_api_Series a0))))] hB) ?_
    refine AWp.block ?_
    obtain ⟨x24, hx25, h⟩ := bindS h
    refine AWp.ghost (mp [] ((fun s3 : Int × Int => ([(1, (i6 a1)), (2, (.ptr 1002 0 [])), (6, (i6 s3.1)), (19, (.d (.list 1 (([a0.fIn, a0.fOut] : List (List Int)).map e_LeIi64)))), (20, (i6 (([a0.fIn, a0.fOut] : List (List Int)).length : Int))), (21, (i6 s3.2))] : EL)) ((0 : Int), (0 : Int))) ((fun s3 : Int × Int => ([(1002, some (.box 30 (.d (e_api_Series a0))))] : OL)) ((0 : Int), (0 : Int))) hB) ?_
    refine AWp.loopS (percentile_Used_L0 a0 a1) (fun s3 : Int × Int => ([(1, (i6 a1)), (2, (.ptr 1002 0 [])), (6, (i6 s3.1)), (19, (.d (.list 1 (([a0.fIn, a0.fOut] : List (List Int)).map e_LeIi64)))), (20, (i6 (([a0.fIn, a0.fOut] : List (List Int)).length : Int))), (21, (i6 s3.2))] : EL)) (fun s3 : Int × Int => ([(1002, some (.box 30 (.d (e_api_Series a0))))] : OL)) (fun (x : (Int) ⊕ (Int)) e E' O' => match x with | (.inl p16) => e = .ret ∧ Mat B E' O' ([(4, (i6 (0 : Int))), (5, (i6 p16))] : EL) ([] : OL) | (.inr p17) => e = .exit 0 ∧ Mat B E' O' ([(6, (i6 p17))] : EL) ([] : OL)) hx25 (fun s3 y h => ?_) (fun e E' O' hR => ?_)
    · unfold percentile_Used_L0 at h
      show AWp _ _ _ _ ([(1, (i6 a1)), (2, (.ptr 1002 0 [])), (6, (i6 s3.1)), (19, (.d (.list 1 (([a0.fIn, a0.fOut] : List (List Int)).map e_LeIi64)))), (20, (i6 (([a0.fIn, a0.fOut] : List (List Int)).length : Int))), (21, (i6 s3.2))] : EL) ([(1002, some (.box 30 (.d (e_api_Series a0))))] : OL)
      refine AWp.seq ?_
      refine AWp.region (oc (OpJ.lss (ltN hN rfl) (ot 21 (i6 s3.2)) (ot 20 (i6 (([a0.fIn, a0.fOut] : List (List Int)).length : Int))))
        (OpJs.nil)) (by rfl) (by rfl) ?_
      refine seqQ_n ?_
      refine AWp.ghost (mp [] [(1, (i6 a1)), (2, (.ptr 1002 0 [])), (6, (i6 s3.1)), (19, (.d (.list 1 (([a0.fIn, a0.fOut] : List (List Int)).map e_LeIi64)))), (20, (i6 (([a0.fIn, a0.fOut] : List (List Int)).length : Int))), (21, (i6 s3.2)), (22, (bo (decide (s3.2 < (([a0.fIn, a0.fOut] : List (List Int)).length : Int)))))] [(1002, some (.box 30 (.d (e_api_Series a0))))] hB) ?_
      refine AWp.seq ?_
      refine AWp.cond (b := (decide (s3.2 < (([a0.fIn, a0.fOut] : List (List Int)).length : Int)))) (by rfl) (fun hg18 => ?_) (fun hg18 => ?_)
      · replace h := ite_t hg18 h
        refine AWp.skip ?_
        refine seqQ_n ?_
        refine AWp.seq ?_
        refine AWp.block ?_
        refine AWp.seq ?_
        obtain ⟨x19, hx19, h⟩ := bindS h
        refine AWp.region (oc (OpJ.indexD (el := (.list 1 (x19.map (eI .i64)))) Try.underlying42 tyS22 (idx_some hx19).1 (get_map e_LeIi64 (idx_some hx19).2) (ltN hN rfl) (ot 19 (.d (.list 1 (([a0.fIn, a0.fOut] : List (List Int)).map e_LeIi64)))) (ot 21 (i6 s3.2)))
          (oc (OpJ.loadD tyS22 (by rfl) (by rfl) (ltN hN rfl) (ot 23 (.dptr (.list 1 (x19.map (eI .i64))))))
          (oc (OpJ.assign (ltN hN rfl) (ot 24 (.d (.list 1 (x19.map (eI .i64))))))
          (OpJs.nil)))) (by rfl) (by rfl) ?_
        refine seqQ_n ?_
        refine AWp.ghost (mp [] [(1, (i6 a1)), (2, (.ptr 1002 0 [])), (6, (i6 s3.1)), (8, (.d (.list 1 (x19.map (eI .i64))))), (19, (.d (.list 1 (([a0.fIn, a0.fOut] : List (List Int)).map e_LeIi64)))), (20, (i6 (([a0.fIn, a0.fOut] : List (List Int)).length : Int))), (21, (i6 s3.2))] [(1002, some (.box 30 (.d (e_api_Series a0))))] hB) ?_
        refine AWp.seq ?_
        obtain ⟨r20, hr20, h⟩ := bindS h
        refine AWp.region (oc (mv hN (ot 8 (.d (.list 1 (x19.map (eI .i64))))))
          (oc (ov (.ptr 1002 1 [1]) (fp hN Try.underlying30 1 tyS3 (.box 30 (.d (e_api_Series a0))) (ot 2 (.ptr 1002 0 []))))
          (oc (lb hN 30 (.d (e_api_Series a0)) (i6 a0.fSeconds) tyS3 (ad (.int .i64 a0.fSeconds)) (ot 27 (.ptr 1002 1 [1])))
          (oc (OpJ.callFn hB fnOk22 (percentile_Rates_ac x19 a0.fSeconds r20 hr20) [] (by kernel_rfl) (ltN hN rfl) (by kernel_rfl) (OpdL.cons (ot 26 (.d (.list 1 (x19.map (eI .i64))))) (OpdL.cons (ot 28 (i6 a0.fSeconds)) OpdL.nil)))
          (oc (mv hN (ot 29 (.tup [(.d (.list 1 (r20.1.map (eI .i64)))), (i6 r20.2)])))
          (oc (OpJ.extract (v := (.d (.list 1 (r20.1.map (eI .i64))))) (by rfl) rfl (ltN hN rfl) (ot 25 (.tup [(.d (.list 1 (r20.1.map (eI .i64)))), (i6 r20.2)])))
          (oc (OpJ.extract (v := (i6 r20.2)) (by rfl) rfl (ltN hN rfl) (ot 25 (.tup [(.d (.list 1 (r20.1.map (eI .i64)))), (i6 r20.2)])))
          (oc (OpJ.assign (ltN hN rfl) (ot 30 (.d (.list 1 (r20.1.map (eI .i64))))))
          (oc (OpJ.assign (ltN hN rfl) (ot 31 (i6 r20.2)))
          (OpJs.nil)))))))))) (by rfl) (by rfl) ?_
        refine seqQ_n ?_
        refine AWp.ghost (mp [] [(1, (i6 a1)), (2, (.ptr 1002 0 [])), (6, (i6 s3.1)), (9, (.d (.list 1 (r20.1.map (eI .i64))))), (10, (i6 r20.2)), (19, (.d (.list 1 (([a0.fIn, a0.fOut] : List (List Int)).map e_LeIi64)))), (20, (i6 (([a0.fIn, a0.fOut] : List (List Int)).length : Int))), (21, (i6 s3.2))] [(1002, some (.box 30 (.d (e_api_Series a0))))] hB) ?_
        refine AWp.seq ?_
        refine AWp.seq ?_
        refine AWp.region (oc (mv hN (ot 10 (i6 r20.2)))
          (oc (OpJ.neqI (ltN hN rfl) (ot 32 (i6 r20.2)) (Opd.int .i64 (0)))
          (OpJs.nil))) (by rfl) (by rfl) ?_
        refine seqQ_n ?_
        refine AWp.ghost (mp [] [(1, (i6 a1)), (2, (.ptr 1002 0 [])), (6, (i6 s3.1)), (9, (.d (.list 1 (r20.1.map (eI .i64))))), (10, (i6 r20.2)), (19, (.d (.list 1 (([a0.fIn, a0.fOut] : List (List Int)).map e_LeIi64)))), (20, (i6 (([a0.fIn, a0.fOut] : List (List Int)).length : Int))), (21, (i6 s3.2)), (33, (bo (r20.2 != (0 : Int))))] [(1002, some (.box 30 (.d (e_api_Series a0))))] hB) ?_
        refine AWp.cond (b := (r20.2 != (0 : Int))) (by rfl) (fun hg21 => ?_) (fun hg21 => ?_)
        · replace h := ite_t hg21 h
          refine AWp.seq ?_
          refine AWp.region (oc (mv hN (ot 10 (i6 r20.2)))
            (oc (OpJ.assign (ltN hN rfl) (Opd.int .i64 (0)))
            (oc (OpJ.assign (ltN hN rfl) (ot 34 (i6 r20.2)))
            (OpJs.nil)))) (by rfl) (by rfl) ?_
          refine seqQ_n ?_
          refine AWp.ghost (mp [] [(4, (i6 (0 : Int))), (5, (i6 r20.2))] [] hB) ?_
          refine AWp.ret ?_
          refine seqQ_r ?_
          refine blkQ_r ?_
          refine seqQ_r ?_
          obtain rfl := Option.some.inj h
          exact ⟨(fun hc => by cases hc), rfl, (mp [] ((fun p16 : Int => ([(4, (i6 (0 : Int))), (5, (i6 p16))] : EL)) r20.2) ((fun p16 : Int => ([] : OL)) r20.2) hB)⟩
        · replace h := ite_f hg21 h
          refine AWp.skip ?_
          refine seqQ_n ?_
          refine AWp.seq ?_
          obtain ⟨r22, hr22, h⟩ := bindS h
          refine AWp.region (oc (mv hN (ot 9 (.d (.list 1 (r20.1.map (eI .i64))))))
            (oc (mv hN (ot 1 (i6 a1)))
            (oc (OpJ.callFn hB fnOk8 (percentile_Percentile_ac r20.1 a1 r22 hr22) [] (by kernel_rfl) (ltN hN rfl) (by kernel_rfl) (OpdL.cons (ot 36 (.d (.list 1 (r20.1.map (eI .i64))))) (OpdL.cons (ot 37 (i6 a1)) OpdL.nil)))
            (oc (mv hN (ot 38 (.tup [(i6 r22.1), (i6 r22.2)])))
            (oc (OpJ.extract (v := (i6 r22.1)) (by rfl) rfl (ltN hN rfl) (ot 35 (.tup [(i6 r22.1), (i6 r22.2)])))
            (oc (OpJ.extract (v := (i6 r22.2)) (by rfl) rfl (ltN hN rfl) (ot 35 (.tup [(i6 r22.1), (i6 r22.2)])))
            (oc (OpJ.assign (ltN hN rfl) (ot 39 (i6 r22.1)))
            (oc (OpJ.assign (ltN hN rfl) (ot 40 (i6 r22.2)))
            (OpJs.nil))))))))) (by rfl) (by rfl) ?_
          refine seqQ_n ?_
          refine AWp.ghost (mp [] [(1, (i6 a1)), (2, (.ptr 1002 0 [])), (6, (i6 s3.1)), (10, (i6 r22.2)), (11, (i6 r22.1)), (19, (.d (.list 1 (([a0.fIn, a0.fOut] : List (List Int)).map e_LeIi64)))), (20, (i6 (([a0.fIn, a0.fOut] : List (List Int)).length : Int))), (21, (i6 s3.2))] [(1002, some (.box 30 (.d (e_api_Series a0))))] hB) ?_
          refine AWp.seq ?_
          refine AWp.seq ?_
          refine AWp.region (oc (mv hN (ot 10 (i6 r22.2)))
            (oc (OpJ.neqI (ltN hN rfl) (ot 41 (i6 r22.2)) (Opd.int .i64 (0)))
            (OpJs.nil))) (by rfl) (by rfl) ?_
          refine seqQ_n ?_
          refine AWp.ghost (mp [] [(1, (i6 a1)), (2, (.ptr 1002 0 [])), (6, (i6 s3.1)), (10, (i6 r22.2)), (11, (i6 r22.1)), (19, (.d (.list 1 (([a0.fIn, a0.fOut] : List (List Int)).map e_LeIi64)))), (20, (i6 (([a0.fIn, a0.fOut] : List (List Int)).length : Int))), (21, (i6 s3.2)), (42, (bo (r22.2 != (0 : Int))))] [(1002, some (.box 30 (.d (e_api_Series a0))))] hB) ?_
          refine AWp.cond (b := (r22.2 != (0 : Int))) (by rfl) (fun hg23 => ?_) (fun hg23 => ?_)
          · replace h := ite_t hg23 h
            refine AWp.seq ?_
            refine AWp.region (oc (mv hN (ot 10 (i6 r22.2)))
              (oc (OpJ.assign (ltN hN rfl) (Opd.int .i64 (0)))
              (oc (OpJ.assign (ltN hN rfl) (ot 43 (i6 r22.2)))
              (OpJs.nil)))) (by rfl) (by rfl) ?_
            refine seqQ_n ?_
            refine AWp.ghost (mp [] [(4, (i6 (0 : Int))), (5, (i6 r22.2))] [] hB) ?_
            refine AWp.ret ?_
            refine seqQ_r ?_
            refine blkQ_r ?_
            refine seqQ_r ?_
            obtain rfl := Option.some.inj h
            exact ⟨(fun hc => by cases hc), rfl, (mp [] ((fun p16 : Int => ([(4, (i6 (0 : Int))), (5, (i6 p16))] : EL)) r22.2) ((fun p16 : Int => ([] : OL)) r22.2) hB)⟩
          · replace h := ite_f hg23 h
            refine AWp.skip ?_
            refine seqQ_n ?_
            refine AWp.region (oc (mv hN (ot 6 (i6 s3.1)))
              (oc (mv hN (ot 11 (i6 r22.1)))
              (oc (OpJ.max (ltN hN rfl) (ot 44 (i6 s3.1)) (ot 45 (i6 r22.1)))
              (oc (OpJ.assign (ltN hN rfl) (ot 46 (i6 (maxI s3.1 r22.1))))
              (OpJs.nil))))) (by rfl) (by rfl) ?_
            refine blkQ_n ?_
            refine seqQ_n ?_
            refine AWp.ghost (mp [] [(1, (i6 a1)), (2, (.ptr 1002 0 [])), (6, (i6 (maxI s3.1 r22.1))), (19, (.d (.list 1 (([a0.fIn, a0.fOut] : List (List Int)).map e_LeIi64)))), (20, (i6 (([a0.fIn, a0.fOut] : List (List Int)).length : Int))), (21, (i6 s3.2))] [(1002, some (.box 30 (.d (e_api_Series a0))))] hB) ?_
            refine AWp.region (oc (OpJ.add (ltN hN rfl) (ot 21 (i6 s3.2)) (Opd.int .i64 (1)))
              (oc (mv hN (ot 47 (i6 (w64 (s3.2 + (1 : Int))))))
              (OpJs.nil))) (by rfl) (by rfl) ?_
            obtain rfl := Option.some.inj h
            exact ⟨rfl, (Mat.trans (mp [] [(1, (i6 a1)), (2, (.ptr 1002 0 [])), (6, (i6 (maxI s3.1 r22.1))), (19, (.d (.list 1 (([a0.fIn, a0.fOut] : List (List Int)).map e_LeIi64)))), (20, (i6 (([a0.fIn, a0.fOut] : List (List Int)).length : Int))), (21, (i6 (w64 (s3.2 + (1 : Int)))))] [(1002, some (.box 30 (.d (e_api_Series a0))))] hB) (mp [] ((fun s3 : Int × Int => ([(1, (i6 a1)), (2, (.ptr 1002 0 [])), (6, (i6 s3.1)), (19, (.d (.list 1 (([a0.fIn, a0.fOut] : List (List Int)).map e_LeIi64)))), (20, (i6 (([a0.fIn, a0.fOut] : List (List Int)).length : Int))), (21, (i6 s3.2))] : EL)) ((maxI s3.1 r22.1), (w64 (s3.2 + (1 : Int))))) ((fun s3 : Int × Int => ([(1002, some (.box 30 (.d (e_api_Series a0))))] : OL)) ((maxI s3.1 r22.1), (w64 (s3.2 + (1 : Int))))) hB))⟩
      · replace h := ite_f hg18 h
        refine AWp.exit ?_
        refine seqQ_e ?_
        obtain rfl := Option.some.inj h
        exact ⟨(fun hc => by cases hc), rfl, (mp [] ((fun p17 : Int => ([(6, (i6 p17))] : EL)) s3.1) ((fun p17 : Int => ([] : OL)) s3.1) hB)⟩
    · rcases x24 with p16 | p17
      · obtain ⟨rfl, hmat⟩ := hR
        refine blkQ_r ?_
        refine seqQ_r ?_
        obtain rfl := Option.some.inj h
        exact ⟨.inl rfl, _, _, (Mat.trans hmat (mp [] [(4, (i6 (0 : Int))), (5, (i6 p16))] [] hB)), [(i6 (0 : Int)), (i6 p16)], (Res.tmp (by rfl) (by rfl) (Res.tmp (by rfl) (by rfl) Res.nil)), rfl, by rfl, by rfl, by rfl⟩
      · obtain ⟨rfl, hmat⟩ := hR
        refine blkQ_hit ?_
        refine seqQ_n ?_
        refine AWp.ghost hmat ?_
        refine AWp.seq ?_
        refine AWp.region (oc (mv hN (ot 6 (i6 p17)))
          (oc (OpJ.assign (ltN hN rfl) (ot 48 (i6 p17)))
          (oc (OpJ.assign (ltN hN rfl) (Opd.int .i64 (0)))
          (OpJs.nil)))) (by rfl) (by rfl) ?_
        refine seqQ_n ?_
        refine AWp.ghost (mp [] [(4, (i6 p17)), (5, (i6 (0 : Int)))] [] hB) ?_
        refine AWp.ret ?_
        obtain rfl := Option.some.inj h
        exact ⟨.inl rfl, _, _, (mp [] [(4, (i6 p17)), (5, (i6 (0 : Int)))] [] hB), [(i6 p17), (i6 (0 : Int))], (Res.tmp (by rfl) (by rfl) (Res.tmp (by rfl) (by rfl) Res.nil)), rfl, by rfl, by rfl, by rfl⟩

noncomputable def exchangepointref40_Rate (a0 : Int) (a1 : Int) : Option (Int × Int) :=
  (if ((((decide (a0 < (0 : Int))) || (decide ((1125899906842624 : Int) < a0))) || (decide (a1 < (1 : Int)))) || (decide ((86400 : Int) < a1))) = true then
  some ((0 : Int), (1 : Int))
  else
  chk (decide ((w64 (a1 * (1000000 : Int))) ≠ 0)) <|
  some ((w64 (Int.tdiv (w64 ((w64 ((w64 ((8 : Int) * a0)) + (w64 (a1 * (1000000 : Int))))) - (1 : Int))) (w64 (a1 * (1000000 : Int))))), (0 : Int)))
set_option maxHeartbeats 4000000 in
set_option maxRecDepth 100000 in
theorem exchangepointref40_Rate_ac (a0 : Int) (a1 : Int) (r : Int × Int) (h : exchangepointref40_Rate a0 a1 = some r) : AC Try.prog 21 [(.d (.int .i64 a0)), (.d (.int .i64 a1))] [] (.tup [(.d (.int .i64 r.1)), (.d (.int .i64 r.2))]) [] := by
  refine AC.of_code2 Try.func21 rfl rfl (Nat.le_of_ble_eq_true (by rfl)) fun B hB hN => ?_
  delta exchangepointref40_Rate at h
  refine AWp.seq ?_
  refine AWp.region (oc (OpJ.assign (ltN hN rfl) (Opd.int .i64 (0)))
  (oc (OpJ.assign (ltN hN rfl) (Opd.int .i64 (0)))
  (OpJs.nil))) (by rfl) (by rfl) ?_
  refine seqQ_n ?_
  refine AWp.ghost (mp [] [(0, (i6 a0)), (1, (i6 a1))] [] hB) ?_
  refine AWp.seq ?_
  refine AWp.seq ?_
  refine AWp.region (oc (mv hN (ot 0 (i6 a0)))
  (oc (OpJ.lss (ltN hN rfl) (ot 7 (i6 a0)) (Opd.int .i64 (0)))
  (oc (mv hN (ot 8 (bo (decide (a0 < (0 : Int))))))
  (oc (op hN (i6 a0) (mv hN (ot 0 (i6 a0))) (OptL.keep rfl OptL.nil) (GuardV.plain _))
  (oc (op hN (bo (decide ((1125899906842624 : Int) < a0))) (OpJ.gtr (ltN hN rfl) (ot 10 (i6 a0)) (Opd.int .i64 (1125899906842624))) (OptL.opt OptL.nil) (GuardV.plain _))
  (oc (OpJ.pickOr rfl (ltN hN rfl) (ot 9 (bo (decide (a0 < (0 : Int))))) (ot 11 (.opt ((decide (a0 < (0 : Int))) == false) (bo (decide ((1125899906842624 : Int) < a0))))))
  (oc (mv hN (ot 12 (bo ((decide (a0 < (0 : Int))) || (decide ((1125899906842624 : Int) < a0))))))
  (oc (op hN (i6 a1) (mv hN (ot 1 (i6 a1))) (OptL.keep rfl OptL.nil) (GuardV.plain _))
  (oc (op hN (bo (decide (a1 < (1 : Int)))) (OpJ.lss (ltN hN rfl) (ot 14 (i6 a1)) (Opd.int .i64 (1))) (OptL.opt OptL.nil) (GuardV.plain _))
  (oc (OpJ.pickOr rfl (ltN hN rfl) (ot 13 (bo ((decide (a0 < (0 : Int))) || (decide ((1125899906842624 : Int) < a0))))) (ot 15 (.opt (((decide (a0 < (0 : Int))) || (decide ((1125899906842624 : Int) < a0))) == false) (bo (decide (a1 < (1 : Int)))))))
  (oc (mv hN (ot 16 (bo (((decide (a0 < (0 : Int))) || (decide ((1125899906842624 : Int) < a0))) || (decide (a1 < (1 : Int)))))))
  (oc (op hN (i6 a1) (mv hN (ot 1 (i6 a1))) (OptL.keep rfl OptL.nil) (GuardV.plain _))
  (oc (op hN (bo (decide ((86400 : Int) < a1))) (OpJ.gtr (ltN hN rfl) (ot 18 (i6 a1)) (Opd.int .i64 (86400))) (OptL.opt OptL.nil) (GuardV.plain _))
  (oc (OpJ.pickOr rfl (ltN hN rfl) (ot 17 (bo (((decide (a0 < (0 : Int))) || (decide ((1125899906842624 : Int) < a0))) || (decide (a1 < (1 : Int)))))) (ot 19 (.opt ((((decide (a0 < (0 : Int))) || (decide ((1125899906842624 : Int) < a0))) || (decide (a1 < (1 : Int)))) == false) (bo (decide ((86400 : Int) < a1))))))
  (OpJs.nil))))))))))))))) (by rfl) (by rfl) ?_
  refine seqQ_n ?_
  refine AWp.ghost (mp [] [(0, (i6 a0)), (1, (i6 a1)), (20, (bo ((((decide (a0 < (0 : Int))) || (decide ((1125899906842624 : Int) < a0))) || (decide (a1 < (1 : Int)))) || (decide ((86400 : Int) < a1)))))] [] hB) ?_
  refine AWp.cond (b := ((((decide (a0 < (0 : Int))) || (decide ((1125899906842624 : Int) < a0))) || (decide (a1 < (1 : Int)))) || (decide ((86400 : Int) < a1)))) (by rfl) (fun hg1 => ?_) (fun hg1 => ?_)
  · replace h := ite_t hg1 h
    refine AWp.seq ?_
    refine AWp.region (oc (OpJ.assign (ltN hN rfl) (Opd.int .i64 (0)))
      (oc (OpJ.assign (ltN hN rfl) (Opd.int .i64 (1)))
      (OpJs.nil))) (by rfl) (by rfl) ?_
    refine seqQ_n ?_
    refine AWp.ghost (mp [] [(4, (i6 (0 : Int))), (5, (i6 (1 : Int)))] [] hB) ?_
    refine AWp.ret ?_
    refine seqQ_r ?_
    obtain rfl := Option.some.inj h
    exact ⟨.inl rfl, _, _, (mp [] [(4, (i6 (0 : Int))), (5, (i6 (1 : Int)))] [] hB), [(i6 (0 : Int)), (i6 (1 : Int))], (Res.tmp (by rfl) (by rfl) (Res.tmp (by rfl) (by rfl) Res.nil)), rfl, by rfl, by rfl, by rfl⟩
  · replace h := ite_f hg1 h
    refine AWp.skip ?_
    refine seqQ_n ?_
    refine AWp.seq ?_
    refine AWp.region (oc (mv hN (ot 1 (i6 a1)))
      (oc (OpJ.mul (ltN hN rfl) (ot 21 (i6 a1)) (Opd.int .i64 (1000000)))
      (oc (OpJ.assign (ltN hN rfl) (ot 22 (i6 (w64 (a1 * (1000000 : Int))))))
      (OpJs.nil)))) (by rfl) (by rfl) ?_
    refine seqQ_n ?_
    refine AWp.ghost (mp [] [(0, (i6 a0)), (6, (i6 (w64 (a1 * (1000000 : Int)))))] [] hB) ?_
    refine AWp.seq ?_
    obtain ⟨hc2, h⟩ := chk_some h
    refine AWp.region (oc (mv hN (ot 0 (i6 a0)))
      (oc (OpJ.mul (ltN hN rfl) (Opd.int .i64 (8)) (ot 23 (i6 a0)))
      (oc (mv hN (ot 6 (i6 (w64 (a1 * (1000000 : Int))))))
      (oc (OpJ.add (ltN hN rfl) (ot 24 (i6 (w64 ((8 : Int) * a0)))) (ot 25 (i6 (w64 (a1 * (1000000 : Int))))))
      (oc (OpJ.sub (ltN hN rfl) (ot 26 (i6 (w64 ((w64 ((8 : Int) * a0)) + (w64 (a1 * (1000000 : Int))))))) (Opd.int .i64 (1)))
      (oc (mv hN (ot 6 (i6 (w64 (a1 * (1000000 : Int))))))
      (oc (OpJ.quo (ltN hN rfl) (ot 27 (i6 (w64 ((w64 ((w64 ((8 : Int) * a0)) + (w64 (a1 * (1000000 : Int))))) - (1 : Int))))) (ot 28 (i6 (w64 (a1 * (1000000 : Int))))) (of_decide_eq_true hc2))
      (oc (OpJ.assign (ltN hN rfl) (ot 29 (i6 (w64 (Int.tdiv (w64 ((w64 ((w64 ((8 : Int) * a0)) + (w64 (a1 * (1000000 : Int))))) - (1 : Int))) (w64 (a1 * (1000000 : Int))))))))
      (oc (OpJ.assign (ltN hN rfl) (Opd.int .i64 (0)))
      (OpJs.nil)))))))))) (by rfl) (by rfl) ?_
    refine seqQ_n ?_
    refine AWp.ghost (mp [] [(4, (i6 (w64 (Int.tdiv (w64 ((w64 ((w64 ((8 : Int) * a0)) + (w64 (a1 * (1000000 : Int))))) - (1 : Int))) (w64 (a1 * (1000000 : Int))))))), (5, (i6 (0 : Int)))] [] hB) ?_
    refine AWp.ret ?_
    obtain rfl := Option.some.inj h
    exact ⟨.inl rfl, _, _, (mp [] [(4, (i6 (w64 (Int.tdiv (w64 ((w64 ((w64 ((8 : Int) * a0)) + (w64 (a1 * (1000000 : Int))))) - (1 : Int))) (w64 (a1 * (1000000 : Int))))))), (5, (i6 (0 : Int)))] [] hB), [(i6 (w64 (Int.tdiv (w64 ((w64 ((w64 ((8 : Int) * a0)) + (w64 (a1 * (1000000 : Int))))) - (1 : Int))) (w64 (a1 * (1000000 : Int)))))), (i6 (0 : Int))], (Res.tmp (by rfl) (by rfl) (Res.tmp (by rfl) (by rfl) Res.nil)), rfl, by rfl, by rfl, by rfl⟩

noncomputable def exchangepointref40_Rates_L0 (a0 : (List Int)) (a1 : Int) (s2 : Int × (List Int)) : Option (((Int) ⊕ ((List Int))) ⊕ (Int × (List Int))) :=
  (if (decide (s2.1 < (a0.length : Int))) = true then
  jn (fun m37 : (List Int) =>
  some (.inr ((w64 (s2.1 + (1 : Int))), m37))) (fun j38 =>
  (idx a0 s2.1).bind fun x39 =>
  (if (x39 == (-1 : Int)) = true then
  j38 s2.2
  else
  (exchangepointref40_Rate x39 a1).bind fun r41 =>
  (if (r41.2 != (0 : Int)) = true then
  some (.inl (.inl r41.2))
  else
  chk (decide ((s2.2 ++ ([r41.1] : List Int)).length ≤ LIM)) <|
  j38 (s2.2 ++ ([r41.1] : List Int)))))
  else
  some (.inl (.inr s2.2)))
noncomputable def exchangepointref40_Rates (a0 : (List Int)) (a1 : Int) : Option ((List Int) × Int) :=
  (if ((decide (a1 < (1 : Int))) || (decide ((86400 : Int) < a1))) = true then
  some (([] : List Int), (1 : Int))
  else
  (loop (exchangepointref40_Rates_L0 a0 a1) ((0 : Int), ([] : List Int))).bind fun x44 => match x44 with
  | (.inl p29) =>
    some (([] : List Int), p29)
  | (.inr p30) =>
    some (p30, (0 : Int)))
set_option maxHeartbeats 4000000 in
set_option maxRecDepth 100000 in
theorem exchangepointref40_Rates_ac (a0 : (List Int)) (a1 : Int) (r : (List Int) × Int) (h : exchangepointref40_Rates a0 a1 = some r) : AC Try.prog 23 [(.d (.list 1 (a0.map (eI .i64)))), (.d (.int .i64 a1))] [] (.tup [(.d (.list 1 (r.1.map (eI .i64)))), (.d (.int .i64 r.2))]) [] := by
  refine AC.of_code2 Try.func23 rfl rfl (Nat.le_of_ble_eq_true (by rfl)) fun B hB hN => ?_
  delta exchangepointref40_Rates at h
  refine AWp.seq ?_
  refine AWp.region (oc (OpJ.assign (ltN hN rfl) Opd.nils)
  (oc (OpJ.assign (ltN hN rfl) (Opd.int .i64 (0)))
  (OpJs.nil))) (by rfl) (by rfl) ?_
  refine seqQ_n ?_
  refine AWp.ghost (mp [] [(0, (.d (.list 1 (a0.map (eI .i64))))), (1, (i6 a1))] [] hB) ?_
  refine AWp.seq ?_
  refine AWp.seq ?_
  refine AWp.region (oc (mv hN (ot 1 (i6 a1)))
  (oc (OpJ.lss (ltN hN rfl) (ot 11 (i6 a1)) (Opd.int .i64 (1)))
  (oc (mv hN (ot 12 (bo (decide (a1 < (1 : Int))))))
  (oc (op hN (i6 a1) (mv hN (ot 1 (i6 a1))) (OptL.keep rfl OptL.nil) (GuardV.plain _))
  (oc (op hN (bo (decide ((86400 : Int) < a1))) (OpJ.gtr (ltN hN rfl) (ot 14 (i6 a1)) (Opd.int .i64 (86400))) (OptL.opt OptL.nil) (GuardV.plain _))
  (oc (OpJ.pickOr rfl (ltN hN rfl) (ot 13 (bo (decide (a1 < (1 : Int))))) (ot 15 (.opt ((decide (a1 < (1 : Int))) == false) (bo (decide ((86400 : Int) < a1))))))
  (OpJs.nil))))))) (by rfl) (by rfl) ?_
  refine seqQ_n ?_
  refine AWp.ghost (mp [] [(0, (.d (.list 1 (a0.map (eI .i64))))), (1, (i6 a1)), (16, (bo ((decide (a1 < (1 : Int))) || (decide ((86400 : Int) < a1)))))] [] hB) ?_
  refine AWp.cond (b := ((decide (a1 < (1 : Int))) || (decide ((86400 : Int) < a1)))) (by rfl) (fun hg1 => ?_) (fun hg1 => ?_)
  · replace h := ite_t hg1 h
    refine AWp.seq ?_
    refine AWp.region (oc (OpJ.assign (ltN hN rfl) Opd.nils)
      (oc (OpJ.assign (ltN hN rfl) (Opd.int .i64 (1)))
      (OpJs.nil))) (by rfl) (by rfl) ?_
    refine seqQ_n ?_
    refine AWp.ghost (mp [] [(4, .nils), (5, (i6 (1 : Int)))] [] hB) ?_
    refine AWp.ret ?_
    refine seqQ_r ?_
    obtain rfl := Option.some.inj h
    exact ⟨.inl rfl, _, _, (Mat.trans (Mat.coeP (Ts := [(4, (.d (.list 1 (([] : List Int).map (eI .i64)))))]) (Bs := []) (TwT.cons (x := .nils) (by rfl) (Tw.leaf ⟨_, (Co.nils 1), rfl⟩) TwT.nil) TwB.nil) (mp [] [(4, (.d (.list 1 (([] : List Int).map (eI .i64))))), (5, (i6 (1 : Int)))] [] hB)), [(.d (.list 1 (([] : List Int).map (eI .i64)))), (i6 (1 : Int))], (Res.tmp (by rfl) (by rfl) (Res.tmp (by rfl) (by rfl) Res.nil)), rfl, by rfl, by rfl, by rfl⟩
  · replace h := ite_f hg1 h
    refine AWp.skip ?_
    refine seqQ_n ?_
    refine AWp.seq ?_
    refine AWp.region (oc (OpJ.assign (ltN hN rfl) Opd.nils)
      (OpJs.nil)) (by rfl) (by rfl) ?_
    refine seqQ_n ?_
    refine AWp.ghost (mp [] [(0, (.d (.list 1 (a0.map (eI .i64))))), (1, (i6 a1)), (6, .nils)] [] hB) ?_
    refine AWp.seq ?_
    refine AWp.seq ?_
    refine AWp.region (oc (mv hN (ot 0 (.d (.list 1 (a0.map (eI .i64))))))
      (oc (OpJ.val (v' := (i6 (a0.length : Int))) (by simp) (OpJ.lenD Try.underlying22 (ltN hN rfl) (ot 17 (.d (.list 1 (a0.map (eI .i64)))))))
      (oc (mv hN (Opd.int .i64 (0)))
      (OpJs.nil)))) (by rfl) (by rfl) ?_
    refine seqQ_n ?_
    refine AWp.ghost (mp [] [(1, (i6 a1)), (6, .nils), (17, (.d (.list 1 (a0.map (eI .i64))))), (18, (i6 (a0.length : Int))), (19, (i6 (0 : Int)))] [] hB) ?_
    refine AWp.block ?_
    obtain ⟨x44, hx45, h⟩ := bindS h
    refine AWp.ghost (Mat.trans (Mat.beginP (n := 3006) (e := 3) (sz := 1) (Ts := [(6, (.sref 3006 1 0 0))]) (Bs := []) hB (by decide) (by rfl) (by decide) (TwT.cons (x := .nils) (by rfl) (Tw.leaf ⟨rfl, rfl⟩) TwT.nil) TwB.nil) (mp [] ((fun s2 : Int × (List Int) => ([(1, (i6 a1)), (6, (.sref 3006 1 0 s2.2.length)), (17, (.d (.list 1 (a0.map (eI .i64))))), (18, (i6 (a0.length : Int))), (19, (i6 s2.1))] : EL)) ((0 : Int), ([] : List Int))) ((fun s2 : Int × (List Int) => ([(3006, some (.row 3 1 (s2.2.map (eI .i64))))] : OL)) ((0 : Int), ([] : List Int))) hB)) ?_
    refine AWp.loopS (exchangepointref40_Rates_L0 a0 a1) (fun s2 : Int × (List Int) => ([(1, (i6 a1)), (6, (.sref 3006 1 0 s2.2.length)), (17, (.d (.list 1 (a0.map (eI .i64))))), (18, (i6 (a0.length : Int))), (19, (i6 s2.1))] : EL)) (fun s2 : Int × (List Int) => ([(3006, some (.row 3 1 (s2.2.map (eI .i64))))] : OL)) (fun (x : (Int) ⊕ ((List Int))) e E' O' => match x with | (.inl p29) => e = .ret ∧ Mat B E' O' ([(4, .nils), (5, (i6 p29))] : EL) ([] : OL) | (.inr p30) => e = .exit 0 ∧ Mat B E' O' ([(6, (.sref 3006 1 0 p30.length))] : EL) ([(3006, some (.row 3 1 (p30.map (eI .i64))))] : OL)) hx45 (fun s2 y h => ?_) (fun e E' O' hR => ?_)
    · unfold exchangepointref40_Rates_L0 at h
      show AWp _ _ _ _ ([(1, (i6 a1)), (6, (.sref 3006 1 0 s2.2.length)), (17, (.d (.list 1 (a0.map (eI .i64))))), (18, (i6 (a0.length : Int))), (19, (i6 s2.1))] : EL) ([(3006, some (.row 3 1 (s2.2.map (eI .i64))))] : OL)
      refine AWp.seq ?_
      refine AWp.region (oc (OpJ.lss (ltN hN rfl) (ot 19 (i6 s2.1)) (ot 18 (i6 (a0.length : Int))))
        (OpJs.nil)) (by rfl) (by rfl) ?_
      refine seqQ_n ?_
      refine AWp.ghost (mp [] [(1, (i6 a1)), (6, (.sref 3006 1 0 s2.2.length)), (17, (.d (.list 1 (a0.map (eI .i64))))), (18, (i6 (a0.length : Int))), (19, (i6 s2.1)), (20, (bo (decide (s2.1 < (a0.length : Int)))))] [(3006, some (.row 3 1 (s2.2.map (eI .i64))))] hB) ?_
      refine AWp.seq ?_
      refine AWp.cond (b := (decide (s2.1 < (a0.length : Int)))) (by rfl) (fun hg31 => ?_) (fun hg31 => ?_)
      · replace h := ite_t hg31 h
        refine AWp.skip ?_
        refine seqQ_n ?_
        refine AWp.seq ?_
        refine AWp.cut h (fun m37 : (List Int) => ([(1, (i6 a1)), (6, (.sref 3006 1 0 m37.length)), (17, (.d (.list 1 (a0.map (eI .i64))))), (18, (i6 (a0.length : Int))), (19, (i6 s2.1))] : EL)) (fun m37 : (List Int) => ([(3006, some (.row 3 1 (m37.map (eI .i64))))] : OL)) (fun m37 h E' O' hmat => ?_) (fun j38 hjj38 h => ?_)
        · refine seqQ_n ?_
          refine AWp.ghost hmat ?_
          refine AWp.region (oc (OpJ.add (ltN hN rfl) (ot 19 (i6 s2.1)) (Opd.int .i64 (1)))
            (oc (mv hN (ot 38 (i6 (w64 (s2.1 + (1 : Int))))))
            (OpJs.nil))) (by rfl) (by rfl) ?_
          obtain rfl := Option.some.inj h
          exact ⟨rfl, (Mat.trans (mp [] [(1, (i6 a1)), (6, (.sref 3006 1 0 m37.length)), (17, (.d (.list 1 (a0.map (eI .i64))))), (18, (i6 (a0.length : Int))), (19, (i6 (w64 (s2.1 + (1 : Int)))))] [(3006, some (.row 3 1 (m37.map (eI .i64))))] hB) (mp [] ((fun s2 : Int × (List Int) => ([(1, (i6 a1)), (6, (.sref 3006 1 0 s2.2.length)), (17, (.d (.list 1 (a0.map (eI .i64))))), (18, (i6 (a0.length : Int))), (19, (i6 s2.1))] : EL)) ((w64 (s2.1 + (1 : Int))), m37)) ((fun s2 : Int × (List Int) => ([(3006, some (.row 3 1 (s2.2.map (eI .i64))))] : OL)) ((w64 (s2.1 + (1 : Int))), m37)) hB))⟩
        · refine AWp.block ?_
          refine AWp.seq ?_
          obtain ⟨x39, hx39, h⟩ := bindS h
          refine AWp.region (oc (OpJ.indexD (el := (.int .i64 x39)) Try.underlying22 tyS3 (idx_some hx39).1 (get_map (eI .i64) (idx_some hx39).2) (ltN hN rfl) (ot 17 (.d (.list 1 (a0.map (eI .i64))))) (ot 19 (i6 s2.1)))
            (oc (OpJ.loadD tyS3 (by rfl) (by rfl) (ltN hN rfl) (ot 21 (.dptr (.int .i64 x39))))
            (oc (OpJ.assign (ltN hN rfl) (ot 22 (i6 x39)))
            (OpJs.nil)))) (by rfl) (by rfl) ?_
          refine seqQ_n ?_
          refine AWp.ghost (mp [] [(1, (i6 a1)), (6, (.sref 3006 1 0 s2.2.length)), (8, (i6 x39)), (17, (.d (.list 1 (a0.map (eI .i64))))), (18, (i6 (a0.length : Int))), (19, (i6 s2.1))] [(3006, some (.row 3 1 (s2.2.map (eI .i64))))] hB) ?_
          refine AWp.seq ?_
          refine AWp.seq ?_
          refine AWp.region (oc (mv hN (ot 8 (i6 x39)))
            (oc (OpJ.eqlI (ltN hN rfl) (ot 23 (i6 x39)) (Opd.int .i64 (-1)))
            (OpJs.nil))) (by rfl) (by rfl) ?_
          refine seqQ_n ?_
          refine AWp.ghost (mp [] [(1, (i6 a1)), (6, (.sref 3006 1 0 s2.2.length)), (8, (i6 x39)), (17, (.d (.list 1 (a0.map (eI .i64))))), (18, (i6 (a0.length : Int))), (19, (i6 s2.1)), (24, (bo (x39 == (-1 : Int))))] [(3006, some (.row 3 1 (s2.2.map (eI .i64))))] hB) ?_
          refine AWp.cond (b := (x39 == (-1 : Int))) (by rfl) (fun hg40 => ?_) (fun hg40 => ?_)
          · replace h := ite_t hg40 h
            refine AWp.exit ?_
            refine seqQ_e ?_
            refine blkQ_hit ?_
            exact hjj38 _ h _ _ (mp [] ((fun m37 : (List Int) => ([(1, (i6 a1)), (6, (.sref 3006 1 0 m37.length)), (17, (.d (.list 1 (a0.map (eI .i64))))), (18, (i6 (a0.length : Int))), (19, (i6 s2.1))] : EL)) s2.2) ((fun m37 : (List Int) => ([(3006, some (.row 3 1 (m37.map (eI .i64))))] : OL)) s2.2) hB)
          · replace h := ite_f hg40 h
            refine AWp.skip ?_
            refine seqQ_n ?_
            refine AWp.seq ?_
            obtain ⟨r41, hr41, h⟩ := bindS h
            refine AWp.region (oc (mv hN (ot 8 (i6 x39)))
              (oc (mv hN (ot 1 (i6 a1)))
              (oc (OpJ.callFn hB fnOk21 (exchangepointref40_Rate_ac x39 a1 r41 hr41) [] (by kernel_rfl) (ltN hN rfl) (by kernel_rfl) (OpdL.cons (ot 26 (i6 x39)) (OpdL.cons (ot 27 (i6 a1)) OpdL.nil)))
              (oc (mv hN (ot 28 (.tup [(i6 r41.1), (i6 r41.2)])))
              (oc (OpJ.extract (v := (i6 r41.1)) (by rfl) rfl (ltN hN rfl) (ot 25 (.tup [(i6 r41.1), (i6 r41.2)])))
              (oc (OpJ.extract (v := (i6 r41.2)) (by rfl) rfl (ltN hN rfl) (ot 25 (.tup [(i6 r41.1), (i6 r41.2)])))
              (oc (OpJ.assign (ltN hN rfl) (ot 29 (i6 r41.1)))
              (oc (OpJ.assign (ltN hN rfl) (ot 30 (i6 r41.2)))
              (OpJs.nil))))))))) (by rfl) (by rfl) ?_
            refine seqQ_n ?_
            refine AWp.ghost (mp [] [(1, (i6 a1)), (6, (.sref 3006 1 0 s2.2.length)), (9, (i6 r41.1)), (10, (i6 r41.2)), (17, (.d (.list 1 (a0.map (eI .i64))))), (18, (i6 (a0.length : Int))), (19, (i6 s2.1))] [(3006, some (.row 3 1 (s2.2.map (eI .i64))))] hB) ?_
            refine AWp.seq ?_
            refine AWp.seq ?_
            refine AWp.region (oc (mv hN (ot 10 (i6 r41.2)))
              (oc (OpJ.neqI (ltN hN rfl) (ot 31 (i6 r41.2)) (Opd.int .i64 (0)))
              (OpJs.nil))) (by rfl) (by rfl) ?_
            refine seqQ_n ?_
            refine AWp.ghost (mp [] [(1, (i6 a1)), (6, (.sref 3006 1 0 s2.2.length)), (9, (i6 r41.1)), (10, (i6 r41.2)), (17, (.d (.list 1 (a0.map (eI .i64))))), (18, (i6 (a0.length : Int))), (19, (i6 s2.1)), (32, (bo (r41.2 != (0 : Int))))] [(3006, some (.row 3 1 (s2.2.map (eI .i64))))] hB) ?_
            refine AWp.cond (b := (r41.2 != (0 : Int))) (by rfl) (fun hg42 => ?_) (fun hg42 => ?_)
            · replace h := ite_t hg42 h
              refine AWp.seq ?_
              refine AWp.region (oc (mv hN (ot 10 (i6 r41.2)))
                (oc (OpJ.assign (ltN hN rfl) Opd.nils)
                (oc (OpJ.assign (ltN hN rfl) (ot 33 (i6 r41.2)))
                (OpJs.nil)))) (by rfl) (by rfl) ?_
              refine seqQ_n ?_
              refine AWp.ghost (mp [] [(4, .nils), (5, (i6 r41.2))] [] hB) ?_
              refine AWp.ret ?_
              refine seqQ_r ?_
              refine blkQ_r ?_
              refine seqQ_r ?_
              obtain rfl := Option.some.inj h
              exact ⟨(fun hc => by cases hc), rfl, (mp [] ((fun p29 : Int => ([(4, .nils), (5, (i6 p29))] : EL)) r41.2) ((fun p29 : Int => ([] : OL)) r41.2) hB)⟩
            · replace h := ite_f hg42 h
              refine AWp.skip ?_
              refine seqQ_n ?_
              obtain ⟨hc43, h⟩ := chk_some h
              refine AWp.region (oc (mv hN (ot 6 (.sref 3006 1 0 s2.2.length)))
                (oc (mv hN (ot 9 (i6 r41.1)))
                (oc (OpJ.buildSlice Try.underlying22 tyS3 tyZD3 (by rfl) (by decide) (by decide) (Opds.cons (ot 35 (i6 r41.1)) Opds.nil) (by kernel_rfl) (es := ([(.int .i64 r41.1)] : List D)) (by rfl) (by rfl) (by kernel_rfl) (by simp) (ltN hN rfl))
                (oc (OpJ.append hB Try.underlying22 tyE3 (nm := 1037) (by decide) (es := s2.2.map (eI .i64)) (ys := ([r41.1] : List Int).map (eI .i64)) (es' := (s2.2 ++ ([r41.1] : List Int)).map (eI .i64)) (len := (s2.2 ++ ([r41.1] : List Int)).length) (by simp) (by simp) (map_sz (f := (eI .i64)) (fun _ => rfl)) (by rw [List.length_map]; exact lim_mulN hc43 (by decide)) (by rw [List.length_map]; exact lim_leN hc43) (ltN hN rfl) (by simp) (ot 34 (.sref 3006 1 0 s2.2.length)) (ot 36 (.d (.list 1 (([r41.1] : List Int).map (eI .i64))))))
                (oc (OpJ.assign (ltN hN rfl) (ot 37 (.sref 1037 1 0 ((s2.2 ++ ([r41.1] : List Int)).length))))
                (OpJs.nil)))))) (by rfl) (by rfl) ?_
              refine blkQ_n ?_
              exact hjj38 _ h _ _ (Mat.trans (mp [] [(1, (i6 a1)), (6, (.sref 1037 1 0 ((s2.2 ++ ([r41.1] : List Int)).length))), (17, (.d (.list 1 (a0.map (eI .i64))))), (18, (i6 (a0.length : Int))), (19, (i6 s2.1))] [(1037, some (.row 3 1 ((s2.2 ++ ([r41.1] : List Int)).map (eI .i64))))] hB) (mp [(3006, 1037)] ((fun m37 : (List Int) => ([(1, (i6 a1)), (6, (.sref 3006 1 0 m37.length)), (17, (.d (.list 1 (a0.map (eI .i64))))), (18, (i6 (a0.length : Int))), (19, (i6 s2.1))] : EL)) (s2.2 ++ ([r41.1] : List Int))) ((fun m37 : (List Int) => ([(3006, some (.row 3 1 (m37.map (eI .i64))))] : OL)) (s2.2 ++ ([r41.1] : List Int))) hB))
      · replace h := ite_f hg31 h
        refine AWp.exit ?_
        refine seqQ_e ?_
        obtain rfl := Option.some.inj h
        exact ⟨(fun hc => by cases hc), rfl, (mp [] ((fun p30 : (List Int) => ([(6, (.sref 3006 1 0 p30.length))] : EL)) s2.2) ((fun p30 : (List Int) => ([(3006, some (.row 3 1 (p30.map (eI .i64))))] : OL)) s2.2) hB)⟩
    · rcases x44 with p29 | p30
      · obtain ⟨rfl, hmat⟩ := hR
        refine blkQ_r ?_
        refine seqQ_r ?_
        obtain rfl := Option.some.inj h
        exact ⟨.inl rfl, _, _, (Mat.trans hmat (Mat.trans (Mat.coeP (Ts := [(4, (.d (.list 1 (([] : List Int).map (eI .i64)))))]) (Bs := []) (TwT.cons (x := .nils) (by rfl) (Tw.leaf ⟨_, (Co.nils 1), rfl⟩) TwT.nil) TwB.nil) (mp [] [(4, (.d (.list 1 (([] : List Int).map (eI .i64))))), (5, (i6 p29))] [] hB))), [(.d (.list 1 (([] : List Int).map (eI .i64)))), (i6 p29)], (Res.tmp (by rfl) (by rfl) (Res.tmp (by rfl) (by rfl) Res.nil)), rfl, by rfl, by rfl, by rfl⟩
      · obtain ⟨rfl, hmat⟩ := hR
        refine blkQ_hit ?_
        refine seqQ_n ?_
        refine AWp.ghost hmat ?_
        refine AWp.seq ?_
        refine AWp.region (oc (mv hN (ot 6 (.sref 3006 1 0 p30.length)))
          (oc (OpJ.assign (ltN hN rfl) (ot 39 (.sref 3006 1 0 p30.length)))
          (oc (OpJ.assign (ltN hN rfl) (Opd.int .i64 (0)))
          (OpJs.nil)))) (by rfl) (by rfl) ?_
        refine seqQ_n ?_
        refine AWp.ghost (mp [] [(4, (.sref 3006 1 0 p30.length)), (5, (i6 (0 : Int)))] [(3006, some (.row 3 1 (p30.map (eI .i64))))] hB) ?_
        refine AWp.ret ?_
        obtain rfl := Option.some.inj h
        exact ⟨.inl rfl, _, _, (Mat.trans (Mat.freezeP (n := 3006) (e := 3) (sz := 1) (es := p30.map (eI .i64)) (Ts := [(4, (.d (.list 1 (p30.map (eI .i64)))))]) (Bs := []) (by rfl) (TwT.cons (x := (.sref 3006 1 0 p30.length)) (by rfl) (FrzL.all (by first | rfl | (simp; done) | (simp; omega))) TwT.nil) TwB.nil) (mp [] [(4, (.d (.list 1 (p30.map (eI .i64))))), (5, (i6 (0 : Int)))] [] hB)), [(.d (.list 1 (p30.map (eI .i64)))), (i6 (0 : Int))], (Res.tmp (by rfl) (by rfl) (Res.tmp (by rfl) (by rfl) Res.nil)), rfl, by rfl, by rfl, by rfl⟩

noncomputable def exchangepointref40_Percentile (a0 : (List Int)) (a1 : Int) : Option (Int × Int) :=
  (if (((decide (a1 < (1 : Int))) || (decide ((100 : Int) < a1))) || (decide ((9000 : Int) < (a0.length : Int)))) = true then
  some ((0 : Int), (1 : Int))
  else
  (if ((a0.length : Int) == (0 : Int)) = true then
  some ((0 : Int), (39 : Int))
  else
  chk (decide (a0.length ≤ LIM)) <|
  (ext31_slices_Sort a0).bind fun r4 =>
  chk (decide (r4.length = a0.length)) <|
  (idx r4 (w64 ((w64 (Int.tdiv (w64 ((w64 (a1 * (a0.length : Int))) + (99 : Int))) (100 : Int))) - (1 : Int)))).bind fun x6 =>
  (idx r4 (w64 ((w64 (Int.tdiv (w64 ((w64 (a1 * (a0.length : Int))) + (99 : Int))) (100 : Int))) - (1 : Int)))).bind fun x7 =>
  some (x7, (0 : Int))))
set_option maxHeartbeats 4000000 in
set_option maxRecDepth 100000 in
theorem exchangepointref40_Percentile_ac (a0 : (List Int)) (a1 : Int) (r : Int × Int) (h : exchangepointref40_Percentile a0 a1 = some r) : AC Try.prog 25 [(.d (.list 1 (a0.map (eI .i64)))), (.d (.int .i64 a1))] [] (.tup [(.d (.int .i64 r.1)), (.d (.int .i64 r.2))]) [] := by
  refine AC.of_code2 Try.func25 rfl rfl (Nat.le_of_ble_eq_true (by rfl)) fun B hB hN => ?_
  delta exchangepointref40_Percentile at h
  refine AWp.seq ?_
  refine AWp.region (oc (OpJ.assign (ltN hN rfl) (Opd.int .i64 (0)))
  (oc (OpJ.assign (ltN hN rfl) (Opd.int .i64 (0)))
  (OpJs.nil))) (by rfl) (by rfl) ?_
  refine seqQ_n ?_
  refine AWp.ghost (mp [] [(0, (.d (.list 1 (a0.map (eI .i64))))), (1, (i6 a1))] [] hB) ?_
  refine AWp.seq ?_
  refine AWp.seq ?_
  refine AWp.region (oc (mv hN (ot 1 (i6 a1)))
  (oc (OpJ.lss (ltN hN rfl) (ot 7 (i6 a1)) (Opd.int .i64 (1)))
  (oc (mv hN (ot 8 (bo (decide (a1 < (1 : Int))))))
  (oc (op hN (i6 a1) (mv hN (ot 1 (i6 a1))) (OptL.keep rfl OptL.nil) (GuardV.plain _))
  (oc (op hN (bo (decide ((100 : Int) < a1))) (OpJ.gtr (ltN hN rfl) (ot 10 (i6 a1)) (Opd.int .i64 (100))) (OptL.opt OptL.nil) (GuardV.plain _))
  (oc (OpJ.pickOr rfl (ltN hN rfl) (ot 9 (bo (decide (a1 < (1 : Int))))) (ot 11 (.opt ((decide (a1 < (1 : Int))) == false) (bo (decide ((100 : Int) < a1))))))
  (oc (mv hN (ot 12 (bo ((decide (a1 < (1 : Int))) || (decide ((100 : Int) < a1))))))
  (oc (op hN (.d (.list 1 (a0.map (eI .i64)))) (mv hN (ot 0 (.d (.list 1 (a0.map (eI .i64)))))) (OptL.keep rfl OptL.nil) (GuardV.plain _))
  (oc (op hN (i6 (a0.length : Int)) (OpJ.val (v' := (i6 (a0.length : Int))) (by simp) (OpJ.lenD Try.underlying22 (ltN hN rfl) (ot 14 (.d (.list 1 (a0.map (eI .i64))))))) (OptL.opt OptL.nil) (GuardV.plain _))
  (oc (op hN (bo (decide ((9000 : Int) < (a0.length : Int)))) (OpJ.gtr (ltN hN rfl) (ot 15 (i6 (a0.length : Int))) (Opd.int .i64 (9000))) (OptL.opt OptL.nil) (GuardV.plain _))
  (oc (OpJ.pickOr rfl (ltN hN rfl) (ot 13 (bo ((decide (a1 < (1 : Int))) || (decide ((100 : Int) < a1))))) (ot 16 (.opt (((decide (a1 < (1 : Int))) || (decide ((100 : Int) < a1))) == false) (bo (decide ((9000 : Int) < (a0.length : Int)))))))
  (OpJs.nil)))))))))))) (by rfl) (by rfl) ?_
  refine seqQ_n ?_
  refine AWp.ghost (mp [] [(0, (.d (.list 1 (a0.map (eI .i64))))), (1, (i6 a1)), (17, (bo (((decide (a1 < (1 : Int))) || (decide ((100 : Int) < a1))) || (decide ((9000 : Int) < (a0.length : Int))))))] [] hB) ?_
  refine AWp.cond (b := (((decide (a1 < (1 : Int))) || (decide ((100 : Int) < a1))) || (decide ((9000 : Int) < (a0.length : Int))))) (by rfl) (fun hg1 => ?_) (fun hg1 => ?_)
  · replace h := ite_t hg1 h
    refine AWp.seq ?_
    refine AWp.region (oc (OpJ.assign (ltN hN rfl) (Opd.int .i64 (0)))
      (oc (OpJ.assign (ltN hN rfl) (Opd.int .i64 (1)))
      (OpJs.nil))) (by rfl) (by rfl) ?_
    refine seqQ_n ?_
    refine AWp.ghost (mp [] [(4, (i6 (0 : Int))), (5, (i6 (1 : Int)))] [] hB) ?_
    refine AWp.ret ?_
    refine seqQ_r ?_
    obtain rfl := Option.some.inj h
    exact ⟨.inl rfl, _, _, (mp [] [(4, (i6 (0 : Int))), (5, (i6 (1 : Int)))] [] hB), [(i6 (0 : Int)), (i6 (1 : Int))], (Res.tmp (by rfl) (by rfl) (Res.tmp (by rfl) (by rfl) Res.nil)), rfl, by rfl, by rfl, by rfl⟩
  · replace h := ite_f hg1 h
    refine AWp.skip ?_
    refine seqQ_n ?_
    refine AWp.seq ?_
    refine AWp.seq ?_
    refine AWp.region (oc (mv hN (ot 0 (.d (.list 1 (a0.map (eI .i64))))))
      (oc (OpJ.val (v' := (i6 (a0.length : Int))) (by simp) (OpJ.lenD Try.underlying22 (ltN hN rfl) (ot 18 (.d (.list 1 (a0.map (eI .i64)))))))
      (oc (OpJ.eqlI (ltN hN rfl) (ot 19 (i6 (a0.length : Int))) (Opd.int .i64 (0)))
      (OpJs.nil)))) (by rfl) (by rfl) ?_
    refine seqQ_n ?_
    refine AWp.ghost (mp [] [(0, (.d (.list 1 (a0.map (eI .i64))))), (1, (i6 a1)), (20, (bo ((a0.length : Int) == (0 : Int))))] [] hB) ?_
    refine AWp.cond (b := ((a0.length : Int) == (0 : Int))) (by rfl) (fun hg2 => ?_) (fun hg2 => ?_)
    · replace h := ite_t hg2 h
      refine AWp.seq ?_
      refine AWp.region (oc (OpJ.assign (ltN hN rfl) (Opd.int .i64 (0)))
        (oc (OpJ.assign (ltN hN rfl) (Opd.int .i64 (39)))
        (OpJs.nil))) (by rfl) (by rfl) ?_
      refine seqQ_n ?_
      refine AWp.ghost (mp [] [(4, (i6 (0 : Int))), (5, (i6 (39 : Int)))] [] hB) ?_
      refine AWp.ret ?_
      refine seqQ_r ?_
      obtain rfl := Option.some.inj h
      exact ⟨.inl rfl, _, _, (mp [] [(4, (i6 (0 : Int))), (5, (i6 (39 : Int)))] [] hB), [(i6 (0 : Int)), (i6 (39 : Int))], (Res.tmp (by rfl) (by rfl) (Res.tmp (by rfl) (by rfl) Res.nil)), rfl, by rfl, by rfl, by rfl⟩
    · replace h := ite_f hg2 h
      refine AWp.skip ?_
      refine seqQ_n ?_
      refine AWp.seq ?_
      obtain ⟨hc3, h⟩ := chk_some h
      refine AWp.region (oc (mv hN (ot 0 (.d (.list 1 (a0.map (eI .i64))))))
        (oc (OpJ.appendN hB Try.underlying22 tyE3 (nm := 1022) (by decide) (ys := a0.map (eI .i64)) (len := a0.length) (by simp) (map_sz (f := (eI .i64)) (fun _ => rfl)) (by rw [List.length_map]; exact lim_mulN hc3 (by decide)) (by rw [List.length_map]; exact lim_leN hc3) (ltN hN rfl) Opd.nils (ot 21 (.d (.list 1 (a0.map (eI .i64))))))
        (oc (OpJ.assign (ltN hN rfl) (ot 22 (.sref 1022 1 0 a0.length)))
        (OpJs.nil)))) (by rfl) (by rfl) ?_
      refine seqQ_n ?_
      refine AWp.ghost (mp [] [(1, (i6 a1)), (6, (.sref 1022 1 0 a0.length))] [(1022, some (.row 3 1 (a0.map (eI .i64))))] hB) ?_
      refine AWp.seq ?_
      obtain ⟨r4, hr4, h⟩ := bindS h
      obtain ⟨hc5, h⟩ := chk_some h
      have hc5_o := of_decide_eq_true hc5
      refine AWp.region (oc (mv hN (ot 6 (.sref 1022 1 0 a0.length)))
        (oc (OpJ.callFn hB fnOk31 (ext31_slices_Sort_ac a0 r4 hr4) [(0, 1022)] (by kernel_rfl) (ltN hN rfl) (by kernel_rfl) (OpdL.cons (ot 23 (.sref 1022 1 0 a0.length)) OpdL.nil))
        (OpJs.nil))) (by rfl) (by rfl) ?_
      refine seqQ_n ?_
      refine AWp.ghost (mp [] [(1, (i6 a1)), (6, (.sref 1022 1 0 a0.length))] [(1022, some (.row 3 1 (r4.map (eI .i64))))] hB) ?_
      refine AWp.seq ?_
      obtain ⟨x6, hx6, h⟩ := bindS h
      obtain ⟨x7, hx7, h⟩ := bindS h
      refine AWp.region (oc (mv hN (ot 6 (.sref 1022 1 0 a0.length)))
        (oc (mv hN (ot 1 (i6 a1)))
        (oc (mv hN (ot 6 (.sref 1022 1 0 a0.length)))
        (oc (OpJ.lenS (obj := (.row 3 1 (r4.map (eI .i64)))) Try.underlying22 (ltN hN rfl) (ot 27 (.sref 1022 1 0 a0.length)))
        (oc (OpJ.mul (ltN hN rfl) (ot 26 (i6 a1)) (ot 28 (i6 (a0.length : Int))))
        (oc (OpJ.add (ltN hN rfl) (ot 29 (i6 (w64 (a1 * (a0.length : Int))))) (Opd.int .i64 (99)))
        (oc (OpJ.quo (ltN hN rfl) (ot 30 (i6 (w64 ((w64 (a1 * (a0.length : Int))) + (99 : Int))))) (Opd.int .i64 (100)) (by decide))
        (oc (OpJ.sub (ltN hN rfl) (ot 31 (i6 (w64 (Int.tdiv (w64 ((w64 (a1 * (a0.length : Int))) + (99 : Int))) (100 : Int))))) (Opd.int .i64 (1)))
        (oc (OpJ.val (v' := (.ptr 1022 ((w64 ((w64 (Int.tdiv (w64 ((w64 (a1 * (a0.length : Int))) + (99 : Int))) (100 : Int))) - (1 : Int))).toNat * 1) [(w64 ((w64 (Int.tdiv (w64 ((w64 (a1 * (a0.length : Int))) + (99 : Int))) (100 : Int))) - (1 : Int))).toNat])) (by simp) (OpJ.indexS Try.underlying22 tyS3 (obj := (.row 3 1 (r4.map (eI .i64)))) (idx_some hx6).1 (by have := idx_lt hx6; first | (simpa using this) | ((try simp only [List.length_map] at this); (try simp only [List.length_map]); omega)) (ltN hN rfl) (ot 25 (.sref 1022 1 0 a0.length)) (ot 32 (i6 (w64 ((w64 (Int.tdiv (w64 ((w64 (a1 * (a0.length : Int))) + (99 : Int))) (100 : Int))) - (1 : Int)))))))
        (oc (OpJ.loadR (e := 3) (sz := 1) (es := r4.map (eI .i64)) tyS3 (get_map (eI .i64) (idx_some hx7).2) (o := 0) (v := (.int .i64 x7)) (At.here _) (by rfl) (by rfl) (by rfl) (ltN hN rfl) (ot 33 (.ptr 1022 ((w64 ((w64 (Int.tdiv (w64 ((w64 (a1 * (a0.length : Int))) + (99 : Int))) (100 : Int))) - (1 : Int))).toNat * 1) [(w64 ((w64 (Int.tdiv (w64 ((w64 (a1 * (a0.length : Int))) + (99 : Int))) (100 : Int))) - (1 : Int))).toNat])))
        (oc (OpJ.assign (ltN hN rfl) (ot 34 (i6 x7)))
        (oc (OpJ.assign (ltN hN rfl) (Opd.int .i64 (0)))
        (OpJs.nil))))))))))))) (by rfl) (by rfl) ?_
      refine seqQ_n ?_
      refine AWp.ghost (mp [] [(4, (i6 x7)), (5, (i6 (0 : Int)))] [] hB) ?_
      refine AWp.ret ?_
      obtain rfl := Option.some.inj h
      exact ⟨.inl rfl, _, _, (mp [] [(4, (i6 x7)), (5, (i6 (0 : Int)))] [] hB), [(i6 x7), (i6 (0 : Int))], (Res.tmp (by rfl) (by rfl) (Res.tmp (by rfl) (by rfl) Res.nil)), rfl, by rfl, by rfl, by rfl⟩

noncomputable def exchangepointref40_Used (a0 : api_Series) (a1 : Int) : Option (Int × Int) :=
  (exchangepointref40_Valid a0).bind fun r1 =>
  (if (!r1) = true then
  some ((0 : Int), (1 : Int))
  else
  (exchangepointref40_Rates a0.fIn a0.fSeconds).bind fun r3 =>
  (exchangepointref40_Rates a0.fOut a0.fSeconds).bind fun r4 =>
  (exchangepointref40_Percentile r3.1 a1).bind fun r5 =>
  (if (r5.2 != (0 : Int)) = true then
  some ((0 : Int), r5.2)
  else
  (exchangepointref40_Percentile r4.1 a1).bind fun r7 =>
  some ((maxI r5.1 r7.1), (0 : Int))))
set_option maxHeartbeats 4000000 in
set_option maxRecDepth 100000 in
theorem exchangepointref40_Used_ac (a0 : api_Series) (a1 : Int) (r : Int × Int) (h : exchangepointref40_Used a0 a1 = some r) : AC Try.prog 19 [(.d (e_api_Series a0)), (.d (.int .i64 a1))] [] (.tup [(.d (.int .i64 r.1)), (.d (.int .i64 r.2))]) [] := by
  refine AC.of_code2 Try.func19 rfl rfl (Nat.le_of_ble_eq_true (by rfl)) fun B hB hN => ?_
  delta exchangepointref40_Used at h
  refine AWp.seq ?_
  refine AWp.region (oc (OpJ.box hB (nm := 1002) (by decide) (by simp) rfl (ltN hN rfl) (ot 0 (.d (e_api_Series a0))))
  (oc (OpJ.assign (ltN hN rfl) (Opd.int .i64 (0)))
  (oc (OpJ.assign (ltN hN rfl) (Opd.int .i64 (0)))
  (OpJs.nil)))) (by rfl) (by rfl) ?_
  refine seqQ_n ?_
  refine AWp.ghost (mp [] [(1, (i6 a1)), (2, (.ptr 1002 0 []))] [(1002, some (.box 30 (.d (e_api_Series a0))))] hB) ?_
  refine AWp.seq ?_
  refine AWp.seq ?_
  obtain ⟨r1, hr1, h⟩ := bindS h
  refine AWp.region (oc (lb hN 30 (.d (e_api_Series a0)) (.d (e_api_Series a0)) tyS30 (At.here _) (ot 2 (.ptr 1002 0 [])))
  (oc (OpJ.callFn hB fnOk17 (exchangepointref40_Valid_ac a0 r1 hr1) [] (by kernel_rfl) (ltN hN rfl) (by kernel_rfl) (OpdL.cons (ot 14 (.d (e_api_Series a0))) OpdL.nil))
  (oc (OpJ.not (ltN hN rfl) (ot 15 (bo r1)))
  (OpJs.nil)))) (by rfl) (by rfl) ?_
  refine seqQ_n ?_
  refine AWp.ghost (mp [] [(1, (i6 a1)), (2, (.ptr 1002 0 [])), (16, (bo (!r1)))] [(1002, some (.box 30 (.d (e_api_Series a0))))] hB) ?_
  refine AWp.cond (b := (!r1)) (by rfl) (fun hg2 => ?_) (fun hg2 => ?_)
  · replace h := ite_t hg2 h
    refine AWp.seq ?_
    refine AWp.region (oc (OpJ.assign (ltN hN rfl) (Opd.int .i64 (0)))
      (oc (OpJ.assign (ltN hN rfl) (Opd.int .i64 (1)))
      (OpJs.nil))) (by rfl) (by rfl) ?_
    refine seqQ_n ?_
    refine AWp.ghost (mp [] [(4, (i6 (0 : Int))), (5, (i6 (1 : Int)))] [] hB) ?_
    refine AWp.ret ?_
    refine seqQ_r ?_
    obtain rfl := Option.some.inj h
    exact ⟨.inl rfl, _, _, (mp [] [(4, (i6 (0 : Int))), (5, (i6 (1 : Int)))] [] hB), [(i6 (0 : Int)), (i6 (1 : Int))], (Res.tmp (by rfl) (by rfl) (Res.tmp (by rfl) (by rfl) Res.nil)), rfl, by rfl, by rfl, by rfl⟩
  · replace h := ite_f hg2 h
    refine AWp.skip ?_
    refine seqQ_n ?_
    refine AWp.seq ?_
    obtain ⟨r3, hr3, h⟩ := bindS h
    refine AWp.region (oc (ov (.ptr 1002 2 [2]) (fp hN Try.underlying30 2 tyS22 (.box 30 (.d (e_api_Series a0))) (ot 2 (.ptr 1002 0 []))))
      (oc (lb hN 30 (.d (e_api_Series a0)) (.d (.list 1 (a0.fIn.map (eI .i64)))) tyS22 (ad (.list 1 (a0.fIn.map (eI .i64)))) (ot 18 (.ptr 1002 2 [2])))
      (oc (ov (.ptr 1002 1 [1]) (fp hN Try.underlying30 1 tyS3 (.box 30 (.d (e_api_Series a0))) (ot 2 (.ptr 1002 0 []))))
      (oc (lb hN 30 (.d (e_api_Series a0)) (i6 a0.fSeconds) tyS3 (ad (.int .i64 a0.fSeconds)) (ot 20 (.ptr 1002 1 [1])))
      (oc (OpJ.callFn hB fnOk23 (exchangepointref40_Rates_ac a0.fIn a0.fSeconds r3 hr3) [] (by kernel_rfl) (ltN hN rfl) (by kernel_rfl) (OpdL.cons (ot 19 (.d (.list 1 (a0.fIn.map (eI .i64))))) (OpdL.cons (ot 21 (i6 a0.fSeconds)) OpdL.nil)))
      (oc (mv hN (ot 22 (.tup [(.d (.list 1 (r3.1.map (eI .i64)))), (i6 r3.2)])))
      (oc (OpJ.extract (v := (.d (.list 1 (r3.1.map (eI .i64))))) (by rfl) rfl (ltN hN rfl) (ot 17 (.tup [(.d (.list 1 (r3.1.map (eI .i64)))), (i6 r3.2)])))
      (oc (OpJ.extract (v := (i6 r3.2)) (by rfl) rfl (ltN hN rfl) (ot 17 (.tup [(.d (.list 1 (r3.1.map (eI .i64)))), (i6 r3.2)])))
      (oc (OpJ.assign (ltN hN rfl) (ot 23 (.d (.list 1 (r3.1.map (eI .i64))))))
      (oc (OpJ.assign (ltN hN rfl) (ot 24 (i6 r3.2)))
      (OpJs.nil))))))))))) (by rfl) (by rfl) ?_
    refine seqQ_n ?_
    refine AWp.ghost (mp [] [(1, (i6 a1)), (2, (.ptr 1002 0 [])), (6, (.d (.list 1 (r3.1.map (eI .i64)))))] [(1002, some (.box 30 (.d (e_api_Series a0))))] hB) ?_
    refine AWp.seq ?_
    obtain ⟨r4, hr4, h⟩ := bindS h
    refine AWp.region (oc (ov (.ptr 1002 3 [3]) (fp hN Try.underlying30 3 tyS22 (.box 30 (.d (e_api_Series a0))) (ot 2 (.ptr 1002 0 []))))
      (oc (lb hN 30 (.d (e_api_Series a0)) (.d (.list 1 (a0.fOut.map (eI .i64)))) tyS22 (ad (.list 1 (a0.fOut.map (eI .i64)))) (ot 26 (.ptr 1002 3 [3])))
      (oc (ov (.ptr 1002 1 [1]) (fp hN Try.underlying30 1 tyS3 (.box 30 (.d (e_api_Series a0))) (ot 2 (.ptr 1002 0 []))))
      (oc (lb hN 30 (.d (e_api_Series a0)) (i6 a0.fSeconds) tyS3 (ad (.int .i64 a0.fSeconds)) (ot 28 (.ptr 1002 1 [1])))
      (oc (OpJ.callFn hB fnOk23 (exchangepointref40_Rates_ac a0.fOut a0.fSeconds r4 hr4) [] (by kernel_rfl) (ltN hN rfl) (by kernel_rfl) (OpdL.cons (ot 27 (.d (.list 1 (a0.fOut.map (eI .i64))))) (OpdL.cons (ot 29 (i6 a0.fSeconds)) OpdL.nil)))
      (oc (mv hN (ot 30 (.tup [(.d (.list 1 (r4.1.map (eI .i64)))), (i6 r4.2)])))
      (oc (OpJ.extract (v := (.d (.list 1 (r4.1.map (eI .i64))))) (by rfl) rfl (ltN hN rfl) (ot 25 (.tup [(.d (.list 1 (r4.1.map (eI .i64)))), (i6 r4.2)])))
      (oc (OpJ.extract (v := (i6 r4.2)) (by rfl) rfl (ltN hN rfl) (ot 25 (.tup [(.d (.list 1 (r4.1.map (eI .i64)))), (i6 r4.2)])))
      (oc (OpJ.assign (ltN hN rfl) (ot 31 (.d (.list 1 (r4.1.map (eI .i64))))))
      (oc (OpJ.assign (ltN hN rfl) (ot 32 (i6 r4.2)))
      (OpJs.nil))))))))))) (by rfl) (by rfl) ?_
    refine seqQ_n ?_
    refine AWp.ghost (mp [] [(1, (i6 a1)), (6, (.d (.list 1 (r3.1.map (eI .i64))))), (8, (.d (.list 1 (r4.1.map (eI .i64)))))] [] hB) ?_
    refine AWp.seq ?_
    obtain ⟨r5, hr5, h⟩ := bindS h
    refine AWp.region (oc (mv hN (ot 6 (.d (.list 1 (r3.1.map (eI .i64))))))
      (oc (mv hN (ot 1 (i6 a1)))
      (oc (OpJ.callFn hB fnOk25 (exchangepointref40_Percentile_ac r3.1 a1 r5 hr5) [] (by kernel_rfl) (ltN hN rfl) (by kernel_rfl) (OpdL.cons (ot 34 (.d (.list 1 (r3.1.map (eI .i64))))) (OpdL.cons (ot 35 (i6 a1)) OpdL.nil)))
      (oc (mv hN (ot 36 (.tup [(i6 r5.1), (i6 r5.2)])))
      (oc (OpJ.extract (v := (i6 r5.1)) (by rfl) rfl (ltN hN rfl) (ot 33 (.tup [(i6 r5.1), (i6 r5.2)])))
      (oc (OpJ.extract (v := (i6 r5.2)) (by rfl) rfl (ltN hN rfl) (ot 33 (.tup [(i6 r5.1), (i6 r5.2)])))
      (oc (OpJ.assign (ltN hN rfl) (ot 37 (i6 r5.1)))
      (oc (OpJ.assign (ltN hN rfl) (ot 38 (i6 r5.2)))
      (OpJs.nil))))))))) (by rfl) (by rfl) ?_
    refine seqQ_n ?_
    refine AWp.ghost (mp [] [(1, (i6 a1)), (8, (.d (.list 1 (r4.1.map (eI .i64))))), (10, (i6 r5.1)), (11, (i6 r5.2))] [] hB) ?_
    refine AWp.seq ?_
    refine AWp.seq ?_
    refine AWp.region (oc (mv hN (ot 11 (i6 r5.2)))
      (oc (OpJ.neqI (ltN hN rfl) (ot 39 (i6 r5.2)) (Opd.int .i64 (0)))
      (OpJs.nil))) (by rfl) (by rfl) ?_
    refine seqQ_n ?_
    refine AWp.ghost (mp [] [(1, (i6 a1)), (8, (.d (.list 1 (r4.1.map (eI .i64))))), (10, (i6 r5.1)), (11, (i6 r5.2)), (40, (bo (r5.2 != (0 : Int))))] [] hB) ?_
    refine AWp.cond (b := (r5.2 != (0 : Int))) (by rfl) (fun hg6 => ?_) (fun hg6 => ?_)
    · replace h := ite_t hg6 h
      refine AWp.seq ?_
      refine AWp.region (oc (mv hN (ot 11 (i6 r5.2)))
        (oc (OpJ.assign (ltN hN rfl) (Opd.int .i64 (0)))
        (oc (OpJ.assign (ltN hN rfl) (ot 41 (i6 r5.2)))
        (OpJs.nil)))) (by rfl) (by rfl) ?_
      refine seqQ_n ?_
      refine AWp.ghost (mp [] [(4, (i6 (0 : Int))), (5, (i6 r5.2))] [] hB) ?_
      refine AWp.ret ?_
      refine seqQ_r ?_
      obtain rfl := Option.some.inj h
      exact ⟨.inl rfl, _, _, (mp [] [(4, (i6 (0 : Int))), (5, (i6 r5.2))] [] hB), [(i6 (0 : Int)), (i6 r5.2)], (Res.tmp (by rfl) (by rfl) (Res.tmp (by rfl) (by rfl) Res.nil)), rfl, by rfl, by rfl, by rfl⟩
    · replace h := ite_f hg6 h
      refine AWp.skip ?_
      refine seqQ_n ?_
      refine AWp.seq ?_
      obtain ⟨r7, hr7, h⟩ := bindS h
      refine AWp.region (oc (mv hN (ot 8 (.d (.list 1 (r4.1.map (eI .i64))))))
        (oc (mv hN (ot 1 (i6 a1)))
        (oc (OpJ.callFn hB fnOk25 (exchangepointref40_Percentile_ac r4.1 a1 r7 hr7) [] (by kernel_rfl) (ltN hN rfl) (by kernel_rfl) (OpdL.cons (ot 43 (.d (.list 1 (r4.1.map (eI .i64))))) (OpdL.cons (ot 44 (i6 a1)) OpdL.nil)))
        (oc (mv hN (ot 45 (.tup [(i6 r7.1), (i6 r7.2)])))
        (oc (OpJ.extract (v := (i6 r7.1)) (by rfl) rfl (ltN hN rfl) (ot 42 (.tup [(i6 r7.1), (i6 r7.2)])))
        (oc (OpJ.extract (v := (i6 r7.2)) (by rfl) rfl (ltN hN rfl) (ot 42 (.tup [(i6 r7.1), (i6 r7.2)])))
        (oc (OpJ.assign (ltN hN rfl) (ot 46 (i6 r7.1)))
        (oc (OpJ.assign (ltN hN rfl) (ot 47 (i6 r7.2)))
        (OpJs.nil))))))))) (by rfl) (by rfl) ?_
      refine seqQ_n ?_
      refine AWp.ghost (mp [] [(10, (i6 r5.1)), (12, (i6 r7.1))] [] hB) ?_
      refine AWp.seq ?_
      refine AWp.region (oc (mv hN (ot 10 (i6 r5.1)))
        (oc (mv hN (ot 12 (i6 r7.1)))
        (oc (OpJ.max (ltN hN rfl) (ot 48 (i6 r5.1)) (ot 49 (i6 r7.1)))
        (oc (OpJ.assign (ltN hN rfl) (ot 50 (i6 (maxI r5.1 r7.1))))
        (oc (OpJ.assign (ltN hN rfl) (Opd.int .i64 (0)))
        (OpJs.nil)))))) (by rfl) (by rfl) ?_
      refine seqQ_n ?_
      refine AWp.ghost (mp [] [(4, (i6 (maxI r5.1 r7.1))), (5, (i6 (0 : Int)))] [] hB) ?_
      refine AWp.ret ?_
      obtain rfl := Option.some.inj h
      exact ⟨.inl rfl, _, _, (mp [] [(4, (i6 (maxI r5.1 r7.1))), (5, (i6 (0 : Int)))] [] hB), [(i6 (maxI r5.1 r7.1)), (i6 (0 : Int))], (Res.tmp (by rfl) (by rfl) (Res.tmp (by rfl) (by rfl) Res.nil)), rfl, by rfl, by rfl, by rfl⟩

noncomputable def exchangepointref23_SameInts_L0 (a0 : (List Int)) (a1 : (List Int)) (s2 : Int) : Option (((Unit) ⊕ (Unit)) ⊕ (Int)) :=
  (if (decide (s2 < (a0.length : Int))) = true then
  (idx a0 s2).bind fun x14 =>
  (idx a1 s2).bind fun x15 =>
  (if (x14 != x15) = true then
  some (.inl (.inl ()))
  else
  some (.inr (w64 (s2 + (1 : Int)))))
  else
  some (.inl (.inr ())))
noncomputable def exchangepointref23_SameInts (a0 : (List Int)) (a1 : (List Int)) : Option (Bool) :=
  (if ((a0.length : Int) != (a1.length : Int)) = true then
  some false
  else
  (loop (exchangepointref23_SameInts_L0 a0 a1) (0 : Int)).bind fun x17 => match x17 with
  | (.inl _) =>
    some false
  | (.inr _) =>
    some true)
set_option maxHeartbeats 4000000 in
set_option maxRecDepth 100000 in
theorem exchangepointref23_SameInts_ac (a0 : (List Int)) (a1 : (List Int)) (r : Bool) (h : exchangepointref23_SameInts a0 a1 = some r) : AC Try.prog 24 [(.d (.list 1 (a0.map (eI .i64)))), (.d (.list 1 (a1.map (eI .i64))))] [] (.d (.bool r)) [] := by
  refine AC.of_code2 Try.func24 rfl rfl (Nat.le_of_ble_eq_true (by rfl)) fun B hB hN => ?_
  delta exchangepointref23_SameInts at h
  refine AWp.seq ?_
  refine AWp.region (oc (OpJ.assign (ltN hN rfl) (Opd.bool false))
  (OpJs.nil)) (by rfl) (by rfl) ?_
  refine seqQ_n ?_
  refine AWp.ghost (mp [] [(0, (.d (.list 1 (a0.map (eI .i64))))), (1, (.d (.list 1 (a1.map (eI .i64)))))] [] hB) ?_
  refine AWp.seq ?_
  refine AWp.seq ?_
  refine AWp.region (oc (mv hN (ot 0 (.d (.list 1 (a0.map (eI .i64))))))
  (oc (OpJ.val (v' := (i6 (a0.length : Int))) (by simp) (OpJ.lenD Try.underlying22 (ltN hN rfl) (ot 6 (.d (.list 1 (a0.map (eI .i64)))))))
  (oc (mv hN (ot 1 (.d (.list 1 (a1.map (eI .i64))))))
  (oc (OpJ.val (v' := (i6 (a1.length : Int))) (by simp) (OpJ.lenD Try.underlying22 (ltN hN rfl) (ot 8 (.d (.list 1 (a1.map (eI .i64)))))))
  (oc (OpJ.neqI (ltN hN rfl) (ot 7 (i6 (a0.length : Int))) (ot 9 (i6 (a1.length : Int))))
  (OpJs.nil)))))) (by rfl) (by rfl) ?_
  refine seqQ_n ?_
  refine AWp.ghost (mp [] [(0, (.d (.list 1 (a0.map (eI .i64))))), (1, (.d (.list 1 (a1.map (eI .i64))))), (10, (bo ((a0.length : Int) != (a1.length : Int))))] [] hB) ?_
  refine AWp.cond (b := ((a0.length : Int) != (a1.length : Int))) (by rfl) (fun hg1 => ?_) (fun hg1 => ?_)
  · replace h := ite_t hg1 h
    refine AWp.seq ?_
    refine AWp.region (oc (OpJ.assign (ltN hN rfl) (Opd.bool false))
      (OpJs.nil)) (by rfl) (by rfl) ?_
    refine seqQ_n ?_
    refine AWp.ghost (mp [] [(4, (bo false))] [] hB) ?_
    refine AWp.ret ?_
    refine seqQ_r ?_
    obtain rfl := Option.some.inj h
    exact ⟨.inl rfl, _, _, (mp [] [(4, (bo false))] [] hB), [(bo false)], (Res.tmp (by rfl) (by rfl) Res.nil), rfl, by rfl, by rfl, by rfl⟩
  · replace h := ite_f hg1 h
    refine AWp.skip ?_
    refine seqQ_n ?_
    refine AWp.seq ?_
    refine AWp.seq ?_
    refine AWp.region (oc (mv hN (ot 0 (.d (.list 1 (a0.map (eI .i64))))))
      (oc (OpJ.val (v' := (i6 (a0.length : Int))) (by simp) (OpJ.lenD Try.underlying22 (ltN hN rfl) (ot 11 (.d (.list 1 (a0.map (eI .i64)))))))
      (oc (mv hN (Opd.int .i64 (0)))
      (OpJs.nil)))) (by rfl) (by rfl) ?_
    refine seqQ_n ?_
    refine AWp.ghost (mp [] [(0, (.d (.list 1 (a0.map (eI .i64))))), (1, (.d (.list 1 (a1.map (eI .i64))))), (12, (i6 (a0.length : Int))), (13, (i6 (0 : Int)))] [] hB) ?_
    refine AWp.block ?_
    obtain ⟨x17, hx18, h⟩ := bindS h
    refine AWp.ghost (mp [] ((fun s2 : Int => ([(0, (.d (.list 1 (a0.map (eI .i64))))), (1, (.d (.list 1 (a1.map (eI .i64))))), (12, (i6 (a0.length : Int))), (13, (i6 s2))] : EL)) (0 : Int)) ((fun s2 : Int => ([] : OL)) (0 : Int)) hB) ?_
    refine AWp.loopS (exchangepointref23_SameInts_L0 a0 a1) (fun s2 : Int => ([(0, (.d (.list 1 (a0.map (eI .i64))))), (1, (.d (.list 1 (a1.map (eI .i64))))), (12, (i6 (a0.length : Int))), (13, (i6 s2))] : EL)) (fun s2 : Int => ([] : OL)) (fun (x : (Unit) ⊕ (Unit)) e E' O' => match x with | (.inl _p) => e = .ret ∧ Mat B E' O' ([(4, (bo false))] : EL) ([] : OL) | (.inr _p) => e = .exit 0 ∧ Mat B E' O' ([] : EL) ([] : OL)) hx18 (fun s2 y h => ?_) (fun e E' O' hR => ?_)
    · unfold exchangepointref23_SameInts_L0 at h
      show AWp _ _ _ _ ([(0, (.d (.list 1 (a0.map (eI .i64))))), (1, (.d (.list 1 (a1.map (eI .i64))))), (12, (i6 (a0.length : Int))), (13, (i6 s2))] : EL) ([] : OL)
      refine AWp.seq ?_
      refine AWp.region (oc (OpJ.lss (ltN hN rfl) (ot 13 (i6 s2)) (ot 12 (i6 (a0.length : Int))))
        (OpJs.nil)) (by rfl) (by rfl) ?_
      refine seqQ_n ?_
      refine AWp.ghost (mp [] [(0, (.d (.list 1 (a0.map (eI .i64))))), (1, (.d (.list 1 (a1.map (eI .i64))))), (12, (i6 (a0.length : Int))), (13, (i6 s2)), (14, (bo (decide (s2 < (a0.length : Int)))))] [] hB) ?_
      refine AWp.seq ?_
      refine AWp.cond (b := (decide (s2 < (a0.length : Int)))) (by rfl) (fun hg13 => ?_) (fun hg13 => ?_)
      · replace h := ite_t hg13 h
        refine AWp.skip ?_
        refine seqQ_n ?_
        refine AWp.seq ?_
        refine AWp.block ?_
        refine AWp.seq ?_
        refine AWp.region (oc (mv hN (ot 13 (i6 s2)))
          (oc (OpJ.assign (ltN hN rfl) (ot 15 (i6 s2)))
          (OpJs.nil))) (by rfl) (by rfl) ?_
        refine seqQ_n ?_
        refine AWp.ghost (mp [] [(0, (.d (.list 1 (a0.map (eI .i64))))), (1, (.d (.list 1 (a1.map (eI .i64))))), (5, (i6 s2)), (12, (i6 (a0.length : Int))), (13, (i6 s2))] [] hB) ?_
        refine AWp.seq ?_
        obtain ⟨x14, hx14, h⟩ := bindS h
        obtain ⟨x15, hx15, h⟩ := bindS h
        refine AWp.draws (by kernel_rfl) (oc (mv hN (ot 0 (.d (.list 1 (a0.map (eI .i64))))))
          (oc (mv hN (ot 5 (i6 s2)))
          (oc (OpJ.indexD (el := (.int .i64 x14)) Try.underlying22 tyS3 (idx_some hx14).1 (get_map (eI .i64) (idx_some hx14).2) (ltN hN rfl) (ot 16 (.d (.list 1 (a0.map (eI .i64))))) (ot 17 (i6 s2)))
          (oc (OpJ.loadD tyS3 (by rfl) (by rfl) (ltN hN rfl) (ot 18 (.dptr (.int .i64 x14))))
          (oc (mv hN (ot 1 (.d (.list 1 (a1.map (eI .i64))))))
          (oc (mv hN (ot 5 (i6 s2)))
          (oc (OpJ.indexD (el := (.int .i64 x15)) Try.underlying22 tyS3 (idx_some hx15).1 (get_map (eI .i64) (idx_some hx15).2) (ltN hN rfl) (ot 20 (.d (.list 1 (a1.map (eI .i64))))) (ot 21 (i6 s2)))
          (oc (OpJ.loadD tyS3 (by rfl) (by rfl) (ltN hN rfl) (ot 22 (.dptr (.int .i64 x15))))
          (oc (OpJ.neqI (ltN hN rfl) (ot 19 (i6 x14)) (ot 23 (i6 x15)))
          (OpJs.nil)))))))))) (by kernel_rfl) (by rfl) (by rfl) ?_
        refine seqQ_n ?_
        refine AWp.ghost (mp [] [(0, (.d (.list 1 (a0.map (eI .i64))))), (1, (.d (.list 1 (a1.map (eI .i64))))), (12, (i6 (a0.length : Int))), (13, (i6 s2)), (24, (bo (x14 != x15)))] [] hB) ?_
        refine AWp.cond (b := (x14 != x15)) (by rfl) (fun hg16 => ?_) (fun hg16 => ?_)
        · replace h := ite_t hg16 h
          refine AWp.seq ?_
          refine AWp.region (oc (OpJ.assign (ltN hN rfl) (Opd.bool false))
            (OpJs.nil)) (by rfl) (by rfl) ?_
          refine seqQ_n ?_
          refine AWp.ghost (mp [] [(4, (bo false))] [] hB) ?_
          refine AWp.ret ?_
          refine blkQ_r ?_
          refine seqQ_r ?_
          obtain rfl := Option.some.inj h
          exact ⟨(fun hc => by cases hc), rfl, (mp [] ((fun _ : Unit => ([(4, (bo false))] : EL)) ()) ((fun _ : Unit => ([] : OL)) ()) hB)⟩
        · replace h := ite_f hg16 h
          refine AWp.skip ?_
          refine blkQ_n ?_
          refine seqQ_n ?_
          refine AWp.region (oc (OpJ.add (ltN hN rfl) (ot 13 (i6 s2)) (Opd.int .i64 (1)))
            (oc (mv hN (ot 25 (i6 (w64 (s2 + (1 : Int))))))
            (OpJs.nil))) (by rfl) (by rfl) ?_
          obtain rfl := Option.some.inj h
          exact ⟨rfl, (Mat.trans (mp [] [(0, (.d (.list 1 (a0.map (eI .i64))))), (1, (.d (.list 1 (a1.map (eI .i64))))), (12, (i6 (a0.length : Int))), (13, (i6 (w64 (s2 + (1 : Int)))))] [] hB) (mp [] ((fun s2 : Int => ([(0, (.d (.list 1 (a0.map (eI .i64))))), (1, (.d (.list 1 (a1.map (eI .i64))))), (12, (i6 (a0.length : Int))), (13, (i6 s2))] : EL)) (w64 (s2 + (1 : Int)))) ((fun s2 : Int => ([] : OL)) (w64 (s2 + (1 : Int)))) hB))⟩
      · replace h := ite_f hg13 h
        refine AWp.exit ?_
        refine seqQ_e ?_
        obtain rfl := Option.some.inj h
        exact ⟨(fun hc => by cases hc), rfl, (mp [] ((fun _ : Unit => ([] : EL)) ()) ((fun _ : Unit => ([] : OL)) ()) hB)⟩
    · rcases x17 with _ | _
      · obtain ⟨rfl, hmat⟩ := hR
        refine blkQ_r ?_
        refine seqQ_r ?_
        obtain rfl := Option.some.inj h
        exact ⟨.inl rfl, _, _, (Mat.trans hmat (mp [] [(4, (bo false))] [] hB)), [(bo false)], (Res.tmp (by rfl) (by rfl) Res.nil), rfl, by rfl, by rfl, by rfl⟩
      · obtain ⟨rfl, hmat⟩ := hR
        refine blkQ_hit ?_
        refine seqQ_n ?_
        refine AWp.ghost hmat ?_
        refine AWp.seq ?_
        refine AWp.region (oc (OpJ.assign (ltN hN rfl) (Opd.bool true))
          (OpJs.nil)) (by rfl) (by rfl) ?_
        refine seqQ_n ?_
        refine AWp.ghost (mp [] [(4, (bo true))] [] hB) ?_
        refine AWp.ret ?_
        obtain rfl := Option.some.inj h
        exact ⟨.inl rfl, _, _, (mp [] [(4, (bo true))] [] hB), [(bo true)], (Res.tmp (by rfl) (by rfl) Res.nil), rfl, by rfl, by rfl, by rfl⟩


end Go.Proofs.Ytgbfjigliajbkaa
