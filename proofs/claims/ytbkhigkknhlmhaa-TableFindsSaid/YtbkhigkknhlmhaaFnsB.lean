/- Printed by gen.py: the Go functions as plain functions, and that the code does what they say. -/
import Derived.Test.YtbkhigkknhlmhaaChecked
import Derived.Test.YtbkhigkknhlmhaaVcYB
import Derived.Test.YtbkhigkknhlmhaaVcZ
import Derived.KernelRfl
import Derived.Test.YtbkhigkknhlmhaaVcMD
import Derived.Test.YtbkhigkknhlmhaaVcMQ
import Derived.Test.YtbkhigkknhlmhaaVcSG
import Derived.Test.YtbkhigkknhlmhaaFnsA
import Derived.Test.YtbkhigkknhlmhaaExt
import Derived.Test.YtbkhigkknhlmhaaVcV
import Derived.Test.YtbkhigkknhlmhaaVcQ
import Derived.Test.YtbkhigkknhlmhaaVcDel
namespace Go.Proofs.Ytbkhigkknhlmhaa
open Go Go.Vc
noncomputable def prefix_Valid (a0 : api_Prefix) : Option (Bool) :=
  jn (fun m7 : Bool =>
  some m7) (fun j8 =>
  (addr_Valid a0.fAddr).bind fun r9 =>
  (if (r9 && (decide ((0 : Int) ≤ a0.fLen))) = true then
  (prefix_width a0.fAddr).bind fun r11 =>
  (if (decide (a0.fLen ≤ r11)) = true then
  (prefix_first a0.fAddr a0.fLen).bind fun r13 =>
  j8 ((r13.fV6 == a0.fAddr.fV6) && ((r13.fHi == a0.fAddr.fHi) && ((r13.fLo == a0.fAddr.fLo) && true)))
  else
  j8 false)
  else
  j8 false))
set_option maxHeartbeats 4000000 in
set_option maxRecDepth 100000 in
theorem prefix_Valid_ac (a0 : api_Prefix) (r : Bool) (h : prefix_Valid a0 = some r) : AC Try.prog 60 [(.d (e_api_Prefix a0))] [] (.d (.bool r)) [] := by
  refine AC.of_code2 Try.func60 rfl rfl (Nat.le_of_ble_eq_true (by rfl)) fun B hB hN => ?_
  have L {d : Nat} (h : Nat.blt d Try.f60.ntmps = true) : d < B.N := ltN hN h
  delta prefix_Valid at h
  refine sr (cg (OpJ.box hB (nm := 1001) (by decide) (by simp) rfl (L rfl) (q 0)) rfl (c (OpJ.assign (L rfl) (Opd.bool false)) rfl cn)) ?_
  refine gh [(1, _)] [(1001, some _)] hB rfl rfl (by rfl) ?_
  refine AWp.seq ?_
  refine AWp.cut h (fun m7 : Bool => ([(2, (bo m7))] : EL)) (fun m7 : Bool => ([] : OL)) (fun m7 h E' O' hmat => ?_) (fun j8 hjj8 h => ?_)
  · refine seqQ_n ?_
    refine AWp.ghost hmat ?_
    refine AWp.ret ?_
    obtain rfl := Option.some.inj h
    exact ⟨.inl rfl, _, _, (kp [(2, _)] [] hB rfl rfl (by rfl)), [(bo m7)], (Res.tmp (by rfl) (by rfl) Res.nil), rfl, by rfl, by rfl, by rfl⟩
  · obtain ⟨r9, hr9, h⟩ := bindS h
    rcases Bool.eq_false_or_eq_true (r9 && (decide ((0 : Int) ≤ a0.fLen))) with hg10 | hg10
    · replace h := ite_t hg10 h
      obtain ⟨r11, hr11, h⟩ := bindS h
      rcases Bool.eq_false_or_eq_true (decide (a0.fLen ≤ r11)) with hg12 | hg12
      · replace h := ite_t hg12 h
        obtain ⟨r13, hr13, h⟩ := bindS h
        refine dr (c (ov (.ptr 1001 0 [0]) (fp hN Try.underlying37 0 tyS33 _ (q 1))) rfl (c (lb hN 37 _ _ tyS33 (ad _) (q 3)) rfl (cg (OpJ.callFn hB fnOk78 (addr_Valid_ac a0.fAddr r9 hr9) [] (by kernel_rfl) (L rfl) (by kernel_rfl) (OpdL.cons (q 4) OpdL.nil)) rfl (c (mv hN (q 5)) rfl (c (oq hN 6 (ov (.ptr 1001 3 [1]) (fp hN Try.underlying37 3 tyS3 _ (q 1))) (OptL.keep (by rfl) OptL.nil) (GuardV.plain _)) rfl (c (oq hN 6 (lb hN 37 _ _ tyS3 (ad _) (q 7)) (OptL.opt OptL.nil) (GuardV.plain _)) rfl (c (oq hN 6 (OpJ.geq (L rfl) (q 8) (Opd.int .i64 (0))) (OptL.opt OptL.nil) (GuardV.plain _)) rfl (c (OpJ.pickAnd rfl (L rfl) (q 6) (q 9)) rfl (c (OpJ.val (v' := .d (.bool true)) (by rw [hg10]) (mv hN (q 10))) rfl (c (OpJ.guarded (g := 11) (by rfl) (ov (.ptr 1001 3 [1]) (fp hN Try.underlying37 3 tyS3 _ (q 1)))) rfl (c (OpJ.guarded (g := 11) (by rfl) (lb hN 37 _ _ tyS3 (ad _) (q 12))) rfl (c (OpJ.guarded (g := 11) (by rfl) (ov (.ptr 1001 0 [0]) (fp hN Try.underlying37 0 tyS33 _ (q 1)))) rfl (c (OpJ.guarded (g := 11) (by rfl) (lb hN 37 _ _ tyS33 (ad _) (q 14))) rfl (cg (OpJ.guarded (g := 11) (by rfl) (OpJ.callFn hB fnOk76 (prefix_width_ac a0.fAddr r11 hr11) [] (by kernel_rfl) (L rfl) (by kernel_rfl) (OpdL.cons (q 15) OpdL.nil))) rfl (c (OpJ.guarded (g := 11) (by rfl) (OpJ.leq (L rfl) (q 13) (q 16))) rfl (c (OpJ.pickT (L rfl) (q 11) (q 17)) rfl (c (OpJ.val (v' := .d (.bool true)) (by rw [hg12]) (mv hN (q 18))) rfl (c (OpJ.guarded (g := 19) (by rfl) (ov (.ptr 1001 0 [0]) (fp hN Try.underlying37 0 tyS33 _ (q 1)))) rfl (c (OpJ.guarded (g := 19) (by rfl) (lb hN 37 _ _ tyS33 (ad _) (q 20))) rfl (c (OpJ.guarded (g := 19) (by rfl) (ov (.ptr 1001 3 [1]) (fp hN Try.underlying37 3 tyS3 _ (q 1)))) rfl (c (OpJ.guarded (g := 19) (by rfl) (lb hN 37 _ _ tyS3 (ad _) (q 22))) rfl (cg (OpJ.guarded (g := 19) (by rfl) (OpJ.callFn hB fnOk77 (prefix_first_ac a0.fAddr a0.fLen r13 hr13) [] (by kernel_rfl) (L rfl) (by kernel_rfl) (OpdL.cons (q 21) (OpdL.cons (q 23) OpdL.nil)))) rfl (c (OpJ.guarded (g := 19) (by rfl) (ov (.ptr 1001 0 [0]) (fp hN Try.underlying37 0 tyS33 _ (q 1)))) rfl (c (OpJ.guarded (g := 19) (by rfl) (lb hN 37 _ _ tyS33 (ad _) (q 25))) rfl (c (OpJ.guarded (g := 19) (by rfl) (OpJ.eqlD (h := 2) (FitE.st Try.underlying33 rfl held33 (FitF.cons (x := (.bool r13.fV6)) (y := (.bool a0.fAddr.fV6)) (by decide) rfl tyS4 ⟨rfl, rfl⟩ ⟨rfl, rfl⟩ (FitE.bool (h := 0) r13.fV6 a0.fAddr.fV6 Try.underlying4) (FitF.cons (x := (.int .u64 r13.fHi)) (y := (.int .u64 a0.fAddr.fHi)) (by decide) rfl tyS31 ⟨rfl, rfl⟩ ⟨rfl, rfl⟩ (FitE.int (h := 0) r13.fHi a0.fAddr.fHi Try.underlying31) (FitF.cons (x := (.int .u64 r13.fLo)) (y := (.int .u64 a0.fAddr.fLo)) (by decide) rfl tyS31 ⟨rfl, rfl⟩ ⟨rfl, rfl⟩ (FitE.int (h := 0) r13.fLo a0.fAddr.fLo Try.underlying31) FitF.nil)))) eqg33 ⟨rfl, rfl⟩ (by rfl) (L rfl) (q 24) (q 26))) rfl (c (OpJ.pickT (L rfl) (q 19) (q 27)) rfl (c (OpJ.assign (L rfl) (q 28)) rfl cn))))))))))))))))))))))))))) (by kernel_rfl) (by kernel_rfl) ?_
        exact hjj8 _ h _ _ (Mat.trans (mp [] [(2, (bo ((r13.fV6 == a0.fAddr.fV6) && ((r13.fHi == a0.fAddr.fHi) && ((r13.fLo == a0.fAddr.fLo) && true)))))] [] hB) (mp [] _ _ hB))
      · replace h := ite_f hg12 h
        refine dr (c (ov (.ptr 1001 0 [0]) (fp hN Try.underlying37 0 tyS33 _ (q 1))) rfl (c (lb hN 37 _ _ tyS33 (ad _) (q 3)) rfl (cg (OpJ.callFn hB fnOk78 (addr_Valid_ac a0.fAddr r9 hr9) [] (by kernel_rfl) (L rfl) (by kernel_rfl) (OpdL.cons (q 4) OpdL.nil)) rfl (c (mv hN (q 5)) rfl (c (oq hN 6 (ov (.ptr 1001 3 [1]) (fp hN Try.underlying37 3 tyS3 _ (q 1))) (OptL.keep (by rfl) OptL.nil) (GuardV.plain _)) rfl (c (oq hN 6 (lb hN 37 _ _ tyS3 (ad _) (q 7)) (OptL.opt OptL.nil) (GuardV.plain _)) rfl (c (oq hN 6 (OpJ.geq (L rfl) (q 8) (Opd.int .i64 (0))) (OptL.opt OptL.nil) (GuardV.plain _)) rfl (c (OpJ.pickAnd rfl (L rfl) (q 6) (q 9)) rfl (c (OpJ.val (v' := .d (.bool true)) (by rw [hg10]) (mv hN (q 10))) rfl (c (OpJ.guarded (g := 11) (by rfl) (ov (.ptr 1001 3 [1]) (fp hN Try.underlying37 3 tyS3 _ (q 1)))) rfl (c (OpJ.guarded (g := 11) (by rfl) (lb hN 37 _ _ tyS3 (ad _) (q 12))) rfl (c (OpJ.guarded (g := 11) (by rfl) (ov (.ptr 1001 0 [0]) (fp hN Try.underlying37 0 tyS33 _ (q 1)))) rfl (c (OpJ.guarded (g := 11) (by rfl) (lb hN 37 _ _ tyS33 (ad _) (q 14))) rfl (cg (OpJ.guarded (g := 11) (by rfl) (OpJ.callFn hB fnOk76 (prefix_width_ac a0.fAddr r11 hr11) [] (by kernel_rfl) (L rfl) (by kernel_rfl) (OpdL.cons (q 15) OpdL.nil))) rfl (c (OpJ.guarded (g := 11) (by rfl) (OpJ.leq (L rfl) (q 13) (q 16))) rfl (c (OpJ.pickT (L rfl) (q 11) (q 17)) rfl (c (OpJ.val (v' := .d (.bool false)) (by rw [hg12]) (mv hN (q 18))) rfl (cg (OpJ.skipU (g := 19) (L rfl) (by rfl)) rfl (cg (OpJ.skipU (g := 19) (L rfl) (by rfl)) rfl (cg (OpJ.skipU (g := 19) (L rfl) (by rfl)) rfl (cg (OpJ.skipU (g := 19) (L rfl) (by rfl)) rfl (cg (OpJ.skipU (g := 19) (L rfl) (by rfl)) rfl (cg (OpJ.skipU (g := 19) (L rfl) (by rfl)) rfl (cg (OpJ.skipU (g := 19) (L rfl) (by rfl)) rfl (cg (OpJ.skipU (g := 19) (L rfl) (by rfl)) rfl (c (OpJ.pickF (L rfl) (q 19) (Opd.bool false)) rfl (c (OpJ.assign (L rfl) (q 28)) rfl cn))))))))))))))))))))))))))) (by kernel_rfl) (by kernel_rfl) ?_
        exact hjj8 _ h _ _ (Mat.trans (mp [] [(2, (bo false))] [] hB) (mp [] _ _ hB))
    · replace h := ite_f hg10 h
      refine dr (c (ov (.ptr 1001 0 [0]) (fp hN Try.underlying37 0 tyS33 _ (q 1))) rfl (c (lb hN 37 _ _ tyS33 (ad _) (q 3)) rfl (cg (OpJ.callFn hB fnOk78 (addr_Valid_ac a0.fAddr r9 hr9) [] (by kernel_rfl) (L rfl) (by kernel_rfl) (OpdL.cons (q 4) OpdL.nil)) rfl (c (mv hN (q 5)) rfl (c (oq hN 6 (ov (.ptr 1001 3 [1]) (fp hN Try.underlying37 3 tyS3 _ (q 1))) (OptL.keep (by rfl) OptL.nil) (GuardV.plain _)) rfl (c (oq hN 6 (lb hN 37 _ _ tyS3 (ad _) (q 7)) (OptL.opt OptL.nil) (GuardV.plain _)) rfl (c (oq hN 6 (OpJ.geq (L rfl) (q 8) (Opd.int .i64 (0))) (OptL.opt OptL.nil) (GuardV.plain _)) rfl (c (OpJ.pickAnd rfl (L rfl) (q 6) (q 9)) rfl (c (OpJ.val (v' := .d (.bool false)) (by rw [hg10]) (mv hN (q 10))) rfl (cg (OpJ.skipU (g := 11) (L rfl) (by rfl)) rfl (cg (OpJ.skipU (g := 11) (L rfl) (by rfl)) rfl (cg (OpJ.skipU (g := 11) (L rfl) (by rfl)) rfl (cg (OpJ.skipU (g := 11) (L rfl) (by rfl)) rfl (cg (OpJ.skipU (g := 11) (L rfl) (by rfl)) rfl (cg (OpJ.skipU (g := 11) (L rfl) (by rfl)) rfl (c (OpJ.pickF (L rfl) (q 11) (Opd.bool false)) rfl (c (mv hN (q 18)) rfl (cg (OpJ.skipU (g := 19) (L rfl) (by rfl)) rfl (cg (OpJ.skipU (g := 19) (L rfl) (by rfl)) rfl (cg (OpJ.skipU (g := 19) (L rfl) (by rfl)) rfl (cg (OpJ.skipU (g := 19) (L rfl) (by rfl)) rfl (cg (OpJ.skipU (g := 19) (L rfl) (by rfl)) rfl (cg (OpJ.skipU (g := 19) (L rfl) (by rfl)) rfl (cg (OpJ.skipU (g := 19) (L rfl) (by rfl)) rfl (cg (OpJ.skipU (g := 19) (L rfl) (by rfl)) rfl (c (OpJ.pickF (L rfl) (q 19) (Opd.bool false)) rfl (c (OpJ.assign (L rfl) (q 28)) rfl cn))))))))))))))))))))))))))) (by kernel_rfl) (by kernel_rfl) ?_
      exact hjj8 _ h _ _ (Mat.trans (mp [] [(2, (bo false))] [] hB) (mp [] _ _ hB))

noncomputable def prefix_Last (a0 : api_Prefix) : Option (api_Addr) :=
  (prefix_Valid a0).bind fun r1 =>
  (if (!r1) = true then
  some (api_Addr.mk false (0 : Int) (0 : Int))
  else
  (prefix_width a0.fAddr).bind fun r3 =>
  (prefix_masks (w64 (r3 - a0.fLen))).bind fun r4 =>
  some (api_Addr.mk a0.fAddr.fV6 (bitI .or .u64 a0.fAddr.fHi r4.1) (bitI .or .u64 a0.fAddr.fLo r4.2)))
set_option maxHeartbeats 4000000 in
set_option maxRecDepth 100000 in
theorem prefix_Last_ac (a0 : api_Prefix) (r : api_Addr) (h : prefix_Last a0 = some r) : AC Try.prog 85 [(.d (e_api_Prefix a0))] [] (.d (e_api_Addr r)) [] := by
  refine AC.of_code2 Try.func85 rfl rfl (Nat.le_of_ble_eq_true (by rfl)) fun B hB hN => ?_
  have L {d : Nat} (h : Nat.blt d Try.f85.ntmps = true) : d < B.N := ltN hN h
  delta prefix_Last at h
  refine sr (cg (OpJ.box hB (nm := 1001) (by decide) (by simp) rfl (L rfl) (q 0)) rfl (cg (OpJ.alloc hB tyZ33 (nm := 1002) (by decide) (L rfl)) rfl cn)) ?_
  refine gh [(1, _), (2, _)] [(1001, some _), (1002, some _)] hB rfl rfl (by rfl) ?_
  refine AWp.seq ?_
  obtain ⟨r1, hr1, h⟩ := bindS h
  refine sr (c (lb hN 37 _ _ tyS37 (At.here _) (q 1)) rfl (cg (OpJ.callFn hB fnOk60 (prefix_Valid_ac a0 r1 hr1) [] (by kernel_rfl) (L rfl) (by kernel_rfl) (OpdL.cons (q 5) OpdL.nil)) rfl (c (OpJ.not (L rfl) (q 6)) rfl cn))) ?_
  refine gh [(1, _), (2, _), (7, _)] [(1001, some _), (1002, some _)] hB rfl rfl (by rfl) ?_
  refine AWp.cond rfl (fun hg2 => ?_) (fun hg2 => ?_)
  · replace h := ite_t hg2 h
    refine sr (c (OpJ.coe (v := (.st [(bo false), (.d (.int .u64 0)), (.d (.int .u64 0))])) (y := (.st [(.bool false), (.int .u64 0), (.int .u64 0)])) (Co.st (CoL.cons (Co.d _) (CoL.cons (Co.d _) (CoL.cons (Co.d _) CoL.nil)))) rfl (OpJ.build (places := [(0, 1), (1, 1), (2, 1)]) ⟨Try.underlying33, fun w => by kernel_rfl⟩ tyZS33 Opds.nil (by kernel_rfl) (r := (.st [(bo false), (.d (.int .u64 0)), (.d (.int .u64 0))])) (by rfl) (L rfl))) rfl (cg (OpJ.storeB tyS33 (SetAt.here _ _) (by rfl) (by rfl) (by simp) rfl (q 2) (q 8)) rfl cn)) ?_
    refine gh [(2, _)] [(1002, some _)] hB rfl rfl (by rfl) ?_
    refine AWp.ret ?_
    refine seqQ_r ?_
    obtain rfl := Option.some.inj h
    exact ⟨.inl rfl, _, _, (kp [(2, _)] [(1002, some _)] hB rfl rfl (by rfl)), [(.d (.st [(.bool false), (.int .u64 0), (.int .u64 0)]))], (Res.cell (c := (.d (.st [(.bool false), (.int .u64 0), (.int .u64 0)]))) (by rfl) (by rfl) tyS33 (by rfl) (by rfl) (by rfl) Res.nil), rfl, by rfl, by rfl, by rfl⟩
  · replace h := ite_f hg2 h
    refine AWp.skip ?_
    refine seqQ_n ?_
    obtain ⟨r3, hr3, h⟩ := bindS h
    obtain ⟨r4, hr4, h⟩ := bindS h
    refine sd (c (ov (.ptr 1001 0 [0]) (fp hN Try.underlying37 0 tyS33 _ (q 1))) rfl (c (lb hN 37 _ _ tyS33 (ad _) (q 10)) rfl (cg (OpJ.callFn hB fnOk76 (prefix_width_ac a0.fAddr r3 hr3) [] (by kernel_rfl) (L rfl) (by kernel_rfl) (OpdL.cons (q 11) OpdL.nil)) rfl (c (ov (.ptr 1001 3 [1]) (fp hN Try.underlying37 3 tyS3 _ (q 1))) rfl (c (lb hN 37 _ _ tyS3 (ad _) (q 13)) rfl (c (sub6 (L rfl) (q 12) (q 14)) rfl (cg (OpJ.callFn hB fnOk99 (prefix_masks_ac (w64 (r3 - a0.fLen)) r4 hr4) [] (by kernel_rfl) (L rfl) (by kernel_rfl) (OpdL.cons (q 15) OpdL.nil)) rfl (c (mv hN (q 16)) rfl (c (OpJ.extract (by rfl) rfl (L rfl) (q 9)) rfl (c (OpJ.extract (by rfl) rfl (L rfl) (q 9)) rfl (c (OpJ.assign (L rfl) (q 17)) rfl (c (OpJ.assign (L rfl) (q 18)) rfl cn)))))))))))) (by kernel_rfl) (by kernel_rfl) ?_
    refine gh [(1, _), (2, _), (3, _), (4, _)] [(1001, some _), (1002, some _)] hB rfl rfl (by rfl) ?_
    refine sr (c (ov (.ptr 1001 0 [0]) (fp hN Try.underlying37 0 tyS33 _ (q 1))) rfl (c (ov (.ptr 1001 1 [0, 1]) (fp hN Try.underlying33 1 tyS31 _ (q 19))) rfl (c (lb hN 37 _ _ tyS31 (At.dst1 (by rfl) (by rfl) (ad _) (by first | rfl | omega)) (q 20)) rfl (c (mv hN (q 3)) rfl (c (OpJ.bits (.inr (.inl rfl)) (L rfl) (q 21) (q 22)) rfl (c (ov (.ptr 1001 0 [0]) (fp hN Try.underlying37 0 tyS33 _ (q 1))) rfl (c (ov (.ptr 1001 1 [0, 1]) (fp hN Try.underlying33 1 tyS31 _ (q 24))) rfl (cg (OpJ.storeB tyS31 (SetAt.dst1 (by rfl) (by rfl) (SetAt.dst1 (by rfl) (by rfl) (SetAt.here _ _) (by rfl) (by rfl) (by first | rfl | omega)) (by rfl) (by rfl) (by first | rfl | omega)) (by rfl) (by rfl) (by simp) rfl (q 25) (q 23)) rfl cn)))))))) ?_
    refine gh [(1, _), (2, _), (4, _)] [(1001, some _), (1002, some _)] hB rfl rfl (by rfl) ?_
    refine sr (c (ov (.ptr 1001 0 [0]) (fp hN Try.underlying37 0 tyS33 _ (q 1))) rfl (c (ov (.ptr 1001 2 [0, 2]) (fp hN Try.underlying33 2 tyS31 _ (q 26))) rfl (c (lb hN 37 _ _ tyS31 (At.dst1 (by rfl) (by rfl) (ad _) (by first | rfl | omega)) (q 27)) rfl (c (mv hN (q 4)) rfl (c (OpJ.bits (.inr (.inl rfl)) (L rfl) (q 28) (q 29)) rfl (c (ov (.ptr 1001 0 [0]) (fp hN Try.underlying37 0 tyS33 _ (q 1))) rfl (c (ov (.ptr 1001 2 [0, 2]) (fp hN Try.underlying33 2 tyS31 _ (q 31))) rfl (cg (OpJ.storeB tyS31 (SetAt.dst1 (by rfl) (by rfl) (SetAt.dst1 (by rfl) (by rfl) (SetAt.here _ _) (by rfl) (by rfl) (by first | rfl | omega)) (by rfl) (by rfl) (by first | rfl | omega)) (by rfl) (by rfl) (by simp) rfl (q 32) (q 30)) rfl cn)))))))) ?_
    refine gh [(1, _), (2, _)] [(1001, some _), (1002, some _)] hB rfl rfl (by rfl) ?_
    refine sr (c (ov (.ptr 1001 0 [0]) (fp hN Try.underlying37 0 tyS33 _ (q 1))) rfl (c (lb hN 37 _ _ tyS33 (ad _) (q 33)) rfl (cg (OpJ.storeB tyS33 (SetAt.here _ _) (by rfl) (by rfl) (by simp) rfl (q 2) (q 34)) rfl cn))) ?_
    refine gh [(2, _)] [(1002, some _)] hB rfl rfl (by rfl) ?_
    refine AWp.ret ?_
    obtain rfl := Option.some.inj h
    exact ⟨.inl rfl, _, _, (kp [(2, _)] [(1002, some _)] hB rfl rfl (by rfl)), [(.d (.st [(.bool a0.fAddr.fV6), (.int .u64 (bitI .or .u64 a0.fAddr.fHi r4.1)), (.int .u64 (bitI .or .u64 a0.fAddr.fLo r4.2))]))], (Res.cell (c := (.d (.st [(.bool a0.fAddr.fV6), (.int .u64 (bitI .or .u64 a0.fAddr.fHi r4.1)), (.int .u64 (bitI .or .u64 a0.fAddr.fLo r4.2))]))) (by rfl) (by rfl) tyS33 (by rfl) (by rfl) (by rfl) Res.nil), rfl, by rfl, by rfl, by rfl⟩

noncomputable def prefix_Halves (a0 : api_Prefix) : Option (api_Prefix × api_Prefix × Int) :=
  (prefix_Valid a0).bind fun r1 =>
  (if (!r1) = true then
  some ((api_Prefix.mk (api_Addr.mk false (0 : Int) (0 : Int)) (0 : Int)), (api_Prefix.mk (api_Addr.mk false (0 : Int) (0 : Int)) (0 : Int)), (1 : Int))
  else
  (prefix_width a0.fAddr).bind fun r3 =>
  (if (a0.fLen == r3) = true then
  some ((api_Prefix.mk (api_Addr.mk false (0 : Int) (0 : Int)) (0 : Int)), (api_Prefix.mk (api_Addr.mk false (0 : Int) (0 : Int)) (0 : Int)), (9 : Int))
  else
  (prefix_Last (api_Prefix.mk a0.fAddr (w64 ((w64 (a0.fLen + (1 : Int))) - (1 : Int))))).bind fun r5 =>
  (prefix_first r5 (w64 (a0.fLen + (1 : Int)))).bind fun r6 =>
  some ((api_Prefix.mk a0.fAddr (w64 (a0.fLen + (1 : Int)))), (api_Prefix.mk r6 (w64 (a0.fLen + (1 : Int)))), (0 : Int))))
set_option maxHeartbeats 4000000 in
set_option maxRecDepth 100000 in
theorem prefix_Halves_ac (a0 : api_Prefix) (r : api_Prefix × api_Prefix × Int) (h : prefix_Halves a0 = some r) : AC Try.prog 70 [(.d (e_api_Prefix a0))] [] (.tup [(.d (e_api_Prefix r.1)), (.d (e_api_Prefix r.2.1)), (.d (.int .i64 r.2.2))]) [] := by
  refine AC.of_code2 Try.func70 rfl rfl (Nat.le_of_ble_eq_true (by rfl)) fun B hB hN => ?_
  have L {d : Nat} (h : Nat.blt d Try.f70.ntmps = true) : d < B.N := ltN hN h
  delta prefix_Halves at h
  refine sr (cg (OpJ.box hB (nm := 1001) (by decide) (by simp) rfl (L rfl) (q 0)) rfl (cg (OpJ.alloc hB tyZ37 (nm := 1002) (by decide) (L rfl)) rfl (cg (OpJ.alloc hB tyZ37 (nm := 1003) (by decide) (L rfl)) rfl (c (OpJ.assign (L rfl) (Opd.int .i64 (0))) rfl cn)))) ?_
  refine gh [(1, _), (2, _), (3, _)] [(1001, some _), (1002, some _), (1003, some _)] hB rfl rfl (by rfl) ?_
  refine AWp.seq ?_
  refine AWp.block ?_
  obtain ⟨r1, hr1, h⟩ := bindS h
  refine sr (c (lb hN 37 _ _ tyS37 (At.here _) (q 1)) rfl (cg (OpJ.callFn hB fnOk60 (prefix_Valid_ac a0 r1 hr1) [] (by kernel_rfl) (L rfl) (by kernel_rfl) (OpdL.cons (q 7) OpdL.nil)) rfl (c (OpJ.not (L rfl) (q 8)) rfl (c (OpJ.assign (L rfl) (q 9)) rfl cn)))) ?_
  refine gh [(1, _), (2, _), (3, _), (6, _)] [(1001, some _), (1002, some _), (1003, some _)] hB rfl rfl (by rfl) ?_
  refine AWp.cond rfl (fun hg2 => ?_) (fun hg2 => ?_)
  · replace h := ite_t hg2 h
    refine sr (c (OpJ.coe (v := (.st [(.d (.st [(.bool false), (.int .u64 0), (.int .u64 0)])), (i6 0)])) (y := (.st [(.st [(.bool false), (.int .u64 0), (.int .u64 0)]), (.int .i64 0)])) (Co.st (CoL.cons (Co.d _) (CoL.cons (Co.d _) CoL.nil))) rfl (OpJ.build (places := [(0, 3), (3, 1)]) ⟨Try.underlying37, fun w => by kernel_rfl⟩ tyZS37 Opds.nil (by kernel_rfl) (r := (.st [(.d (.st [(.bool false), (.int .u64 0), (.int .u64 0)])), (i6 0)])) (by rfl) (L rfl))) rfl (c (OpJ.coe (v := (.st [(.d (.st [(.bool false), (.int .u64 0), (.int .u64 0)])), (i6 0)])) (y := (.st [(.st [(.bool false), (.int .u64 0), (.int .u64 0)]), (.int .i64 0)])) (Co.st (CoL.cons (Co.d _) (CoL.cons (Co.d _) CoL.nil))) rfl (OpJ.build (places := [(0, 3), (3, 1)]) ⟨Try.underlying37, fun w => by kernel_rfl⟩ tyZS37 Opds.nil (by kernel_rfl) (r := (.st [(.d (.st [(.bool false), (.int .u64 0), (.int .u64 0)])), (i6 0)])) (by rfl) (L rfl))) rfl (cg (OpJ.storeB tyS37 (SetAt.here _ _) (by rfl) (by rfl) (by simp) rfl (q 2) (q 10)) rfl (cg (OpJ.storeB tyS37 (SetAt.here _ _) (by rfl) (by rfl) (by simp) rfl (q 3) (q 11)) rfl (c (OpJ.assign (L rfl) (Opd.int .i64 (1))) rfl cn))))) ?_
    refine gh [(2, _), (3, _), (4, _)] [(1002, some _), (1003, some _)] hB rfl rfl (by rfl) ?_
    refine AWp.ret ?_
    refine blkQ_r ?_
    refine seqQ_r ?_
    obtain rfl := Option.some.inj h
    exact ⟨.inl rfl, _, _, (kp [(2, _), (3, _), (4, _)] [(1002, some _), (1003, some _)] hB rfl rfl (by rfl)), [(.d (.st [(.st [(.bool false), (.int .u64 0), (.int .u64 0)]), (.int .i64 0)])), (.d (.st [(.st [(.bool false), (.int .u64 0), (.int .u64 0)]), (.int .i64 0)])), (i6 1)], (Res.cell (c := (.d (.st [(.st [(.bool false), (.int .u64 0), (.int .u64 0)]), (.int .i64 0)]))) (by rfl) (by rfl) tyS37 (by rfl) (by rfl) (by rfl) (Res.cell (c := (.d (.st [(.st [(.bool false), (.int .u64 0), (.int .u64 0)]), (.int .i64 0)]))) (by rfl) (by rfl) tyS37 (by rfl) (by rfl) (by rfl) (Res.tmp (by rfl) (by rfl) Res.nil))), rfl, by rfl, by rfl, by rfl⟩
  · replace h := ite_f hg2 h
    obtain ⟨r3, hr3, h⟩ := bindS h
    refine sd (c (ov (.ptr 1001 3 [1]) (fp hN Try.underlying37 3 tyS3 _ (q 1))) rfl (c (lb hN 37 _ _ tyS3 (ad _) (q 13)) rfl (c (ov (.ptr 1001 0 [0]) (fp hN Try.underlying37 0 tyS33 _ (q 1))) rfl (c (lb hN 37 _ _ tyS33 (ad _) (q 15)) rfl (cg (OpJ.callFn hB fnOk76 (prefix_width_ac a0.fAddr r3 hr3) [] (by kernel_rfl) (L rfl) (by kernel_rfl) (OpdL.cons (q 16) OpdL.nil)) rfl (c (OpJ.eqlI (L rfl) (q 14) (q 17)) rfl (c (OpJ.assign (L rfl) (q 18)) rfl cn))))))) (by kernel_rfl) (by kernel_rfl) ?_
    refine gh [(1, _), (2, _), (3, _), (12, _)] [(1001, some _), (1002, some _), (1003, some _)] hB rfl rfl (by rfl) ?_
    refine AWp.cond rfl (fun hg4 => ?_) (fun hg4 => ?_)
    · replace h := ite_t hg4 h
      refine sr (c (OpJ.coe (v := (.st [(.d (.st [(.bool false), (.int .u64 0), (.int .u64 0)])), (i6 0)])) (y := (.st [(.st [(.bool false), (.int .u64 0), (.int .u64 0)]), (.int .i64 0)])) (Co.st (CoL.cons (Co.d _) (CoL.cons (Co.d _) CoL.nil))) rfl (OpJ.build (places := [(0, 3), (3, 1)]) ⟨Try.underlying37, fun w => by kernel_rfl⟩ tyZS37 Opds.nil (by kernel_rfl) (r := (.st [(.d (.st [(.bool false), (.int .u64 0), (.int .u64 0)])), (i6 0)])) (by rfl) (L rfl))) rfl (c (OpJ.coe (v := (.st [(.d (.st [(.bool false), (.int .u64 0), (.int .u64 0)])), (i6 0)])) (y := (.st [(.st [(.bool false), (.int .u64 0), (.int .u64 0)]), (.int .i64 0)])) (Co.st (CoL.cons (Co.d _) (CoL.cons (Co.d _) CoL.nil))) rfl (OpJ.build (places := [(0, 3), (3, 1)]) ⟨Try.underlying37, fun w => by kernel_rfl⟩ tyZS37 Opds.nil (by kernel_rfl) (r := (.st [(.d (.st [(.bool false), (.int .u64 0), (.int .u64 0)])), (i6 0)])) (by rfl) (L rfl))) rfl (cg (OpJ.storeB tyS37 (SetAt.here _ _) (by rfl) (by rfl) (by simp) rfl (q 2) (q 19)) rfl (cg (OpJ.storeB tyS37 (SetAt.here _ _) (by rfl) (by rfl) (by simp) rfl (q 3) (q 20)) rfl (c (OpJ.assign (L rfl) (Opd.int .i64 (9))) rfl cn))))) ?_
      refine gh [(2, _), (3, _), (4, _)] [(1002, some _), (1003, some _)] hB rfl rfl (by rfl) ?_
      refine AWp.ret ?_
      refine blkQ_r ?_
      refine seqQ_r ?_
      obtain rfl := Option.some.inj h
      exact ⟨.inl rfl, _, _, (kp [(2, _), (3, _), (4, _)] [(1002, some _), (1003, some _)] hB rfl rfl (by rfl)), [(.d (.st [(.st [(.bool false), (.int .u64 0), (.int .u64 0)]), (.int .i64 0)])), (.d (.st [(.st [(.bool false), (.int .u64 0), (.int .u64 0)]), (.int .i64 0)])), (i6 (9 : Int))], (Res.cell (c := (.d (.st [(.st [(.bool false), (.int .u64 0), (.int .u64 0)]), (.int .i64 0)]))) (by rfl) (by rfl) tyS37 (by rfl) (by rfl) (by rfl) (Res.cell (c := (.d (.st [(.st [(.bool false), (.int .u64 0), (.int .u64 0)]), (.int .i64 0)]))) (by rfl) (by rfl) tyS37 (by rfl) (by rfl) (by rfl) (Res.tmp (by rfl) (by rfl) Res.nil))), rfl, by rfl, by rfl, by rfl⟩
    · replace h := ite_f hg4 h
      refine AWp.skip ?_
      refine blkQ_n ?_
      refine seqQ_n ?_
      refine sr (c (ov (.ptr 1001 3 [1]) (fp hN Try.underlying37 3 tyS3 _ (q 1))) rfl (c (lb hN 37 _ _ tyS3 (ad _) (q 21)) rfl (c (add6 (L rfl) (q 22) (Opd.int .i64 (1))) rfl (c (ov (.ptr 1001 3 [1]) (fp hN Try.underlying37 3 tyS3 _ (q 1))) rfl (cg (OpJ.storeB tyS3 (SetAt.dst1 (by rfl) (by rfl) (SetAt.here _ _) (by rfl) (by rfl) (by first | rfl | omega)) (by rfl) (by rfl) (by simp) rfl (q 24) (q 23)) rfl cn))))) ?_
      refine gh [(1, _), (2, _), (3, _)] [(1001, some _), (1002, some _), (1003, some _)] hB rfl rfl (by rfl) ?_
      obtain ⟨r5, hr5, h⟩ := bindS h
      obtain ⟨r6, hr6, h⟩ := bindS h
      refine sd (c (ov (.ptr 1001 0 [0]) (fp hN Try.underlying37 0 tyS33 _ (q 1))) rfl (c (lb hN 37 _ _ tyS33 (ad _) (q 25)) rfl (c (ov (.ptr 1001 3 [1]) (fp hN Try.underlying37 3 tyS3 _ (q 1))) rfl (c (lb hN 37 _ _ tyS3 (ad _) (q 27)) rfl (c (sub6 (L rfl) (q 28) (Opd.int .i64 (1))) rfl (c (OpJ.coe (v := (.st [(.d (e_api_Addr a0.fAddr)), (i6 (w64 ((w64 (a0.fLen + (1 : Int))) - (1 : Int))))])) (y := (.st [(e_api_Addr a0.fAddr), (.int .i64 (w64 ((w64 (a0.fLen + (1 : Int))) - (1 : Int))))])) (Co.st (CoL.cons (Co.d _) (CoL.cons (Co.d _) CoL.nil))) rfl (OpJ.build (places := [(0, 3), (3, 1)]) ⟨Try.underlying37, fun w => by kernel_rfl⟩ tyZS37 (Opds.cons (q 26) (Opds.cons (q 29) Opds.nil)) (by kernel_rfl) (r := (.st [(.d (e_api_Addr a0.fAddr)), (i6 (w64 ((w64 (a0.fLen + (1 : Int))) - (1 : Int))))])) (by rfl) (L rfl))) rfl (cg (OpJ.callFn hB fnOk85 (prefix_Last_ac (api_Prefix.mk a0.fAddr (w64 ((w64 (a0.fLen + (1 : Int))) - (1 : Int)))) r5 hr5) [] (by kernel_rfl) (L rfl) (by kernel_rfl) (OpdL.cons (q 30) OpdL.nil)) rfl (c (ov (.ptr 1001 3 [1]) (fp hN Try.underlying37 3 tyS3 _ (q 1))) rfl (c (lb hN 37 _ _ tyS3 (ad _) (q 32)) rfl (cg (OpJ.callFn hB fnOk77 (prefix_first_ac r5 (w64 (a0.fLen + (1 : Int))) r6 hr6) [] (by kernel_rfl) (L rfl) (by kernel_rfl) (OpdL.cons (q 31) (OpdL.cons (q 33) OpdL.nil))) rfl (c (ov (.ptr 1001 3 [1]) (fp hN Try.underlying37 3 tyS3 _ (q 1))) rfl (c (lb hN 37 _ _ tyS3 (ad _) (q 35)) rfl (c (OpJ.coe (v := (.st [(.d (e_api_Addr r6)), (i6 (w64 (a0.fLen + (1 : Int))))])) (y := (.st [(e_api_Addr r6), (.int .i64 (w64 (a0.fLen + (1 : Int))))])) (Co.st (CoL.cons (Co.d _) (CoL.cons (Co.d _) CoL.nil))) rfl (OpJ.build (places := [(0, 3), (3, 1)]) ⟨Try.underlying37, fun w => by kernel_rfl⟩ tyZS37 (Opds.cons (q 34) (Opds.cons (q 36) Opds.nil)) (by kernel_rfl) (r := (.st [(.d (e_api_Addr r6)), (i6 (w64 (a0.fLen + (1 : Int))))])) (by rfl) (L rfl))) rfl (cg (OpJ.alloc hB tyZ37 (nm := 1005) (by decide) (L rfl)) rfl (cg (OpJ.storeB tyS37 (SetAt.here _ _) (by rfl) (by rfl) (by simp) rfl (q 5) (q 37)) rfl cn))))))))))))))) (by kernel_rfl) (by kernel_rfl) ?_
      refine gh [(1, _), (2, _), (3, _), (5, _)] [(1001, some _), (1002, some _), (1003, some _), (1005, some _)] hB rfl rfl (by rfl) ?_
      refine sd (c (lb hN 37 _ _ tyS37 (At.here _) (q 1)) rfl (c (lb hN 37 _ _ tyS37 (At.here _) (q 5)) rfl (cg (OpJ.storeB tyS37 (SetAt.here _ _) (by rfl) (by rfl) (by simp) rfl (q 2) (q 38)) rfl (cg (OpJ.storeB tyS37 (SetAt.here _ _) (by rfl) (by rfl) (by simp) rfl (q 3) (q 39)) rfl (c (OpJ.assign (L rfl) (Opd.int .i64 (0))) rfl cn))))) (by kernel_rfl) (by kernel_rfl) ?_
      refine gh [(2, _), (3, _), (4, _)] [(1002, some _), (1003, some _)] hB rfl rfl (by rfl) ?_
      refine AWp.ret ?_
      obtain rfl := Option.some.inj h
      exact ⟨.inl rfl, _, _, (kp [(2, _), (3, _), (4, _)] [(1002, some _), (1003, some _)] hB rfl rfl (by rfl)), [(.d (.st [(e_api_Addr a0.fAddr), (.int .i64 (w64 (a0.fLen + (1 : Int))))])), (.d (.st [(e_api_Addr r6), (.int .i64 (w64 (a0.fLen + (1 : Int))))])), (i6 0)], (Res.cell (c := (.d (.st [(e_api_Addr a0.fAddr), (.int .i64 (w64 (a0.fLen + (1 : Int))))]))) (by rfl) (by rfl) tyS37 (by rfl) (by rfl) (by rfl) (Res.cell (c := (.d (.st [(e_api_Addr r6), (.int .i64 (w64 (a0.fLen + (1 : Int))))]))) (by rfl) (by rfl) tyS37 (by rfl) (by rfl) (by rfl) (Res.tmp (by rfl) (by rfl) Res.nil))), rfl, by rfl, by rfl, by rfl⟩

noncomputable def table_join_L0 (a1 : Int) (s2 : (List (api_Prefix × Int))) (q3 : api_Prefix × Int) : Option ((List (api_Prefix × Int))) :=
  jn (fun m27 : Bool =>
  (if m27 = true then
  some s2
  else
  (prefix_Make q3.1.fAddr (w64 (a1 - (1 : Int)))).bind fun r30 =>
  (prefix_Halves r30.1).bind fun r31 =>
  (if ((mget keq37 s2 r31.2.1).isSome && (((mget keq37 s2 r31.2.1).getD (0 : Int)) == q3.2)) = true then
  some (mput keq37 (mdel keq37 (mdel keq37 s2 q3.1) r31.2.1) r30.1 q3.2)
  else
  some s2))) (fun j28 =>
  (if (q3.1.fLen != a1) = true then
  j28 true
  else
  (prefix_Bit q3.1.fAddr (w64 (a1 - (1 : Int)))).bind fun r34 =>
  j28 (r34 != (0 : Int))))
noncomputable def table_join (a0 : (List (api_Prefix × Int))) (a1 : Int) : Option ((List (api_Prefix × Int))) :=
  (ext67_maps_Clone a0).bind fun r1 =>
  mapAll r1 fun p35 => (foldS (table_join_L0 a1) a0 p35).bind fun s36 =>
  some (mcan s36)
set_option maxHeartbeats 4000000 in
set_option maxRecDepth 100000 in
theorem table_join_ac (a0 : (List (api_Prefix × Int))) (a1 : Int) (r : (List (api_Prefix × Int))) (h : table_join a0 a1 = some r) : AC Try.prog 41 [(.mref 0), (.d (.int .i64 a1))] [(0, (.blk (mapQ (mpairs e_api_Prefix (eI .i64) a0))))] (.tup []) [(0, some (.blk (mapQ (mpairs e_api_Prefix (eI .i64) r))))] := by
  refine AC.of_code2 Try.func41 rfl rfl (Nat.le_of_ble_eq_true (by rfl)) fun B hB hN => ?_
  have L {d : Nat} (h : Nat.blt d Try.f41.ntmps = true) : d < B.N := ltN hN h
  delta table_join at h
  refine AWp.seq ?_
  obtain ⟨r1, hr1, h⟩ := bindS h
  refine AWp.region (oc (mv hN (ot 0 (.mref 0)))
  (oc (OpJ.callFn hB fnOk67 (ext67_maps_Clone_ac a0 r1 hr1) [(0, 0), (900000, 100000)] (by kernel_rfl) (L rfl) (by kernel_rfl) (OpdL.cons (ot 13 (.mref 0)) OpdL.nil))
  (oc (OpJ.mrangeQ hB tyU68 (it := 1015) (by decide) (by decide) (L rfl) (ot 14 (.mref 100000)))
  (OpJs.nil)))) (by rfl) (by rfl) ?_
  refine seqQ_n ?_
  refine AWp.ghost (mp [] [(0, (.mref 0)), (1, (i6 a1)), (15, (.ptr 1015 0 []))] [(0, some (.blk (mapQ (mpairs e_api_Prefix (eI .i64) a0)))), (1015, some (.blk (iterQ (mpairs e_api_Prefix (eI .i64) r1))))] hB) ?_
  refine AWp.block ?_
  have hA37 := mapAll_some h
  refine AWp.ghost (mp [] ((fun s2 : (List (api_Prefix × Int)) => ([(0, (.mref 0)), (1, (i6 a1)), (15, (.ptr 1015 0 []))] : EL)) a0) ((1015, some (.blk (iterQ (mpairs e_api_Prefix (eI .i64) r1)))) :: (fun s2 : (List (api_Prefix × Int)) => ([(0, some (.blk (mapQ (mpairs e_api_Prefix (eI .i64) s2))))] : OL)) a0) hB) ?_
  refine AWp.loopMQ (t7 := 15) (it := 1015) (fun p : api_Prefix × Int => (e_api_Prefix p.1, (eI .i64) p.2)) r1 (table_join_L0 a1) (fun s2 : (List (api_Prefix × Int)) => ([(0, (.mref 0)), (1, (i6 a1)), (15, (.ptr 1015 0 []))] : EL)) (fun s2 : (List (api_Prefix × Int)) => ([(0, some (.blk (mapQ (mpairs e_api_Prefix (eI .i64) s2))))] : OL)) (s0 := a0) (L rfl) (L rfl) (fun _ => rfl) (fun p hp => let ⟨s, hs, _⟩ := bindS (hA37 p hp); ⟨s, hs⟩) (fun s2 q3 s' l4 h => ?_) (fun p35 s36 hp hs => ?_)
  · unfold table_join_L0 at h
    refine AWp.block ?_
    refine sr (cg (OpJ.mentry (q := (e_api_Prefix q3.1, (eI .i64) q3.2)) (L rfl) (q 15)) rfl (c (OpJ.extract (by rfl) rfl (L rfl) (q 18)) rfl (c (OpJ.extract (by rfl) rfl (L rfl) (q 18)) rfl (cg (OpJ.alloc hB tyZ37 (nm := 1004) (by decide) (L rfl)) rfl (cg (OpJ.storeB tyS37 (SetAt.here _ _) (by rfl) (by rfl) (by simp) rfl (q 4) (q 19)) rfl (c (OpJ.assign (L rfl) (q 20)) rfl cn)))))) ?_
    refine gh [(0, _), (1, _), (4, _), (5, _), (15, _)] [(0, some _), (1004, some _), (1015, some _)] hB rfl rfl (by rfl) ?_
    refine AWp.seq ?_
    refine AWp.seq ?_
    refine AWp.cut h (fun m27 : Bool => ([(0, (.mref 0)), (1, (i6 a1)), (4, (.ptr 1004 0 [])), (5, (i6 q3.2)), (15, (.ptr 1015 0 [])), (32, (bo m27))] : EL)) (fun m27 : Bool => ([(0, some (.blk (mapQ (mpairs e_api_Prefix (eI .i64) s2)))), (1004, some (.box 37 (.d (e_api_Prefix q3.1)))), (1015, some (.blk (iterB (mpairs e_api_Prefix (eI .i64) l4) (some (e_api_Prefix q3.1, (eI .i64) q3.2)))))] : OL)) (fun m27 h E' O' hmat => ?_) (fun j28 hjj28 h => ?_)
    · refine seqQ_n ?_
      refine AWp.ghost hmat ?_
      refine AWp.cond rfl (fun hg29 => ?_) (fun hg29 => ?_)
      · replace h := ite_t hg29 h
        refine AWp.exit ?_
        refine seqQ_e ?_
        refine blkQ_hit ?_
        obtain rfl := Option.some.inj h
        exact ⟨rfl, (mp [] _ _ hB)⟩
      · replace h := ite_f hg29 h
        refine AWp.skip ?_
        refine seqQ_n ?_
        obtain ⟨r30, hr30, h⟩ := bindS h
        refine sr (c (ov (.ptr 1004 0 [0]) (fp hN Try.underlying37 0 tyS33 _ (q 4))) rfl (c (lb hN 37 _ _ tyS33 (ad _) (q 34)) rfl (c (mv hN (q 1)) rfl (c (sub6 (L rfl) (q 36) (Opd.int .i64 (1))) rfl (cg (OpJ.callFn hB fnOk69 (prefix_Make_ac q3.1.fAddr (w64 (a1 - (1 : Int))) r30 hr30) [] (by kernel_rfl) (L rfl) (by kernel_rfl) (OpdL.cons (q 35) (OpdL.cons (q 37) OpdL.nil))) rfl (c (mv hN (q 38)) rfl (c (OpJ.extract (by rfl) rfl (L rfl) (q 33)) rfl (c (OpJ.extract (by rfl) rfl (L rfl) (q 33)) rfl (cg (OpJ.alloc hB tyZ37 (nm := 1006) (by decide) (L rfl)) rfl (cg (OpJ.storeB tyS37 (SetAt.here _ _) (by rfl) (by rfl) (by simp) rfl (q 6) (q 39)) rfl (c (OpJ.assign (L rfl) (q 40)) rfl cn))))))))))) ?_
        refine gh [(0, _), (1, _), (4, _), (5, _), (6, _), (15, _)] [(0, some _), (1004, some _), (1006, some _), (1015, some _)] hB rfl rfl (by rfl) ?_
        obtain ⟨r31, hr31, h⟩ := bindS h
        refine sr (c (lb hN 37 _ _ tyS37 (At.here _) (q 6)) rfl (cg (OpJ.callFn hB fnOk70 (prefix_Halves_ac r30.1 r31 hr31) [] (by kernel_rfl) (L rfl) (by kernel_rfl) (OpdL.cons (q 42) OpdL.nil)) rfl (c (mv hN (q 43)) rfl (c (OpJ.extract (by rfl) rfl (L rfl) (q 41)) rfl (c (OpJ.extract (by rfl) rfl (L rfl) (q 41)) rfl (c (OpJ.extract (by rfl) rfl (L rfl) (q 41)) rfl (cg (OpJ.alloc hB tyZ37 (nm := 1008) (by decide) (L rfl)) rfl (cg (OpJ.alloc hB tyZ37 (nm := 1009) (by decide) (L rfl)) rfl (cg (OpJ.storeB tyS37 (SetAt.here _ _) (by rfl) (by rfl) (by simp) rfl (q 8) (q 44)) rfl (cg (OpJ.storeB tyS37 (SetAt.here _ _) (by rfl) (by rfl) (by simp) rfl (q 9) (q 45)) rfl (c (OpJ.assign (L rfl) (q 46)) rfl cn))))))))))) ?_
        refine gh [(0, _), (1, _), (4, _), (5, _), (6, _), (9, _), (15, _)] [(0, some _), (1004, some _), (1006, some _), (1009, some _), (1015, some _)] hB rfl rfl (by rfl) ?_
        refine sr (c (mv hN (q 0)) rfl (c (lb hN 37 _ _ tyS37 (At.here _) (q 9)) rfl (cg (OpJ.mlook2Q (g := (eI .i64)) (l := s2) (k := r31.2.1) tyU68 Try.underlying37 keyEq37 (z := (0 : Int)) tyZD3 (L rfl) (q 48) (q 49)) rfl (c (mv hN (q 50)) rfl (c (OpJ.extract (by rfl) rfl (L rfl) (q 47)) rfl (c (OpJ.extract (by rfl) rfl (L rfl) (q 47)) rfl (c (OpJ.assign (L rfl) (q 51)) rfl (c (OpJ.assign (L rfl) (q 52)) rfl cn)))))))) ?_
        refine gh [(0, _), (1, _), (4, _), (5, _), (6, _), (9, _), (11, _), (12, _), (15, _)] [(0, some _), (1004, some _), (1006, some _), (1009, some _), (1015, some _)] hB rfl rfl (by rfl) ?_
        refine sr (c (mv hN (q 12)) rfl (c (mv hN (q 53)) rfl (c (oq hN 54 (mv hN (q 11)) (OptL.keep (by rfl) OptL.nil) (GuardV.plain _)) rfl (c (oq hN 54 (mv hN (q 5)) (OptL.keep (by rfl) OptL.nil) (GuardV.plain _)) rfl (c (oq hN 54 (OpJ.eqlI (L rfl) (q 55) (q 56)) (OptL.opt (OptL.opt OptL.nil)) (GuardV.plain _)) rfl (c (OpJ.pickAnd rfl (L rfl) (q 54) (q 57)) rfl cn)))))) ?_
        refine gh [(0, _), (1, _), (4, _), (5, _), (6, _), (9, _), (15, _), (58, _)] [(0, some _), (1004, some _), (1006, some _), (1009, some _), (1015, some _)] hB rfl rfl (by rfl) ?_
        refine AWp.cond rfl (fun hg32 => ?_) (fun hg32 => ?_)
        · replace h := ite_t hg32 h
          refine sr (c (mv hN (q 0)) rfl (c (lb hN 37 _ _ tyS37 (At.here _) (q 4)) rfl (cg (OpJ.mdelQ (g := (eI .i64)) (l := s2) (k := q3.1) rfl tyU68 Try.underlying37 keyEq37 (q 59) (q 60)) rfl cn))) ?_
          refine gh [(0, _), (1, _), (5, _), (6, _), (9, _), (15, _)] [(0, some _), (1006, some _), (1009, some _), (1015, some _)] hB rfl rfl (by rfl) ?_
          refine sr (c (mv hN (q 0)) rfl (c (lb hN 37 _ _ tyS37 (At.here _) (q 9)) rfl (cg (OpJ.mdelQ (g := (eI .i64)) (l := (mdel keq37 s2 q3.1)) (k := r31.2.1) rfl tyU68 Try.underlying37 keyEq37 (q 61) (q 62)) rfl cn))) ?_
          refine gh [(0, _), (1, _), (5, _), (6, _), (15, _)] [(0, some _), (1006, some _), (1015, some _)] hB rfl rfl (by rfl) ?_
          refine rg (c (mv hN (q 0)) rfl (c (lb hN 37 _ _ tyS37 (At.here _) (q 6)) rfl (c (mv hN (q 5)) rfl (cg (OpJ.mputQ (g := (eI .i64)) (v := q3.2) (l := (mdel keq37 (mdel keq37 s2 q3.1) r31.2.1)) (k := r30.1) tyU68 Try.underlying37 keyEq37 (q 63) (q 64) (q 65)) rfl cn)))) ?_
          refine blkQ_n ?_
          obtain rfl := Option.some.inj h
          exact ⟨rfl, (Mat.trans (mp [] [(0, (.mref 0)), (1, (i6 a1)), (15, (.ptr 1015 0 []))] [(0, some (.blk (mapQ (mpairs e_api_Prefix (eI .i64) (mput keq37 (mdel keq37 (mdel keq37 s2 q3.1) r31.2.1) r30.1 q3.2))))), (1015, some (.blk (iterB (mpairs e_api_Prefix (eI .i64) l4) (some (e_api_Prefix q3.1, (eI .i64) q3.2)))))] hB) (mp [] _ _ hB))⟩
        · replace h := ite_f hg32 h
          refine AWp.skip ?_
          refine blkQ_n ?_
          obtain rfl := Option.some.inj h
          exact ⟨rfl, (mp [] _ _ hB)⟩
    · rcases Bool.eq_false_or_eq_true (q3.1.fLen != a1) with hg33 | hg33
      · replace h := ite_t hg33 h
        refine rg (c (ov (.ptr 1004 3 [1]) (fp hN Try.underlying37 3 tyS3 _ (q 4))) rfl (c (lb hN 37 _ _ tyS3 (ad _) (q 21)) rfl (c (mv hN (q 1)) rfl (c (OpJ.neqI (L rfl) (q 22) (q 23)) rfl (c (OpJ.val (v' := .d (.bool true)) (by rw [hg33]) (mv hN (q 24))) rfl (cg (OpJ.skipU (g := 25) (L rfl) (by rfl)) rfl (cg (OpJ.skipU (g := 25) (L rfl) (by rfl)) rfl (cg (OpJ.skipU (g := 25) (L rfl) (by rfl)) rfl (cg (OpJ.skipU (g := 25) (L rfl) (by rfl)) rfl (cg (OpJ.skipU (g := 25) (L rfl) (by rfl)) rfl (cg (OpJ.skipU (g := 25) (L rfl) (by rfl)) rfl (c (OpJ.pickT (L rfl) (q 25) (Opd.bool true)) rfl cn)))))))))))) ?_
        exact hjj28 _ h _ _ (Mat.trans (mp [] [(0, (.mref 0)), (1, (i6 a1)), (4, (.ptr 1004 0 [])), (5, (i6 q3.2)), (15, (.ptr 1015 0 [])), (32, (bo true))] [(0, some (.blk (mapQ (mpairs e_api_Prefix (eI .i64) s2)))), (1004, some (.box 37 (.d (e_api_Prefix q3.1)))), (1015, some (.blk (iterB (mpairs e_api_Prefix (eI .i64) l4) (some (e_api_Prefix q3.1, (eI .i64) q3.2)))))] hB) (mp [] _ _ hB))
      · replace h := ite_f hg33 h
        obtain ⟨r34, hr34, h⟩ := bindS h
        refine rg (c (ov (.ptr 1004 3 [1]) (fp hN Try.underlying37 3 tyS3 _ (q 4))) rfl (c (lb hN 37 _ _ tyS3 (ad _) (q 21)) rfl (c (mv hN (q 1)) rfl (c (OpJ.neqI (L rfl) (q 22) (q 23)) rfl (c (OpJ.val (v' := .d (.bool false)) (by rw [hg33]) (mv hN (q 24))) rfl (c (OpJ.guarded (g := 25) (by rfl) (ov (.ptr 1004 0 [0]) (fp hN Try.underlying37 0 tyS33 _ (q 4)))) rfl (c (OpJ.guarded (g := 25) (by rfl) (lb hN 37 _ _ tyS33 (ad _) (q 26))) rfl (c (OpJ.guarded (g := 25) (by rfl) (mv hN (q 1))) rfl (c (OpJ.guarded (g := 25) (by rfl) (sub6 (L rfl) (q 28) (Opd.int .i64 (1)))) rfl (cg (OpJ.guarded (g := 25) (by rfl) (OpJ.callFn hB fnOk68 (prefix_Bit_ac q3.1.fAddr (w64 (a1 - (1 : Int))) r34 hr34) [] (by kernel_rfl) (L rfl) (by kernel_rfl) (OpdL.cons (q 27) (OpdL.cons (q 29) OpdL.nil)))) rfl (c (OpJ.guarded (g := 25) (by rfl) (OpJ.neqI (L rfl) (q 30) (Opd.int .i64 (0)))) rfl (c (OpJ.pickF (L rfl) (q 25) (q 31)) rfl cn)))))))))))) ?_
        exact hjj28 _ h _ _ (Mat.trans (mp [] [(0, (.mref 0)), (1, (i6 a1)), (4, (.ptr 1004 0 [])), (5, (i6 q3.2)), (15, (.ptr 1015 0 [])), (32, (bo (r34 != (0 : Int))))] [(0, some (.blk (mapQ (mpairs e_api_Prefix (eI .i64) s2)))), (1004, some (.box 37 (.d (e_api_Prefix q3.1)))), (1015, some (.blk (iterB (mpairs e_api_Prefix (eI .i64) l4) (some (e_api_Prefix q3.1, (eI .i64) q3.2)))))] hB) (mp [] _ _ hB))
  · replace h := bind_fin (hA37 p35 hp) hs
    refine blkQ_hit ?_
    obtain rfl := Option.some.inj h
    exact ⟨.inr rfl, _, _, (Mat.trans (Mat.trans (mp [] [(0, (.mref 0)), (1, (i6 a1)), (17, (bo false))] [(0, some (.blk (mapQ (mpairs e_api_Prefix (eI .i64) s36))))] hB) (Mat.trans (Mat.canonP (n := 0) (l := s36) (by rfl) rfl) (mp [] [(0, (.mref 0)), (1, (i6 a1)), (17, (bo false))] [(0, some (.blk (mapQ (mpairs e_api_Prefix (eI .i64) (mcan s36)))))] hB))) (mp [] [] [(0, some (.blk (mapQ (mpairs e_api_Prefix (eI .i64) (mcan s36)))))] hB)), [], Res.nil, rfl, by rfl, by rfl, by rfl⟩

noncomputable def addr_family (a0 : api_Addr) : Option (Int) :=
  (if a0.fV6 = true then
  some (1 : Int)
  else
  some (0 : Int))
set_option maxHeartbeats 4000000 in
set_option maxRecDepth 100000 in
theorem addr_family_ac (a0 : api_Addr) (r : Int) (h : addr_family a0 = some r) : AC Try.prog 96 [(.d (e_api_Addr a0))] [] (.d (.int .i64 r)) [] := by
  refine AC.of_code2 Try.func96 rfl rfl (Nat.le_of_ble_eq_true (by rfl)) fun B hB hN => ?_
  delta addr_family at h
  refine sr (cg (OpJ.box hB (nm := 1001) (by decide) (by simp) rfl (ltN hN rfl) (q 0)) rfl (c (OpJ.assign (ltN hN rfl) (Opd.int .i64 (0))) rfl cn)) ?_
  refine gh [(1, _)] [(1001, some _)] hB rfl rfl (by rfl) ?_
  refine AWp.seq ?_
  refine sr (c (ov (.ptr 1001 0 [0]) (fp hN Try.underlying33 0 tyS4 _ (q 1))) rfl (c (lb hN 33 _ _ tyS4 (ad _) (q 3)) rfl cn)) ?_
  refine gh [(4, _)] [] hB rfl rfl (by rfl) ?_
  refine AWp.cond rfl (fun hg1 => ?_) (fun hg1 => ?_)
  · replace h := ite_t hg1 h
    refine sr (c (OpJ.assign (ltN hN rfl) (Opd.int .i64 (1))) rfl cn) ?_
    refine gh [(2, _)] [] hB rfl rfl (by rfl) ?_
    refine AWp.ret ?_
    refine seqQ_r ?_
    obtain rfl := Option.some.inj h
    exact ⟨.inl rfl, _, _, (kp [(2, _)] [] hB rfl rfl (by rfl)), [(i6 1)], (Res.tmp (by rfl) (by rfl) Res.nil), rfl, by rfl, by rfl, by rfl⟩
  · replace h := ite_f hg1 h
    refine AWp.skip ?_
    refine seqQ_n ?_
    refine sr (c (OpJ.assign (ltN hN rfl) (Opd.int .i64 (0))) rfl cn) ?_
    refine gh [(2, _)] [] hB rfl rfl (by rfl) ?_
    refine AWp.ret ?_
    obtain rfl := Option.some.inj h
    exact ⟨.inl rfl, _, _, (kp [(2, _)] [] hB rfl rfl (by rfl)), [(i6 0)], (Res.tmp (by rfl) (by rfl) Res.nil), rfl, by rfl, by rfl, by rfl⟩

noncomputable def cmp_isNaN (a0 : Int) : Option (Bool) :=
  some (a0 != a0)
set_option maxHeartbeats 4000000 in
set_option maxRecDepth 100000 in
theorem cmp_isNaN_ac (a0 : Int) (r : Bool) (h : cmp_isNaN a0 = some r) : AC Try.prog 98 [(.d (.int .i64 a0))] [] (.d (.bool r)) [] := by
  refine AC.of_code2 Try.func98 rfl rfl (Nat.le_of_ble_eq_true (by rfl)) fun B hB hN => ?_
  delta cmp_isNaN at h
  refine sr (c (OpJ.assign (ltN hN rfl) (Opd.bool false)) rfl cn) ?_
  refine gh [(0, _)] [] hB rfl rfl (by rfl) ?_
  refine sr (c (mv hN (q 0)) rfl (c (mv hN (q 0)) rfl (c (OpJ.neqI (ltN hN rfl) (q 3) (q 4)) rfl (c (OpJ.assign (ltN hN rfl) (q 5)) rfl cn)))) ?_
  refine gh [(2, _)] [] hB rfl rfl (by rfl) ?_
  refine AWp.ret ?_
  obtain rfl := Option.some.inj h
  exact ⟨.inl rfl, _, _, (kp [(2, _)] [] hB rfl rfl (by rfl)), [(bo (a0 != a0))], (Res.tmp (by rfl) (by rfl) Res.nil), rfl, by rfl, by rfl, by rfl⟩

noncomputable def cmp_Compare (a0 : Int) (a1 : Int) : Option (Int) :=
  (cmp_isNaN a0).bind fun r1 =>
  (cmp_isNaN a1).bind fun r2 =>
  (if r1 = true then
  (if r2 = true then
  some (0 : Int)
  else
  some (-1 : Int))
  else
  (if r2 = true then
  some (1 : Int)
  else
  (if (decide (a0 < a1)) = true then
  some (-1 : Int)
  else
  (if (decide (a1 < a0)) = true then
  some (1 : Int)
  else
  some (0 : Int)))))
set_option maxHeartbeats 4000000 in
set_option maxRecDepth 100000 in
theorem cmp_Compare_ac (a0 : Int) (a1 : Int) (r : Int) (h : cmp_Compare a0 a1 = some r) : AC Try.prog 75 [(.d (.int .i64 a0)), (.d (.int .i64 a1))] [] (.d (.int .i64 r)) [] := by
  refine AC.of_code2 Try.func75 rfl rfl (Nat.le_of_ble_eq_true (by rfl)) fun B hB hN => ?_
  have L {d : Nat} (h : Nat.blt d Try.f75.ntmps = true) : d < B.N := ltN hN h
  delta cmp_Compare at h
  refine sr (c (OpJ.assign (L rfl) (Opd.int .i64 (0))) rfl cn) ?_
  refine gh [(0, _), (1, _)] [] hB rfl rfl (by rfl) ?_
  obtain ⟨r1, hr1, h⟩ := bindS h
  refine sr (c (mv hN (q 0)) rfl (cg (OpJ.callFn hB fnOk98 (cmp_isNaN_ac a0 r1 hr1) [] (by kernel_rfl) (L rfl) (by kernel_rfl) (OpdL.cons (q 7) OpdL.nil)) rfl (c (OpJ.assign (L rfl) (q 8)) rfl cn))) ?_
  refine gh [(0, _), (1, _), (5, _)] [] hB rfl rfl (by rfl) ?_
  obtain ⟨r2, hr2, h⟩ := bindS h
  refine sr (c (mv hN (q 1)) rfl (cg (OpJ.callFn hB fnOk98 (cmp_isNaN_ac a1 r2 hr2) [] (by kernel_rfl) (L rfl) (by kernel_rfl) (OpdL.cons (q 9) OpdL.nil)) rfl (c (OpJ.assign (L rfl) (q 10)) rfl cn))) ?_
  refine gh [(0, _), (1, _), (5, _), (6, _)] [] hB rfl rfl (by rfl) ?_
  refine AWp.seq ?_
  refine sr (c (mv hN (q 5)) rfl cn) ?_
  refine gh [(0, _), (1, _), (6, _), (11, _)] [] hB rfl rfl (by rfl) ?_
  refine AWp.cond rfl (fun hg3 => ?_) (fun hg3 => ?_)
  · replace h := ite_t hg3 h
    refine AWp.seq ?_
    refine sr (c (mv hN (q 6)) rfl cn) ?_
    refine gh [(12, _)] [] hB rfl rfl (by rfl) ?_
    refine AWp.cond rfl (fun hg4 => ?_) (fun hg4 => ?_)
    · replace h := ite_t hg4 h
      refine sr (c (OpJ.assign (L rfl) (Opd.int .i64 (0))) rfl cn) ?_
      refine gh [(4, _)] [] hB rfl rfl (by rfl) ?_
      refine AWp.ret ?_
      refine seqQ_r ?_
      refine seqQ_r ?_
      obtain rfl := Option.some.inj h
      exact ⟨.inl rfl, _, _, (kp [(4, _)] [] hB rfl rfl (by rfl)), [(i6 0)], (Res.tmp (by rfl) (by rfl) Res.nil), rfl, by rfl, by rfl, by rfl⟩
    · replace h := ite_f hg4 h
      refine AWp.skip ?_
      refine seqQ_n ?_
      refine sr (c (OpJ.assign (L rfl) (Opd.int .i64 (-1))) rfl cn) ?_
      refine gh [(4, _)] [] hB rfl rfl (by rfl) ?_
      refine AWp.ret ?_
      refine seqQ_r ?_
      obtain rfl := Option.some.inj h
      exact ⟨.inl rfl, _, _, (kp [(4, _)] [] hB rfl rfl (by rfl)), [(i6 (-1 : Int))], (Res.tmp (by rfl) (by rfl) Res.nil), rfl, by rfl, by rfl, by rfl⟩
  · replace h := ite_f hg3 h
    refine AWp.skip ?_
    refine seqQ_n ?_
    refine AWp.seq ?_
    refine sr (c (mv hN (q 6)) rfl cn) ?_
    refine gh [(0, _), (1, _), (13, _)] [] hB rfl rfl (by rfl) ?_
    refine AWp.cond rfl (fun hg5 => ?_) (fun hg5 => ?_)
    · replace h := ite_t hg5 h
      refine sr (c (OpJ.assign (L rfl) (Opd.int .i64 (1))) rfl cn) ?_
      refine gh [(4, _)] [] hB rfl rfl (by rfl) ?_
      refine AWp.ret ?_
      refine seqQ_r ?_
      obtain rfl := Option.some.inj h
      exact ⟨.inl rfl, _, _, (kp [(4, _)] [] hB rfl rfl (by rfl)), [(i6 1)], (Res.tmp (by rfl) (by rfl) Res.nil), rfl, by rfl, by rfl, by rfl⟩
    · replace h := ite_f hg5 h
      refine AWp.skip ?_
      refine seqQ_n ?_
      refine AWp.seq ?_
      refine sr (c (mv hN (q 0)) rfl (c (mv hN (q 1)) rfl (c (OpJ.lss (L rfl) (q 14) (q 15)) rfl cn))) ?_
      refine gh [(0, _), (1, _), (16, _)] [] hB rfl rfl (by rfl) ?_
      refine AWp.cond rfl (fun hg6 => ?_) (fun hg6 => ?_)
      · replace h := ite_t hg6 h
        refine sr (c (OpJ.assign (L rfl) (Opd.int .i64 (-1))) rfl cn) ?_
        refine gh [(4, _)] [] hB rfl rfl (by rfl) ?_
        refine AWp.ret ?_
        refine seqQ_r ?_
        obtain rfl := Option.some.inj h
        exact ⟨.inl rfl, _, _, (kp [(4, _)] [] hB rfl rfl (by rfl)), [(i6 (-1 : Int))], (Res.tmp (by rfl) (by rfl) Res.nil), rfl, by rfl, by rfl, by rfl⟩
      · replace h := ite_f hg6 h
        refine AWp.skip ?_
        refine seqQ_n ?_
        refine AWp.seq ?_
        refine sr (c (mv hN (q 0)) rfl (c (mv hN (q 1)) rfl (c (OpJ.gtr (L rfl) (q 17) (q 18)) rfl cn))) ?_
        refine gh [(19, _)] [] hB rfl rfl (by rfl) ?_
        refine AWp.cond rfl (fun hg7 => ?_) (fun hg7 => ?_)
        · replace h := ite_t hg7 h
          refine sr (c (OpJ.assign (L rfl) (Opd.int .i64 (1))) rfl cn) ?_
          refine gh [(4, _)] [] hB rfl rfl (by rfl) ?_
          refine AWp.ret ?_
          refine seqQ_r ?_
          obtain rfl := Option.some.inj h
          exact ⟨.inl rfl, _, _, (kp [(4, _)] [] hB rfl rfl (by rfl)), [(i6 1)], (Res.tmp (by rfl) (by rfl) Res.nil), rfl, by rfl, by rfl, by rfl⟩
        · replace h := ite_f hg7 h
          refine AWp.skip ?_
          refine seqQ_n ?_
          refine sr (c (OpJ.assign (L rfl) (Opd.int .i64 (0))) rfl cn) ?_
          refine gh [(4, _)] [] hB rfl rfl (by rfl) ?_
          refine AWp.ret ?_
          obtain rfl := Option.some.inj h
          exact ⟨.inl rfl, _, _, (kp [(4, _)] [] hB rfl rfl (by rfl)), [(i6 0)], (Res.tmp (by rfl) (by rfl) Res.nil), rfl, by rfl, by rfl, by rfl⟩

noncomputable def cmp_isNaN_2 (a0 : Int) : Option (Bool) :=
  some (a0 != a0)
set_option maxHeartbeats 4000000 in
set_option maxRecDepth 100000 in
theorem cmp_isNaN_2_ac (a0 : Int) (r : Bool) (h : cmp_isNaN_2 a0 = some r) : AC Try.prog 106 [(.d (.int .u64 a0))] [] (.d (.bool r)) [] := by
  refine AC.of_code2 Try.func106 rfl rfl (Nat.le_of_ble_eq_true (by rfl)) fun B hB hN => ?_
  delta cmp_isNaN_2 at h
  refine sr (c (OpJ.assign (ltN hN rfl) (Opd.bool false)) rfl cn) ?_
  refine gh [(0, _)] [] hB rfl rfl (by rfl) ?_
  refine sr (c (mv hN (q 0)) rfl (c (mv hN (q 0)) rfl (c (OpJ.neqI (ltN hN rfl) (q 3) (q 4)) rfl (c (OpJ.assign (ltN hN rfl) (q 5)) rfl cn)))) ?_
  refine gh [(2, _)] [] hB rfl rfl (by rfl) ?_
  refine AWp.ret ?_
  obtain rfl := Option.some.inj h
  exact ⟨.inl rfl, _, _, (kp [(2, _)] [] hB rfl rfl (by rfl)), [(bo (a0 != a0))], (Res.tmp (by rfl) (by rfl) Res.nil), rfl, by rfl, by rfl, by rfl⟩

noncomputable def cmp_Compare_2 (a0 : Int) (a1 : Int) : Option (Int) :=
  (cmp_isNaN_2 a0).bind fun r1 =>
  (cmp_isNaN_2 a1).bind fun r2 =>
  (if r1 = true then
  (if r2 = true then
  some (0 : Int)
  else
  some (-1 : Int))
  else
  (if r2 = true then
  some (1 : Int)
  else
  (if (decide (a0 < a1)) = true then
  some (-1 : Int)
  else
  (if (decide (a1 < a0)) = true then
  some (1 : Int)
  else
  some (0 : Int)))))
set_option maxHeartbeats 4000000 in
set_option maxRecDepth 100000 in
theorem cmp_Compare_2_ac (a0 : Int) (a1 : Int) (r : Int) (h : cmp_Compare_2 a0 a1 = some r) : AC Try.prog 97 [(.d (.int .u64 a0)), (.d (.int .u64 a1))] [] (.d (.int .i64 r)) [] := by
  refine AC.of_code2 Try.func97 rfl rfl (Nat.le_of_ble_eq_true (by rfl)) fun B hB hN => ?_
  have L {d : Nat} (h : Nat.blt d Try.f97.ntmps = true) : d < B.N := ltN hN h
  delta cmp_Compare_2 at h
  refine sr (c (OpJ.assign (L rfl) (Opd.int .i64 (0))) rfl cn) ?_
  refine gh [(0, _), (1, _)] [] hB rfl rfl (by rfl) ?_
  obtain ⟨r1, hr1, h⟩ := bindS h
  refine sr (c (mv hN (q 0)) rfl (cg (OpJ.callFn hB fnOk106 (cmp_isNaN_2_ac a0 r1 hr1) [] (by kernel_rfl) (L rfl) (by kernel_rfl) (OpdL.cons (q 7) OpdL.nil)) rfl (c (OpJ.assign (L rfl) (q 8)) rfl cn))) ?_
  refine gh [(0, _), (1, _), (5, _)] [] hB rfl rfl (by rfl) ?_
  obtain ⟨r2, hr2, h⟩ := bindS h
  refine sr (c (mv hN (q 1)) rfl (cg (OpJ.callFn hB fnOk106 (cmp_isNaN_2_ac a1 r2 hr2) [] (by kernel_rfl) (L rfl) (by kernel_rfl) (OpdL.cons (q 9) OpdL.nil)) rfl (c (OpJ.assign (L rfl) (q 10)) rfl cn))) ?_
  refine gh [(0, _), (1, _), (5, _), (6, _)] [] hB rfl rfl (by rfl) ?_
  refine AWp.seq ?_
  refine sr (c (mv hN (q 5)) rfl cn) ?_
  refine gh [(0, _), (1, _), (6, _), (11, _)] [] hB rfl rfl (by rfl) ?_
  refine AWp.cond rfl (fun hg3 => ?_) (fun hg3 => ?_)
  · replace h := ite_t hg3 h
    refine AWp.seq ?_
    refine sr (c (mv hN (q 6)) rfl cn) ?_
    refine gh [(12, _)] [] hB rfl rfl (by rfl) ?_
    refine AWp.cond rfl (fun hg4 => ?_) (fun hg4 => ?_)
    · replace h := ite_t hg4 h
      refine sr (c (OpJ.assign (L rfl) (Opd.int .i64 (0))) rfl cn) ?_
      refine gh [(4, _)] [] hB rfl rfl (by rfl) ?_
      refine AWp.ret ?_
      refine seqQ_r ?_
      refine seqQ_r ?_
      obtain rfl := Option.some.inj h
      exact ⟨.inl rfl, _, _, (kp [(4, _)] [] hB rfl rfl (by rfl)), [(i6 0)], (Res.tmp (by rfl) (by rfl) Res.nil), rfl, by rfl, by rfl, by rfl⟩
    · replace h := ite_f hg4 h
      refine AWp.skip ?_
      refine seqQ_n ?_
      refine sr (c (OpJ.assign (L rfl) (Opd.int .i64 (-1))) rfl cn) ?_
      refine gh [(4, _)] [] hB rfl rfl (by rfl) ?_
      refine AWp.ret ?_
      refine seqQ_r ?_
      obtain rfl := Option.some.inj h
      exact ⟨.inl rfl, _, _, (kp [(4, _)] [] hB rfl rfl (by rfl)), [(i6 (-1 : Int))], (Res.tmp (by rfl) (by rfl) Res.nil), rfl, by rfl, by rfl, by rfl⟩
  · replace h := ite_f hg3 h
    refine AWp.skip ?_
    refine seqQ_n ?_
    refine AWp.seq ?_
    refine sr (c (mv hN (q 6)) rfl cn) ?_
    refine gh [(0, _), (1, _), (13, _)] [] hB rfl rfl (by rfl) ?_
    refine AWp.cond rfl (fun hg5 => ?_) (fun hg5 => ?_)
    · replace h := ite_t hg5 h
      refine sr (c (OpJ.assign (L rfl) (Opd.int .i64 (1))) rfl cn) ?_
      refine gh [(4, _)] [] hB rfl rfl (by rfl) ?_
      refine AWp.ret ?_
      refine seqQ_r ?_
      obtain rfl := Option.some.inj h
      exact ⟨.inl rfl, _, _, (kp [(4, _)] [] hB rfl rfl (by rfl)), [(i6 1)], (Res.tmp (by rfl) (by rfl) Res.nil), rfl, by rfl, by rfl, by rfl⟩
    · replace h := ite_f hg5 h
      refine AWp.skip ?_
      refine seqQ_n ?_
      refine AWp.seq ?_
      refine sr (c (mv hN (q 0)) rfl (c (mv hN (q 1)) rfl (c (OpJ.lss (L rfl) (q 14) (q 15)) rfl cn))) ?_
      refine gh [(0, _), (1, _), (16, _)] [] hB rfl rfl (by rfl) ?_
      refine AWp.cond rfl (fun hg6 => ?_) (fun hg6 => ?_)
      · replace h := ite_t hg6 h
        refine sr (c (OpJ.assign (L rfl) (Opd.int .i64 (-1))) rfl cn) ?_
        refine gh [(4, _)] [] hB rfl rfl (by rfl) ?_
        refine AWp.ret ?_
        refine seqQ_r ?_
        obtain rfl := Option.some.inj h
        exact ⟨.inl rfl, _, _, (kp [(4, _)] [] hB rfl rfl (by rfl)), [(i6 (-1 : Int))], (Res.tmp (by rfl) (by rfl) Res.nil), rfl, by rfl, by rfl, by rfl⟩
      · replace h := ite_f hg6 h
        refine AWp.skip ?_
        refine seqQ_n ?_
        refine AWp.seq ?_
        refine sr (c (mv hN (q 0)) rfl (c (mv hN (q 1)) rfl (c (OpJ.gtr (L rfl) (q 17) (q 18)) rfl cn))) ?_
        refine gh [(19, _)] [] hB rfl rfl (by rfl) ?_
        refine AWp.cond rfl (fun hg7 => ?_) (fun hg7 => ?_)
        · replace h := ite_t hg7 h
          refine sr (c (OpJ.assign (L rfl) (Opd.int .i64 (1))) rfl cn) ?_
          refine gh [(4, _)] [] hB rfl rfl (by rfl) ?_
          refine AWp.ret ?_
          refine seqQ_r ?_
          obtain rfl := Option.some.inj h
          exact ⟨.inl rfl, _, _, (kp [(4, _)] [] hB rfl rfl (by rfl)), [(i6 1)], (Res.tmp (by rfl) (by rfl) Res.nil), rfl, by rfl, by rfl, by rfl⟩
        · replace h := ite_f hg7 h
          refine AWp.skip ?_
          refine seqQ_n ?_
          refine sr (c (OpJ.assign (L rfl) (Opd.int .i64 (0))) rfl cn) ?_
          refine gh [(4, _)] [] hB rfl rfl (by rfl) ?_
          refine AWp.ret ?_
          obtain rfl := Option.some.inj h
          exact ⟨.inl rfl, _, _, (kp [(4, _)] [] hB rfl rfl (by rfl)), [(i6 0)], (Res.tmp (by rfl) (by rfl) Res.nil), rfl, by rfl, by rfl, by rfl⟩

noncomputable def cmp_Or_L0 (a0 : (List Int)) (s1 : Int) : Option (((Int) ⊕ (Unit)) ⊕ (Int)) :=
  (if (decide (s1 < (a0.length : Int))) = true then
  (idx a0 s1).bind fun x11 =>
  (if (x11 != (0 : Int)) = true then
  some (.inl (.inl x11))
  else
  some (.inr (w64 (s1 + (1 : Int)))))
  else
  some (.inl (.inr ())))
noncomputable def cmp_Or (a0 : (List Int)) : Option (Int) :=
  (loop (cmp_Or_L0 a0) (0 : Int)).bind fun x13 => match x13 with
  | (.inl p8) =>
    some p8
  | (.inr _) =>
    some (0 : Int)
set_option maxHeartbeats 4000000 in
set_option maxRecDepth 100000 in
theorem cmp_Or_ac (a0 : (List Int)) (r : Int) (h : cmp_Or a0 = some r) : AC Try.prog 73 [(.d (.list 1 (a0.map (eI .i64))))] [] (.d (.int .i64 r)) [] := by
  refine AC.of_code2 Try.func73 rfl rfl (Nat.le_of_ble_eq_true (by rfl)) fun B hB hN => ?_
  delta cmp_Or at h
  refine sr (c (OpJ.assign (ltN hN rfl) (Opd.int .i64 (0))) rfl cn) ?_
  refine gh [(0, _)] [] hB rfl rfl (by rfl) ?_
  refine sr (c (OpJ.assign (ltN hN rfl) (Opd.int .i64 (0))) rfl cn) ?_
  refine gh [(0, _), (3, _)] [] hB rfl rfl (by rfl) ?_
  refine AWp.seq ?_
  refine sr (c (mv hN (q 0)) rfl (c (OpJ.val (v' := (i6 (a0.length : Int))) (by simp) (OpJ.lenD Try.underlying22 (ltN hN rfl) (q 6))) rfl (c (mv hN (Opd.int .i64 (0))) rfl cn))) ?_
  refine gh [(3, _), (6, _), (7, _), (8, _)] [] hB rfl rfl (by rfl) ?_
  refine AWp.block ?_
  obtain ⟨x13, hx14, h⟩ := bindS h
  refine lg (cmp_Or_L0 a0) (fun s1 : Int => ([(3, (i6 0)), (6, (qI_1 a0)), (7, (i6 (a0.length : Int))), (8, (i6 s1))] : EL)) (fun s1 : Int => ([] : OL)) (fun (x : (Int) ⊕ (Unit)) e E' O' => match x with | (.inl p8) => e = .ret ∧ Mat B E' O' ([(2, (i6 p8))] : EL) ([] : OL) | (.inr _p) => e = .exit 0 ∧ Mat B E' O' ([(3, (i6 0))] : EL) ([] : OL)) hx14 (mp [] _ _ hB) (fun s1 y h => ?_) (fun e E' O' hR => ?_)
  · unfold cmp_Or_L0 at h
    refine sr (c (OpJ.lss (ltN hN rfl) (q 8) (q 7)) rfl cn) ?_
    refine gh [(3, _), (6, _), (7, _), (8, _), (9, _)] [] hB rfl rfl (by rfl) ?_
    refine AWp.seq ?_
    refine AWp.cond rfl (fun hg10 => ?_) (fun hg10 => ?_)
    · replace h := ite_t hg10 h
      refine AWp.skip ?_
      refine seqQ_n ?_
      refine AWp.seq ?_
      refine AWp.block ?_
      obtain ⟨x11, hx11, h⟩ := bindS h
      refine sr (c (OpJ.indexD Try.underlying22 tyS3 (idx_some hx11).1 (get_map (eI .i64) (idx_some hx11).2) (ltN hN rfl) (q 6) (q 8)) rfl (c (OpJ.loadD tyS3 (by rfl) (by rfl) (ltN hN rfl) (q 10)) rfl (c (OpJ.assign (ltN hN rfl) (q 11)) rfl cn))) ?_
      refine gh [(3, _), (5, _), (6, _), (7, _), (8, _)] [] hB rfl rfl (by rfl) ?_
      refine sr (c (mv hN (q 5)) rfl (c (mv hN (q 3)) rfl (c (OpJ.neqI (ltN hN rfl) (q 12) (q 13)) rfl cn))) ?_
      refine gh [(3, _), (5, _), (6, _), (7, _), (8, _), (14, _)] [] hB rfl rfl (by rfl) ?_
      refine AWp.cond rfl (fun hg12 => ?_) (fun hg12 => ?_)
      · replace h := ite_t hg12 h
        refine sr (c (mv hN (q 5)) rfl (c (OpJ.assign (ltN hN rfl) (q 15)) rfl cn)) ?_
        refine gh [(2, _)] [] hB rfl rfl (by rfl) ?_
        refine AWp.ret ?_
        refine blkQ_r ?_
        refine seqQ_r ?_
        obtain rfl := Option.some.inj h
        exact ⟨(fun hc => by cases hc), rfl, (mp [] _ _ hB)⟩
      · replace h := ite_f hg12 h
        refine AWp.skip ?_
        refine blkQ_n ?_
        refine seqQ_n ?_
        refine rg (c (add6 (ltN hN rfl) (q 8) (Opd.int .i64 (1))) rfl (c (mv hN (q 16)) rfl cn)) ?_
        obtain rfl := Option.some.inj h
        exact ⟨rfl, (Mat.trans (mp [] [(3, (i6 0)), (6, (qI_1 a0)), (7, (i6 (a0.length : Int))), (8, (i6 (w64 (s1 + (1 : Int)))))] [] hB) (mp [] _ _ hB))⟩
    · replace h := ite_f hg10 h
      refine AWp.exit ?_
      refine seqQ_e ?_
      obtain rfl := Option.some.inj h
      exact ⟨(fun hc => by cases hc), rfl, (mp [] _ _ hB)⟩
  · rcases x13 with p8 | _
    · obtain ⟨rfl, hmat⟩ := hR
      refine blkQ_r ?_
      refine seqQ_r ?_
      obtain rfl := Option.some.inj h
      exact ⟨.inl rfl, _, _, (Mat.trans hmat (mp [] [(2, (i6 p8))] [] hB)), [(i6 p8)], (Res.tmp (by rfl) (by rfl) Res.nil), rfl, by rfl, by rfl, by rfl⟩
    · obtain ⟨rfl, hmat⟩ := hR
      refine blkQ_hit ?_
      refine seqQ_n ?_
      refine AWp.ghost hmat ?_
      refine sr (c (mv hN (q 3)) rfl (c (OpJ.assign (ltN hN rfl) (q 17)) rfl cn)) ?_
      refine gh [(2, _)] [] hB rfl rfl (by rfl) ?_
      refine AWp.ret ?_
      obtain rfl := Option.some.inj h
      exact ⟨.inl rfl, _, _, (kp [(2, _)] [] hB rfl rfl (by rfl)), [(i6 0)], (Res.tmp (by rfl) (by rfl) Res.nil), rfl, by rfl, by rfl, by rfl⟩

noncomputable def addr_Cmp (a0 : api_Addr) (a1 : api_Addr) : Option (Int) :=
  (addr_family a0).bind fun r1 =>
  (addr_family a1).bind fun r2 =>
  (cmp_Compare r1 r2).bind fun r3 =>
  (cmp_Compare_2 a0.fHi a1.fHi).bind fun r4 =>
  (cmp_Compare_2 a0.fLo a1.fLo).bind fun r5 =>
  (cmp_Or ([r3, r4, r5] : List Int)).bind fun r6 =>
  some r6
set_option maxHeartbeats 4000000 in
set_option maxRecDepth 100000 in
theorem addr_Cmp_ac (a0 : api_Addr) (a1 : api_Addr) (r : Int) (h : addr_Cmp a0 a1 = some r) : AC Try.prog 74 [(.d (e_api_Addr a0)), (.d (e_api_Addr a1))] [] (.d (.int .i64 r)) [] := by
  refine AC.of_code2 Try.func74 rfl rfl (Nat.le_of_ble_eq_true (by rfl)) fun B hB hN => ?_
  delta addr_Cmp at h
  refine sr (cg (OpJ.box hB (nm := 1002) (by decide) (by simp) rfl (ltN hN rfl) (q 0)) rfl (cg (OpJ.box hB (nm := 1003) (by decide) (by simp) rfl (ltN hN rfl) (q 1)) rfl (c (OpJ.assign (ltN hN rfl) (Opd.int .i64 (0))) rfl cn))) ?_
  refine gh [(2, _), (3, _)] [(1002, some _), (1003, some _)] hB rfl rfl (by rfl) ?_
  obtain ⟨r1, hr1, h⟩ := bindS h
  obtain ⟨r2, hr2, h⟩ := bindS h
  obtain ⟨r3, hr3, h⟩ := bindS h
  obtain ⟨r4, hr4, h⟩ := bindS h
  obtain ⟨r5, hr5, h⟩ := bindS h
  obtain ⟨r6, hr6, h⟩ := bindS h
  refine sd (c (lb hN 33 _ _ tyS33 (At.here _) (q 2)) rfl (cg (OpJ.callFn hB fnOk96 (addr_family_ac a0 r1 hr1) [] (by kernel_rfl) (ltN hN rfl) (by kernel_rfl) (OpdL.cons (q 5) OpdL.nil)) rfl (c (lb hN 33 _ _ tyS33 (At.here _) (q 3)) rfl (cg (OpJ.callFn hB fnOk96 (addr_family_ac a1 r2 hr2) [] (by kernel_rfl) (ltN hN rfl) (by kernel_rfl) (OpdL.cons (q 7) OpdL.nil)) rfl (cg (OpJ.callFn hB fnOk75 (cmp_Compare_ac r1 r2 r3 hr3) [] (by kernel_rfl) (ltN hN rfl) (by kernel_rfl) (OpdL.cons (q 6) (OpdL.cons (q 8) OpdL.nil))) rfl (c (ov (.ptr 1002 1 [1]) (fp hN Try.underlying33 1 tyS31 _ (q 2))) rfl (c (lb hN 33 _ _ tyS31 (ad _) (q 10)) rfl (c (ov (.ptr 1003 1 [1]) (fp hN Try.underlying33 1 tyS31 _ (q 3))) rfl (c (lb hN 33 _ _ tyS31 (ad _) (q 12)) rfl (cg (OpJ.callFn hB fnOk97 (cmp_Compare_2_ac a0.fHi a1.fHi r4 hr4) [] (by kernel_rfl) (ltN hN rfl) (by kernel_rfl) (OpdL.cons (q 11) (OpdL.cons (q 13) OpdL.nil))) rfl (c (ov (.ptr 1002 2 [2]) (fp hN Try.underlying33 2 tyS31 _ (q 2))) rfl (c (lb hN 33 _ _ tyS31 (ad _) (q 15)) rfl (c (ov (.ptr 1003 2 [2]) (fp hN Try.underlying33 2 tyS31 _ (q 3))) rfl (c (lb hN 33 _ _ tyS31 (ad _) (q 17)) rfl (cg (OpJ.callFn hB fnOk97 (cmp_Compare_2_ac a0.fLo a1.fLo r5 hr5) [] (by kernel_rfl) (ltN hN rfl) (by kernel_rfl) (OpdL.cons (q 16) (OpdL.cons (q 18) OpdL.nil))) rfl (c (OpJ.buildSlice Try.underlying22 tyS3 tyZD3 (by rfl) (by decide) (by decide) (Opds.cons (q 9) (Opds.cons (q 14) (Opds.cons (q 19) Opds.nil))) (by kernel_rfl) (es := ([(.int .i64 r3), (.int .i64 r4), (.int .i64 r5)] : List D)) (by rfl) (by rfl) (by kernel_rfl) (by simp) (ltN hN rfl)) rfl (cg (OpJ.callFn hB fnOk73 (cmp_Or_ac ([r3, r4, r5] : List Int) r6 hr6) [] (by kernel_rfl) (ltN hN rfl) (by kernel_rfl) (OpdL.cons (q 20) OpdL.nil)) rfl (c (OpJ.assign (ltN hN rfl) (q 21)) rfl cn)))))))))))))))))) (by kernel_rfl) (by kernel_rfl) ?_
  refine gh [(4, _)] [] hB rfl rfl (by rfl) ?_
  refine AWp.ret ?_
  obtain rfl := Option.some.inj h
  exact ⟨.inl rfl, _, _, (kp [(4, _)] [] hB rfl rfl (by rfl)), [(i6 r6)], (Res.tmp (by rfl) (by rfl) Res.nil), rfl, by rfl, by rfl, by rfl⟩

noncomputable def prefix_Cmp (a0 : api_Prefix) (a1 : api_Prefix) : Option (Int) :=
  (addr_Cmp a0.fAddr a1.fAddr).bind fun r1 =>
  (cmp_Compare a0.fLen a1.fLen).bind fun r2 =>
  (cmp_Or ([r1, r2] : List Int)).bind fun r3 =>
  some r3
set_option maxHeartbeats 4000000 in
set_option maxRecDepth 100000 in
theorem prefix_Cmp_ac (a0 : api_Prefix) (a1 : api_Prefix) (r : Int) (h : prefix_Cmp a0 a1 = some r) : AC Try.prog 44 [(.d (e_api_Prefix a0)), (.d (e_api_Prefix a1))] [] (.d (.int .i64 r)) [] := by
  refine AC.of_code2 Try.func44 rfl rfl (Nat.le_of_ble_eq_true (by rfl)) fun B hB hN => ?_
  delta prefix_Cmp at h
  refine sr (cg (OpJ.box hB (nm := 1002) (by decide) (by simp) rfl (ltN hN rfl) (q 0)) rfl (cg (OpJ.box hB (nm := 1003) (by decide) (by simp) rfl (ltN hN rfl) (q 1)) rfl (c (OpJ.assign (ltN hN rfl) (Opd.int .i64 (0))) rfl cn))) ?_
  refine gh [(2, _), (3, _)] [(1002, some _), (1003, some _)] hB rfl rfl (by rfl) ?_
  obtain ⟨r1, hr1, h⟩ := bindS h
  obtain ⟨r2, hr2, h⟩ := bindS h
  obtain ⟨r3, hr3, h⟩ := bindS h
  refine sd (c (ov (.ptr 1002 0 [0]) (fp hN Try.underlying37 0 tyS33 _ (q 2))) rfl (c (lb hN 37 _ _ tyS33 (ad _) (q 5)) rfl (c (ov (.ptr 1003 0 [0]) (fp hN Try.underlying37 0 tyS33 _ (q 3))) rfl (c (lb hN 37 _ _ tyS33 (ad _) (q 7)) rfl (cg (OpJ.callFn hB fnOk74 (addr_Cmp_ac a0.fAddr a1.fAddr r1 hr1) [] (by kernel_rfl) (ltN hN rfl) (by kernel_rfl) (OpdL.cons (q 6) (OpdL.cons (q 8) OpdL.nil))) rfl (c (ov (.ptr 1002 3 [1]) (fp hN Try.underlying37 3 tyS3 _ (q 2))) rfl (c (lb hN 37 _ _ tyS3 (ad _) (q 10)) rfl (c (ov (.ptr 1003 3 [1]) (fp hN Try.underlying37 3 tyS3 _ (q 3))) rfl (c (lb hN 37 _ _ tyS3 (ad _) (q 12)) rfl (cg (OpJ.callFn hB fnOk75 (cmp_Compare_ac a0.fLen a1.fLen r2 hr2) [] (by kernel_rfl) (ltN hN rfl) (by kernel_rfl) (OpdL.cons (q 11) (OpdL.cons (q 13) OpdL.nil))) rfl (c (OpJ.buildSlice Try.underlying22 tyS3 tyZD3 (by rfl) (by decide) (by decide) (Opds.cons (q 9) (Opds.cons (q 14) Opds.nil)) (by kernel_rfl) (es := ([(.int .i64 r1), (.int .i64 r2)] : List D)) (by rfl) (by rfl) (by kernel_rfl) (by simp) (ltN hN rfl)) rfl (cg (OpJ.callFn hB fnOk73 (cmp_Or_ac ([r1, r2] : List Int) r3 hr3) [] (by kernel_rfl) (ltN hN rfl) (by kernel_rfl) (OpdL.cons (q 15) OpdL.nil)) rfl (c (OpJ.assign (ltN hN rfl) (q 16)) rfl cn))))))))))))) (by kernel_rfl) (by kernel_rfl) ?_
  refine gh [(4, _)] [] hB rfl rfl (by rfl) ?_
  refine AWp.ret ?_
  obtain rfl := Option.some.inj h
  exact ⟨.inl rfl, _, _, (kp [(4, _)] [] hB rfl rfl (by rfl)), [(i6 r3)], (Res.tmp (by rfl) (by rfl) Res.nil), rfl, by rfl, by rfl, by rfl⟩

noncomputable def table_Aggregate_1 (a0 : api_Entry) (a1 : api_Entry) : Option (Int) :=
  (prefix_Cmp a0.fPrefix a1.fPrefix).bind fun r1 =>
  some r1
set_option maxHeartbeats 4000000 in
set_option maxRecDepth 100000 in
theorem table_Aggregate_1_ac (a0 : api_Entry) (a1 : api_Entry) (r : Int) (h : table_Aggregate_1 a0 a1 = some r) : AC Try.prog 43 [(.d (e_api_Entry a0)), (.d (e_api_Entry a1))] [] (.d (.int .i64 r)) [] := by
  refine AC.of_code2 Try.func43 rfl rfl (Nat.le_of_ble_eq_true (by rfl)) fun B hB hN => ?_
  delta table_Aggregate_1 at h
  refine sr (cg (OpJ.box hB (nm := 1002) (by decide) (by simp) rfl (ltN hN rfl) (q 0)) rfl (cg (OpJ.box hB (nm := 1003) (by decide) (by simp) rfl (ltN hN rfl) (q 1)) rfl (c (OpJ.assign (ltN hN rfl) (Opd.int .i64 (0))) rfl cn))) ?_
  refine gh [(2, _), (3, _)] [(1002, some _), (1003, some _)] hB rfl rfl (by rfl) ?_
  obtain ⟨r1, hr1, h⟩ := bindS h
  refine sr (c (ov (.ptr 1002 0 [0]) (fp hN Try.underlying39 0 tyS37 _ (q 2))) rfl (c (lb hN 39 _ _ tyS37 (ad _) (q 5)) rfl (c (ov (.ptr 1003 0 [0]) (fp hN Try.underlying39 0 tyS37 _ (q 3))) rfl (c (lb hN 39 _ _ tyS37 (ad _) (q 7)) rfl (cg (OpJ.callFn hB fnOk44 (prefix_Cmp_ac a0.fPrefix a1.fPrefix r1 hr1) [] (by kernel_rfl) (ltN hN rfl) (by kernel_rfl) (OpdL.cons (q 6) (OpdL.cons (q 8) OpdL.nil))) rfl (c (OpJ.assign (ltN hN rfl) (q 9)) rfl cn)))))) ?_
  refine gh [(4, _)] [] hB rfl rfl (by rfl) ?_
  refine AWp.ret ?_
  obtain rfl := Option.some.inj h
  exact ⟨.inl rfl, _, _, (kp [(4, _)] [] hB rfl rfl (by rfl)), [(i6 r1)], (Res.tmp (by rfl) (by rfl) Res.nil), rfl, by rfl, by rfl, by rfl⟩

noncomputable def ext42_slices_SortFunc_table_Aggregate_1 (a0 : (List api_Entry)) : Option (List api_Entry) := sortF a0 fun x y => table_Aggregate_1 x y
theorem ext42_slices_SortFunc_table_Aggregate_1_ac (a0 : (List api_Entry)) (r : List api_Entry) (h : ext42_slices_SortFunc_table_Aggregate_1 a0 = some r) : AC Try.prog 42 [(.sref 0 5 0 a0.length), .func 43 []] [(0, (.row 39 5 (a0.map e_api_Entry)))] (.tup []) [(0, some (.row 39 5 (r.map e_api_Entry)))] :=
  AC.sortF e_api_Entry (fun x y => table_Aggregate_1 x y) a0 r h sortOk42 fnOk43 (fun _ => rfl) rfl rfl (fun x y c hc => table_Aggregate_1_ac x y c hc)

noncomputable def prefix_Contains (a0 : api_Prefix) (a1 : api_Addr) : Option (Bool) :=
  jn (fun m5 : Bool =>
  some m5) (fun j6 =>
  (if ((a0.fAddr.fV6 == a1.fV6) && (decide ((0 : Int) ≤ a0.fLen))) = true then
  (prefix_width a1).bind fun r8 =>
  (if (decide (a0.fLen ≤ r8)) = true then
  (prefix_first a1 a0.fLen).bind fun r10 =>
  j6 ((r10.fV6 == a0.fAddr.fV6) && ((r10.fHi == a0.fAddr.fHi) && ((r10.fLo == a0.fAddr.fLo) && true)))
  else
  j6 false)
  else
  j6 false))
set_option maxHeartbeats 4000000 in
set_option maxRecDepth 100000 in
theorem prefix_Contains_ac (a0 : api_Prefix) (a1 : api_Addr) (r : Bool) (h : prefix_Contains a0 a1 = some r) : AC Try.prog 56 [(.d (e_api_Prefix a0)), (.d (e_api_Addr a1))] [] (.d (.bool r)) [] := by
  refine AC.of_code2 Try.func56 rfl rfl (Nat.le_of_ble_eq_true (by rfl)) fun B hB hN => ?_
  have L {d : Nat} (h : Nat.blt d Try.f56.ntmps = true) : d < B.N := ltN hN h
  delta prefix_Contains at h
  refine sr (cg (OpJ.box hB (nm := 1002) (by decide) (by simp) rfl (L rfl) (q 0)) rfl (cg (OpJ.box hB (nm := 1003) (by decide) (by simp) rfl (L rfl) (q 1)) rfl (c (OpJ.assign (L rfl) (Opd.bool false)) rfl cn))) ?_
  refine gh [(2, _), (3, _)] [(1002, some _), (1003, some _)] hB rfl rfl (by rfl) ?_
  refine AWp.seq ?_
  refine AWp.cut h (fun m5 : Bool => ([(4, (bo m5))] : EL)) (fun m5 : Bool => ([] : OL)) (fun m5 h E' O' hmat => ?_) (fun j6 hjj6 h => ?_)
  · refine seqQ_n ?_
    refine AWp.ghost hmat ?_
    refine AWp.ret ?_
    obtain rfl := Option.some.inj h
    exact ⟨.inl rfl, _, _, (kp [(4, _)] [] hB rfl rfl (by rfl)), [(bo m5)], (Res.tmp (by rfl) (by rfl) Res.nil), rfl, by rfl, by rfl, by rfl⟩
  · rcases Bool.eq_false_or_eq_true ((a0.fAddr.fV6 == a1.fV6) && (decide ((0 : Int) ≤ a0.fLen))) with hg7 | hg7
    · replace h := ite_t hg7 h
      obtain ⟨r8, hr8, h⟩ := bindS h
      rcases Bool.eq_false_or_eq_true (decide (a0.fLen ≤ r8)) with hg9 | hg9
      · replace h := ite_t hg9 h
        obtain ⟨r10, hr10, h⟩ := bindS h
        refine dr (c (ov (.ptr 1002 0 [0]) (fp hN Try.underlying37 0 tyS33 _ (q 2))) rfl (c (ov (.ptr 1002 0 [0, 0]) (fp hN Try.underlying33 0 tyS4 _ (q 5))) rfl (c (lb hN 37 _ _ tyS4 (At.dst1 (by rfl) (by rfl) (ad _) (by first | rfl | omega)) (q 6)) rfl (c (ov (.ptr 1003 0 [0]) (fp hN Try.underlying33 0 tyS4 _ (q 3))) rfl (c (lb hN 33 _ _ tyS4 (ad _) (q 8)) rfl (c (OpJ.eqlB Try.underlying4 (L rfl) (q 7) (q 9)) rfl (c (mv hN (q 10)) rfl (c (oq hN 11 (ov (.ptr 1002 3 [1]) (fp hN Try.underlying37 3 tyS3 _ (q 2))) (OptL.keep (by rfl) OptL.nil) (GuardV.plain _)) rfl (c (oq hN 11 (lb hN 37 _ _ tyS3 (ad _) (q 12)) (OptL.opt OptL.nil) (GuardV.plain _)) rfl (c (oq hN 11 (OpJ.geq (L rfl) (q 13) (Opd.int .i64 (0))) (OptL.opt OptL.nil) (GuardV.plain _)) rfl (c (OpJ.pickAnd rfl (L rfl) (q 11) (q 14)) rfl (c (OpJ.val (v' := .d (.bool true)) (by rw [hg7]) (mv hN (q 15))) rfl (c (OpJ.guarded (g := 16) (by rfl) (ov (.ptr 1002 3 [1]) (fp hN Try.underlying37 3 tyS3 _ (q 2)))) rfl (c (OpJ.guarded (g := 16) (by rfl) (lb hN 37 _ _ tyS3 (ad _) (q 17))) rfl (c (OpJ.guarded (g := 16) (by rfl) (lb hN 33 _ _ tyS33 (At.here _) (q 3))) rfl (cg (OpJ.guarded (g := 16) (by rfl) (OpJ.callFn hB fnOk76 (prefix_width_ac a1 r8 hr8) [] (by kernel_rfl) (L rfl) (by kernel_rfl) (OpdL.cons (q 19) OpdL.nil))) rfl (c (OpJ.guarded (g := 16) (by rfl) (OpJ.leq (L rfl) (q 18) (q 20))) rfl (c (OpJ.pickT (L rfl) (q 16) (q 21)) rfl (c (OpJ.val (v' := .d (.bool true)) (by rw [hg9]) (mv hN (q 22))) rfl (c (OpJ.guarded (g := 23) (by rfl) (lb hN 33 _ _ tyS33 (At.here _) (q 3))) rfl (c (OpJ.guarded (g := 23) (by rfl) (ov (.ptr 1002 3 [1]) (fp hN Try.underlying37 3 tyS3 _ (q 2)))) rfl (c (OpJ.guarded (g := 23) (by rfl) (lb hN 37 _ _ tyS3 (ad _) (q 25))) rfl (cg (OpJ.guarded (g := 23) (by rfl) (OpJ.callFn hB fnOk77 (prefix_first_ac a1 a0.fLen r10 hr10) [] (by kernel_rfl) (L rfl) (by kernel_rfl) (OpdL.cons (q 24) (OpdL.cons (q 26) OpdL.nil)))) rfl (c (OpJ.guarded (g := 23) (by rfl) (ov (.ptr 1002 0 [0]) (fp hN Try.underlying37 0 tyS33 _ (q 2)))) rfl (c (OpJ.guarded (g := 23) (by rfl) (lb hN 37 _ _ tyS33 (ad _) (q 28))) rfl (c (OpJ.guarded (g := 23) (by rfl) (OpJ.eqlD (h := 2) (FitE.st Try.underlying33 rfl held33 (FitF.cons (x := (.bool r10.fV6)) (y := (.bool a0.fAddr.fV6)) (by decide) rfl tyS4 ⟨rfl, rfl⟩ ⟨rfl, rfl⟩ (FitE.bool (h := 0) r10.fV6 a0.fAddr.fV6 Try.underlying4) (FitF.cons (x := (.int .u64 r10.fHi)) (y := (.int .u64 a0.fAddr.fHi)) (by decide) rfl tyS31 ⟨rfl, rfl⟩ ⟨rfl, rfl⟩ (FitE.int (h := 0) r10.fHi a0.fAddr.fHi Try.underlying31) (FitF.cons (x := (.int .u64 r10.fLo)) (y := (.int .u64 a0.fAddr.fLo)) (by decide) rfl tyS31 ⟨rfl, rfl⟩ ⟨rfl, rfl⟩ (FitE.int (h := 0) r10.fLo a0.fAddr.fLo Try.underlying31) FitF.nil)))) eqg33 ⟨rfl, rfl⟩ (by rfl) (L rfl) (q 27) (q 29))) rfl (c (OpJ.pickT (L rfl) (q 23) (q 30)) rfl (c (OpJ.assign (L rfl) (q 31)) rfl cn)))))))))))))))))))))))))))) (by kernel_rfl) (by kernel_rfl) ?_
        exact hjj6 _ h _ _ (Mat.trans (mp [] [(4, (bo ((r10.fV6 == a0.fAddr.fV6) && ((r10.fHi == a0.fAddr.fHi) && ((r10.fLo == a0.fAddr.fLo) && true)))))] [] hB) (mp [] _ _ hB))
      · replace h := ite_f hg9 h
        refine dr (c (ov (.ptr 1002 0 [0]) (fp hN Try.underlying37 0 tyS33 _ (q 2))) rfl (c (ov (.ptr 1002 0 [0, 0]) (fp hN Try.underlying33 0 tyS4 _ (q 5))) rfl (c (lb hN 37 _ _ tyS4 (At.dst1 (by rfl) (by rfl) (ad _) (by first | rfl | omega)) (q 6)) rfl (c (ov (.ptr 1003 0 [0]) (fp hN Try.underlying33 0 tyS4 _ (q 3))) rfl (c (lb hN 33 _ _ tyS4 (ad _) (q 8)) rfl (c (OpJ.eqlB Try.underlying4 (L rfl) (q 7) (q 9)) rfl (c (mv hN (q 10)) rfl (c (oq hN 11 (ov (.ptr 1002 3 [1]) (fp hN Try.underlying37 3 tyS3 _ (q 2))) (OptL.keep (by rfl) OptL.nil) (GuardV.plain _)) rfl (c (oq hN 11 (lb hN 37 _ _ tyS3 (ad _) (q 12)) (OptL.opt OptL.nil) (GuardV.plain _)) rfl (c (oq hN 11 (OpJ.geq (L rfl) (q 13) (Opd.int .i64 (0))) (OptL.opt OptL.nil) (GuardV.plain _)) rfl (c (OpJ.pickAnd rfl (L rfl) (q 11) (q 14)) rfl (c (OpJ.val (v' := .d (.bool true)) (by rw [hg7]) (mv hN (q 15))) rfl (c (OpJ.guarded (g := 16) (by rfl) (ov (.ptr 1002 3 [1]) (fp hN Try.underlying37 3 tyS3 _ (q 2)))) rfl (c (OpJ.guarded (g := 16) (by rfl) (lb hN 37 _ _ tyS3 (ad _) (q 17))) rfl (c (OpJ.guarded (g := 16) (by rfl) (lb hN 33 _ _ tyS33 (At.here _) (q 3))) rfl (cg (OpJ.guarded (g := 16) (by rfl) (OpJ.callFn hB fnOk76 (prefix_width_ac a1 r8 hr8) [] (by kernel_rfl) (L rfl) (by kernel_rfl) (OpdL.cons (q 19) OpdL.nil))) rfl (c (OpJ.guarded (g := 16) (by rfl) (OpJ.leq (L rfl) (q 18) (q 20))) rfl (c (OpJ.pickT (L rfl) (q 16) (q 21)) rfl (c (OpJ.val (v' := .d (.bool false)) (by rw [hg9]) (mv hN (q 22))) rfl (cg (OpJ.skipU (g := 23) (L rfl) (by rfl)) rfl (cg (OpJ.skipU (g := 23) (L rfl) (by rfl)) rfl (cg (OpJ.skipU (g := 23) (L rfl) (by rfl)) rfl (cg (OpJ.skipU (g := 23) (L rfl) (by rfl)) rfl (cg (OpJ.skipU (g := 23) (L rfl) (by rfl)) rfl (cg (OpJ.skipU (g := 23) (L rfl) (by rfl)) rfl (cg (OpJ.skipU (g := 23) (L rfl) (by rfl)) rfl (c (OpJ.pickF (L rfl) (q 23) (Opd.bool false)) rfl (c (OpJ.assign (L rfl) (q 31)) rfl cn)))))))))))))))))))))))))))) (by kernel_rfl) (by kernel_rfl) ?_
        exact hjj6 _ h _ _ (Mat.trans (mp [] [(4, (bo false))] [] hB) (mp [] _ _ hB))
    · replace h := ite_f hg7 h
      refine dr (c (ov (.ptr 1002 0 [0]) (fp hN Try.underlying37 0 tyS33 _ (q 2))) rfl (c (ov (.ptr 1002 0 [0, 0]) (fp hN Try.underlying33 0 tyS4 _ (q 5))) rfl (c (lb hN 37 _ _ tyS4 (At.dst1 (by rfl) (by rfl) (ad _) (by first | rfl | omega)) (q 6)) rfl (c (ov (.ptr 1003 0 [0]) (fp hN Try.underlying33 0 tyS4 _ (q 3))) rfl (c (lb hN 33 _ _ tyS4 (ad _) (q 8)) rfl (c (OpJ.eqlB Try.underlying4 (L rfl) (q 7) (q 9)) rfl (c (mv hN (q 10)) rfl (c (oq hN 11 (ov (.ptr 1002 3 [1]) (fp hN Try.underlying37 3 tyS3 _ (q 2))) (OptL.keep (by rfl) OptL.nil) (GuardV.plain _)) rfl (c (oq hN 11 (lb hN 37 _ _ tyS3 (ad _) (q 12)) (OptL.opt OptL.nil) (GuardV.plain _)) rfl (c (oq hN 11 (OpJ.geq (L rfl) (q 13) (Opd.int .i64 (0))) (OptL.opt OptL.nil) (GuardV.plain _)) rfl (c (OpJ.pickAnd rfl (L rfl) (q 11) (q 14)) rfl (c (OpJ.val (v' := .d (.bool false)) (by rw [hg7]) (mv hN (q 15))) rfl (cg (OpJ.skipU (g := 16) (L rfl) (by rfl)) rfl (cg (OpJ.skipU (g := 16) (L rfl) (by rfl)) rfl (cg (OpJ.skipU (g := 16) (L rfl) (by rfl)) rfl (cg (OpJ.skipU (g := 16) (L rfl) (by rfl)) rfl (cg (OpJ.skipU (g := 16) (L rfl) (by rfl)) rfl (c (OpJ.pickF (L rfl) (q 16) (Opd.bool false)) rfl (c (mv hN (q 22)) rfl (cg (OpJ.skipU (g := 23) (L rfl) (by rfl)) rfl (cg (OpJ.skipU (g := 23) (L rfl) (by rfl)) rfl (cg (OpJ.skipU (g := 23) (L rfl) (by rfl)) rfl (cg (OpJ.skipU (g := 23) (L rfl) (by rfl)) rfl (cg (OpJ.skipU (g := 23) (L rfl) (by rfl)) rfl (cg (OpJ.skipU (g := 23) (L rfl) (by rfl)) rfl (cg (OpJ.skipU (g := 23) (L rfl) (by rfl)) rfl (c (OpJ.pickF (L rfl) (q 23) (Opd.bool false)) rfl (c (OpJ.assign (L rfl) (q 31)) rfl cn)))))))))))))))))))))))))))) (by kernel_rfl) (by kernel_rfl) ?_
      exact hjj6 _ h _ _ (Mat.trans (mp [] [(4, (bo false))] [] hB) (mp [] _ _ hB))

noncomputable def prefix_Covers (a0 : api_Prefix) (a1 : api_Prefix) : Option (Bool) :=
  jn (fun m3 : Bool =>
  some m3) (fun j4 =>
  (if (decide (a0.fLen ≤ a1.fLen)) = true then
  (prefix_Contains a0 a1.fAddr).bind fun r6 =>
  j4 r6
  else
  j4 false))
set_option maxHeartbeats 4000000 in
set_option maxRecDepth 100000 in
theorem prefix_Covers_ac (a0 : api_Prefix) (a1 : api_Prefix) (r : Bool) (h : prefix_Covers a0 a1 = some r) : AC Try.prog 47 [(.d (e_api_Prefix a0)), (.d (e_api_Prefix a1))] [] (.d (.bool r)) [] := by
  refine AC.of_code2 Try.func47 rfl rfl (Nat.le_of_ble_eq_true (by rfl)) fun B hB hN => ?_
  have L {d : Nat} (h : Nat.blt d Try.f47.ntmps = true) : d < B.N := ltN hN h
  delta prefix_Covers at h
  refine sr (cg (OpJ.box hB (nm := 1002) (by decide) (by simp) rfl (L rfl) (q 0)) rfl (cg (OpJ.box hB (nm := 1003) (by decide) (by simp) rfl (L rfl) (q 1)) rfl (c (OpJ.assign (L rfl) (Opd.bool false)) rfl cn))) ?_
  refine gh [(2, _), (3, _)] [(1002, some _), (1003, some _)] hB rfl rfl (by rfl) ?_
  refine AWp.seq ?_
  refine AWp.cut h (fun m3 : Bool => ([(4, (bo m3))] : EL)) (fun m3 : Bool => ([] : OL)) (fun m3 h E' O' hmat => ?_) (fun j4 hjj4 h => ?_)
  · refine seqQ_n ?_
    refine AWp.ghost hmat ?_
    refine AWp.ret ?_
    obtain rfl := Option.some.inj h
    exact ⟨.inl rfl, _, _, (kp [(4, _)] [] hB rfl rfl (by rfl)), [(bo m3)], (Res.tmp (by rfl) (by rfl) Res.nil), rfl, by rfl, by rfl, by rfl⟩
  · rcases Bool.eq_false_or_eq_true (decide (a0.fLen ≤ a1.fLen)) with hg5 | hg5
    · replace h := ite_t hg5 h
      obtain ⟨r6, hr6, h⟩ := bindS h
      refine rg (c (ov (.ptr 1003 3 [1]) (fp hN Try.underlying37 3 tyS3 _ (q 3))) rfl (c (lb hN 37 _ _ tyS3 (ad _) (q 5)) rfl (c (ov (.ptr 1002 3 [1]) (fp hN Try.underlying37 3 tyS3 _ (q 2))) rfl (c (lb hN 37 _ _ tyS3 (ad _) (q 7)) rfl (c (OpJ.geq (L rfl) (q 6) (q 8)) rfl (c (OpJ.val (v' := .d (.bool true)) (by rw [hg5]) (mv hN (q 9))) rfl (c (OpJ.guarded (g := 10) (by rfl) (lb hN 37 _ _ tyS37 (At.here _) (q 2))) rfl (c (OpJ.guarded (g := 10) (by rfl) (ov (.ptr 1003 0 [0]) (fp hN Try.underlying37 0 tyS33 _ (q 3)))) rfl (c (OpJ.guarded (g := 10) (by rfl) (lb hN 37 _ _ tyS33 (ad _) (q 12))) rfl (cg (OpJ.guarded (g := 10) (by rfl) (OpJ.callFn hB fnOk56 (prefix_Contains_ac a0 a1.fAddr r6 hr6) [] (by kernel_rfl) (L rfl) (by kernel_rfl) (OpdL.cons (q 11) (OpdL.cons (q 13) OpdL.nil)))) rfl (c (OpJ.pickT (L rfl) (q 10) (q 14)) rfl (c (OpJ.assign (L rfl) (q 15)) rfl cn)))))))))))) ?_
      exact hjj4 _ h _ _ (Mat.trans (mp [] [(4, (bo r6))] [] hB) (mp [] _ _ hB))
    · replace h := ite_f hg5 h
      refine rg (c (ov (.ptr 1003 3 [1]) (fp hN Try.underlying37 3 tyS3 _ (q 3))) rfl (c (lb hN 37 _ _ tyS3 (ad _) (q 5)) rfl (c (ov (.ptr 1002 3 [1]) (fp hN Try.underlying37 3 tyS3 _ (q 2))) rfl (c (lb hN 37 _ _ tyS3 (ad _) (q 7)) rfl (c (OpJ.geq (L rfl) (q 6) (q 8)) rfl (c (OpJ.val (v' := .d (.bool false)) (by rw [hg5]) (mv hN (q 9))) rfl (cg (OpJ.skipU (g := 10) (L rfl) (by rfl)) rfl (cg (OpJ.skipU (g := 10) (L rfl) (by rfl)) rfl (cg (OpJ.skipU (g := 10) (L rfl) (by rfl)) rfl (cg (OpJ.skipU (g := 10) (L rfl) (by rfl)) rfl (c (OpJ.pickF (L rfl) (q 10) (Opd.bool false)) rfl (c (OpJ.assign (L rfl) (q 15)) rfl cn)))))))))))) ?_
      exact hjj4 _ h _ _ (Mat.trans (mp [] [(4, (bo false))] [] hB) (mp [] _ _ hB))

noncomputable def table_Aggregate_2 (a0 : api_Prefix) (a1 : api_Entry) : Option (Bool) :=
  jn (fun m3 : Bool =>
  some m3) (fun j4 =>
  (if (!(((a0.fAddr.fV6 == a1.fPrefix.fAddr.fV6) && ((a0.fAddr.fHi == a1.fPrefix.fAddr.fHi) && ((a0.fAddr.fLo == a1.fPrefix.fAddr.fLo) && true))) && ((a0.fLen == a1.fPrefix.fLen) && true))) = true then
  (prefix_Covers a0 a1.fPrefix).bind fun r6 =>
  j4 r6
  else
  j4 false))
set_option maxHeartbeats 4000000 in
set_option maxRecDepth 100000 in
theorem table_Aggregate_2_ac (a0 : api_Prefix) (a1 : api_Entry) (r : Bool) (h : table_Aggregate_2 a0 a1 = some r) : AC Try.prog 46 [(.d (e_api_Prefix a0)), (.ptr 0 0 [])] [(0, (.box 39 (.d (e_api_Entry a1))))] (.d (.bool r)) [(0, some (.box 39 (.d (e_api_Entry a1))))] := by
  refine AC.of_code2 Try.func46 rfl rfl (Nat.le_of_ble_eq_true (by rfl)) fun B hB hN => ?_
  have L {d : Nat} (h : Nat.blt d Try.f46.ntmps = true) : d < B.N := ltN hN h
  delta table_Aggregate_2 at h
  refine sr (cg (OpJ.box hB (nm := 1002) (by decide) (by simp) rfl (L rfl) (q 0)) rfl (c (OpJ.assign (L rfl) (Opd.bool false)) rfl cn)) ?_
  refine gh [(1, _), (2, _)] [(0, some _), (1002, some _)] hB rfl rfl (by rfl) ?_
  refine AWp.seq ?_
  refine AWp.cut h (fun m3 : Bool => ([(3, (bo m3))] : EL)) (fun m3 : Bool => ([(0, some (.box 39 (.d (e_api_Entry a1))))] : OL)) (fun m3 h E' O' hmat => ?_) (fun j4 hjj4 h => ?_)
  · refine seqQ_n ?_
    refine AWp.ghost hmat ?_
    refine AWp.ret ?_
    obtain rfl := Option.some.inj h
    exact ⟨.inl rfl, _, _, (kp [(3, _)] [(0, some _)] hB rfl rfl (by rfl)), [(bo m3)], (Res.tmp (by rfl) (by rfl) Res.nil), rfl, by rfl, by rfl, by rfl⟩
  · rcases Bool.eq_false_or_eq_true (!(((a0.fAddr.fV6 == a1.fPrefix.fAddr.fV6) && ((a0.fAddr.fHi == a1.fPrefix.fAddr.fHi) && ((a0.fAddr.fLo == a1.fPrefix.fAddr.fLo) && true))) && ((a0.fLen == a1.fPrefix.fLen) && true))) with hg5 | hg5
    · replace h := ite_t hg5 h
      obtain ⟨r6, hr6, h⟩ := bindS h
      refine rg (c (lb hN 37 _ _ tyS37 (At.here _) (q 2)) rfl (c (ov (.ptr 0 0 [0]) (fp hN Try.underlying39 0 tyS37 _ (q 1))) rfl (c (lb hN 39 _ _ tyS37 (ad _) (q 5)) rfl (c (OpJ.neqD (h := 3) (FitE.st Try.underlying37 rfl held37 (FitF.cons (x := (e_api_Addr a0.fAddr)) (y := (e_api_Addr a1.fPrefix.fAddr)) (by decide) rfl tyS33 ⟨rfl, rfl⟩ ⟨rfl, rfl⟩ (FitE.st Try.underlying33 rfl held33 (FitF.cons (x := (.bool a0.fAddr.fV6)) (y := (.bool a1.fPrefix.fAddr.fV6)) (by decide) rfl tyS4 ⟨rfl, rfl⟩ ⟨rfl, rfl⟩ (FitE.bool (h := 0) a0.fAddr.fV6 a1.fPrefix.fAddr.fV6 Try.underlying4) (FitF.cons (x := (.int .u64 a0.fAddr.fHi)) (y := (.int .u64 a1.fPrefix.fAddr.fHi)) (by decide) rfl tyS31 ⟨rfl, rfl⟩ ⟨rfl, rfl⟩ (FitE.int (h := 0) a0.fAddr.fHi a1.fPrefix.fAddr.fHi Try.underlying31) (FitF.cons (x := (.int .u64 a0.fAddr.fLo)) (y := (.int .u64 a1.fPrefix.fAddr.fLo)) (by decide) rfl tyS31 ⟨rfl, rfl⟩ ⟨rfl, rfl⟩ (FitE.int (h := 0) a0.fAddr.fLo a1.fPrefix.fAddr.fLo Try.underlying31) FitF.nil)))) (FitF.cons (x := (.int .i64 a0.fLen)) (y := (.int .i64 a1.fPrefix.fLen)) (by decide) rfl tyS3 ⟨rfl, rfl⟩ ⟨rfl, rfl⟩ (FitE.int (h := 1) a0.fLen a1.fPrefix.fLen Try.underlying3) FitF.nil))) eqg37 ⟨rfl, rfl⟩ (by rfl) (L rfl) (q 4) (q 6)) rfl (c (OpJ.val (v' := .d (.bool true)) (by rw [hg5]) (mv hN (q 7))) rfl (c (OpJ.guarded (g := 8) (by rfl) (lb hN 37 _ _ tyS37 (At.here _) (q 2))) rfl (c (OpJ.guarded (g := 8) (by rfl) (ov (.ptr 0 0 [0]) (fp hN Try.underlying39 0 tyS37 _ (q 1)))) rfl (c (OpJ.guarded (g := 8) (by rfl) (lb hN 39 _ _ tyS37 (ad _) (q 10))) rfl (cg (OpJ.guarded (g := 8) (by rfl) (OpJ.callFn hB fnOk47 (prefix_Covers_ac a0 a1.fPrefix r6 hr6) [] (by kernel_rfl) (L rfl) (by kernel_rfl) (OpdL.cons (q 9) (OpdL.cons (q 11) OpdL.nil)))) rfl (c (OpJ.pickT (L rfl) (q 8) (q 12)) rfl (c (OpJ.assign (L rfl) (q 13)) rfl cn))))))))))) ?_
      exact hjj4 _ h _ _ (Mat.trans (mp [] [(3, (bo r6))] [(0, some (.box 39 (.d (e_api_Entry a1))))] hB) (mp [] _ _ hB))
    · replace h := ite_f hg5 h
      refine rg (c (lb hN 37 _ _ tyS37 (At.here _) (q 2)) rfl (c (ov (.ptr 0 0 [0]) (fp hN Try.underlying39 0 tyS37 _ (q 1))) rfl (c (lb hN 39 _ _ tyS37 (ad _) (q 5)) rfl (c (OpJ.neqD (h := 3) (FitE.st Try.underlying37 rfl held37 (FitF.cons (x := (e_api_Addr a0.fAddr)) (y := (e_api_Addr a1.fPrefix.fAddr)) (by decide) rfl tyS33 ⟨rfl, rfl⟩ ⟨rfl, rfl⟩ (FitE.st Try.underlying33 rfl held33 (FitF.cons (x := (.bool a0.fAddr.fV6)) (y := (.bool a1.fPrefix.fAddr.fV6)) (by decide) rfl tyS4 ⟨rfl, rfl⟩ ⟨rfl, rfl⟩ (FitE.bool (h := 0) a0.fAddr.fV6 a1.fPrefix.fAddr.fV6 Try.underlying4) (FitF.cons (x := (.int .u64 a0.fAddr.fHi)) (y := (.int .u64 a1.fPrefix.fAddr.fHi)) (by decide) rfl tyS31 ⟨rfl, rfl⟩ ⟨rfl, rfl⟩ (FitE.int (h := 0) a0.fAddr.fHi a1.fPrefix.fAddr.fHi Try.underlying31) (FitF.cons (x := (.int .u64 a0.fAddr.fLo)) (y := (.int .u64 a1.fPrefix.fAddr.fLo)) (by decide) rfl tyS31 ⟨rfl, rfl⟩ ⟨rfl, rfl⟩ (FitE.int (h := 0) a0.fAddr.fLo a1.fPrefix.fAddr.fLo Try.underlying31) FitF.nil)))) (FitF.cons (x := (.int .i64 a0.fLen)) (y := (.int .i64 a1.fPrefix.fLen)) (by decide) rfl tyS3 ⟨rfl, rfl⟩ ⟨rfl, rfl⟩ (FitE.int (h := 1) a0.fLen a1.fPrefix.fLen Try.underlying3) FitF.nil))) eqg37 ⟨rfl, rfl⟩ (by rfl) (L rfl) (q 4) (q 6)) rfl (c (OpJ.val (v' := .d (.bool false)) (by rw [hg5]) (mv hN (q 7))) rfl (cg (OpJ.skipU (g := 8) (L rfl) (by rfl)) rfl (cg (OpJ.skipU (g := 8) (L rfl) (by rfl)) rfl (cg (OpJ.skipU (g := 8) (L rfl) (by rfl)) rfl (cg (OpJ.skipU (g := 8) (L rfl) (by rfl)) rfl (c (OpJ.pickF (L rfl) (q 8) (Opd.bool false)) rfl (c (OpJ.assign (L rfl) (q 13)) rfl cn))))))))))) ?_
      exact hjj4 _ h _ _ (Mat.trans (mp [] [(3, (bo false))] [(0, some (.box 39 (.d (e_api_Entry a1))))] hB) (mp [] _ _ hB))

noncomputable def table_filter_L0 (a0 : (List api_Entry)) (a1 : api_Entry) (s1 : Int × (List api_Entry)) : Option ((((List api_Entry))) ⊕ (Int × (List api_Entry))) :=
  (if (decide (s1.1 < (a0.length : Int))) = true then
  (idx a0 s1.1).bind fun x22 =>
  (table_Aggregate_2 x22.fPrefix a1).bind fun r23 =>
  jn (fun m26 : (List api_Entry) =>
  some (.inr ((w64 (s1.1 + (1 : Int))), m26))) (fun j27 =>
  (if r23 = true then
  chk (decide ((s1.2 ++ ([x22] : List api_Entry)).length ≤ LIM)) <|
  j27 (s1.2 ++ ([x22] : List api_Entry))
  else
  j27 s1.2))
  else
  some (.inl s1.2))
noncomputable def table_filter (a0 : (List api_Entry)) (a1 : api_Entry) : Option ((List api_Entry)) :=
  (loop (table_filter_L0 a0 a1) ((0 : Int), ([] : List api_Entry))).bind fun p20 =>
  some p20
set_option maxHeartbeats 4000000 in
set_option maxRecDepth 100000 in
theorem table_filter_ac (a0 : (List api_Entry)) (a1 : api_Entry) (r : (List api_Entry)) (h : table_filter a0 a1 = some r) : AC Try.prog 45 [(.d (.list 5 (a0.map e_api_Entry))), (.func 46 [(.ptr 0 0 [])])] [(0, (.box 39 (.d (e_api_Entry a1))))] (.d (.list 5 (r.map e_api_Entry))) [(0, some (.box 39 (.d (e_api_Entry a1))))] := by
  refine AC.of_code2 Try.func45 rfl rfl (Nat.le_of_ble_eq_true (by rfl)) fun B hB hN => ?_
  have L {d : Nat} (h : Nat.blt d Try.f45.ntmps = true) : d < B.N := ltN hN h
  delta table_filter at h
  refine sr (c (OpJ.assign (L rfl) Opd.nils) rfl cn) ?_
  refine gh [(0, _), (1, _)] [(0, some _)] hB rfl rfl (by rfl) ?_
  refine sr (c (OpJ.assign (L rfl) Opd.nils) rfl cn) ?_
  refine gh [(0, _), (1, _), (5, _)] [(0, some _)] hB rfl rfl (by rfl) ?_
  refine AWp.seq ?_
  refine sr (c (mv hN (q 0)) rfl (c (OpJ.val (v' := (i6 (a0.length : Int))) (by simp) (OpJ.lenD Try.underlying23 (L rfl) (q 8))) rfl (c (mv hN (Opd.int .i64 (0))) rfl cn))) ?_
  refine gh [(1, _), (5, _), (8, _), (9, _), (10, _)] [(0, some _)] hB rfl rfl (by rfl) ?_
  refine AWp.block ?_
  obtain ⟨p20, hx31, h⟩ := bindS h
  refine lg (table_filter_L0 a0 a1) (fun s1 : Int × (List api_Entry) => ([(1, (.func 46 [(.ptr 0 0 [])])), (5, (.sref 3005 5 0 s1.2.length)), (8, (qe_api_Entry_5 a0)), (9, (i6 (a0.length : Int))), (10, (i6 s1.1))] : EL)) (fun s1 : Int × (List api_Entry) => ([(0, some (.box 39 (.d (e_api_Entry a1)))), (3005, some (we_api_Entry_39_5 s1.2))] : OL)) (fun (p20 : ((List api_Entry))) e E' O' => e = .exit 0 ∧ Mat B E' O' ([(5, (.sref 3005 5 0 p20.length))] : EL) ([(0, some (.box 39 (.d (e_api_Entry a1)))), (3005, some (we_api_Entry_39_5 p20))] : OL)) hx31 (Mat.trans (Mat.beginP (n := 3005) (e := 39) (sz := 5) (Ts := [(5, (.sref 3005 5 0 0))]) (Bs := []) hB (by decide) (by rfl) (by decide) (TwT.cons (x := .nils) (by rfl) (Tw.leaf ⟨rfl, rfl⟩) TwT.nil) TwB.nil) (mp [] _ _ hB)) (fun s1 y h => ?_) (fun e E' O' hR => ?_)
  · unfold table_filter_L0 at h
    refine sr (c (OpJ.lss (L rfl) (q 10) (q 9)) rfl cn) ?_
    refine gh [(1, _), (5, _), (8, _), (9, _), (10, _), (11, _)] [(0, some _), (3005, some _)] hB rfl rfl (by rfl) ?_
    refine AWp.seq ?_
    refine AWp.cond rfl (fun hg21 => ?_) (fun hg21 => ?_)
    · replace h := ite_t hg21 h
      refine AWp.skip ?_
      refine seqQ_n ?_
      refine AWp.seq ?_
      refine AWp.block ?_
      obtain ⟨x22, hx22, h⟩ := bindS h
      refine sr (c (OpJ.indexD Try.underlying23 tyS39 (idx_some hx22).1 (get_map e_api_Entry (idx_some hx22).2) (L rfl) (q 8) (q 10)) rfl (c (OpJ.loadD tyS39 (by rfl) (by rfl) (L rfl) (q 12)) rfl (cg (OpJ.alloc hB tyZ39 (nm := 1007) (by decide) (L rfl)) rfl (cg (OpJ.storeB tyS39 (SetAt.here _ _) (by rfl) (by rfl) (by simp) rfl (q 7) (q 13)) rfl cn)))) ?_
      refine gh [(1, _), (5, _), (7, _), (8, _), (9, _), (10, _)] [(0, some _), (1007, some _), (3005, some _)] hB rfl rfl (by rfl) ?_
      refine AWp.seq ?_
      obtain ⟨r23, hr23, h⟩ := bindS h
      refine AWp.region (oc (mv hN (ot 1 (.func 46 [(.ptr 0 0 [])])))
        (oc (ov (.ptr 1007 0 [0]) (fp hN Try.underlying39 0 tyS37 (.box 39 (.d (e_api_Entry x22))) (ot 7 (.ptr 1007 0 []))))
        (oc (lb hN 39 (.d (e_api_Entry x22)) (.d (e_api_Prefix x22.fPrefix)) tyS37 (ad (e_api_Prefix x22.fPrefix)) (ot 15 (.ptr 1007 0 [0])))
        (oc (OpJ.callVal (args := [(.d (e_api_Prefix x22.fPrefix))]) (caps := [(.ptr 0 0 [])]) hB fnOk46 [(0, 0)] (table_Aggregate_2_ac x22.fPrefix a1 r23 hr23) (by kernel_rfl) (L rfl) (by kernel_rfl) (by kernel_rfl) (OpdL.cons (ot 16 (.d (e_api_Prefix x22.fPrefix))) OpdL.nil))
        (OpJs.nil))))) (by rfl) (by rfl) ?_
      refine seqQ_n ?_
      refine AWp.ghost (mp [] [(1, (.func 46 [(.ptr 0 0 [])])), (5, (.sref 3005 5 0 s1.2.length)), (7, (.ptr 1007 0 [])), (8, (qe_api_Entry_5 a0)), (9, (i6 (a0.length : Int))), (10, (i6 s1.1)), (17, (bo r23))] [(0, some (.box 39 (.d (e_api_Entry a1)))), (1007, some (.box 39 (.d (e_api_Entry x22)))), (3005, some (we_api_Entry_39_5 s1.2))] hB) ?_
      refine AWp.cut h (fun m26 : (List api_Entry) => ([(1, (.func 46 [(.ptr 0 0 [])])), (5, (.sref 3005 5 0 m26.length)), (8, (qe_api_Entry_5 a0)), (9, (i6 (a0.length : Int))), (10, (i6 s1.1))] : EL)) (fun m26 : (List api_Entry) => ([(0, some (.box 39 (.d (e_api_Entry a1)))), (3005, some (we_api_Entry_39_5 m26))] : OL)) (fun m26 h E' O' hmat => ?_) (fun j27 hjj27 h => ?_)
      · refine blkQ_n ?_
        refine seqQ_n ?_
        refine AWp.ghost hmat ?_
        refine rg (c (add6 (L rfl) (q 10) (Opd.int .i64 (1))) rfl (c (mv hN (q 22)) rfl cn)) ?_
        obtain rfl := Option.some.inj h
        exact ⟨rfl, (Mat.trans (mp [] [(1, (.func 46 [(.ptr 0 0 [])])), (5, (.sref 3005 5 0 m26.length)), (8, (qe_api_Entry_5 a0)), (9, (i6 (a0.length : Int))), (10, (i6 (w64 (s1.1 + (1 : Int)))))] [(0, some (.box 39 (.d (e_api_Entry a1)))), (3005, some (we_api_Entry_39_5 m26))] hB) (mp [] _ _ hB))⟩
      · refine AWp.cond rfl (fun hg28 => ?_) (fun hg28 => ?_)
        · replace h := ite_t hg28 h
          obtain ⟨hc29, h⟩ := chk_some h
          refine rg (c (mv hN (q 5)) rfl (c (lb hN 39 _ _ tyS39 (At.here _) (q 7)) rfl (c (OpJ.buildSlice Try.underlying23 tyS39 tyZD39 (by rfl) (by decide) (by decide) (Opds.cons (q 19) Opds.nil) (by kernel_rfl) (es := ([(e_api_Entry x22)] : List D)) (by rfl) (by rfl) (by kernel_rfl) (by simp) (L rfl)) rfl (cg (OpJ.append hB Try.underlying23 tyE39 (nm := 1021) (by decide) (es := s1.2.map e_api_Entry) (ys := ([x22] : List api_Entry).map e_api_Entry) (es' := (s1.2 ++ ([x22] : List api_Entry)).map e_api_Entry) (len := (s1.2 ++ ([x22] : List api_Entry)).length) (by simp) (by simp) (map_sz (f := e_api_Entry) (fun _ => rfl)) (by rw [List.length_map]; exact lim_mulN hc29 (by decide)) (by rw [List.length_map]; exact lim_leN hc29) (L rfl) (by simp) (q 18) (q 20)) rfl (c (OpJ.assign (L rfl) (q 21)) rfl cn))))) ?_
          exact hjj27 _ h _ _ (Mat.trans (mp [] [(1, (.func 46 [(.ptr 0 0 [])])), (5, (.sref 1021 5 0 ((s1.2 ++ ([x22] : List api_Entry)).length))), (8, (qe_api_Entry_5 a0)), (9, (i6 (a0.length : Int))), (10, (i6 s1.1))] [(0, some (.box 39 (.d (e_api_Entry a1)))), (1021, some (we_api_Entry_39_5 (s1.2 ++ ([x22] : List api_Entry))))] hB) (mp [(3005, 1021)] _ _ hB))
        · replace h := ite_f hg28 h
          refine AWp.skip ?_
          exact hjj27 _ h _ _ (mp [] _ _ hB)
    · replace h := ite_f hg21 h
      refine AWp.exit ?_
      refine seqQ_e ?_
      obtain rfl := Option.some.inj h
      exact ⟨(fun hc => by cases hc), rfl, (mp [] _ _ hB)⟩
  · obtain ⟨rfl, hmat⟩ := hR
    refine blkQ_hit ?_
    refine seqQ_n ?_
    refine AWp.ghost hmat ?_
    refine sr (c (mv hN (q 5)) rfl (c (OpJ.assign (L rfl) (q 23)) rfl cn)) ?_
    refine gh [(4, _)] [(0, some _), (3005, some _)] hB rfl rfl (by rfl) ?_
    refine AWp.ret ?_
    obtain rfl := Option.some.inj h
    exact ⟨.inl rfl, _, _, (Mat.trans (Mat.freezeP (n := 3005) (e := 39) (sz := 5) (es := p20.map e_api_Entry) (Ts := [(4, (qe_api_Entry_5 p20))]) (Bs := []) (by rfl) (TwT.cons (x := (.sref 3005 5 0 p20.length)) (by rfl) (FrzL.all (by first | rfl | (simp; done) | (simp; omega))) TwT.nil) TwB.nil) (mp [] [(4, (qe_api_Entry_5 p20))] [(0, some (.box 39 (.d (e_api_Entry a1))))] hB)), [(qe_api_Entry_5 p20)], (Res.tmp (by rfl) (by rfl) Res.nil), rfl, by rfl, by rfl, by rfl⟩

noncomputable def table_Aggregate_L0 (a0 : (List api_Entry)) (s1 : Int × (List (api_Prefix × Int))) : Option ((((List (api_Prefix × Int)))) ⊕ (Int × (List (api_Prefix × Int)))) :=
  (if (decide (s1.1 < (a0.length : Int))) = true then
  (idx a0 s1.1).bind fun x8 =>
  some (.inr ((w64 (s1.1 + (1 : Int))), (mput keq37 s1.2 x8.fPrefix x8.fValue)))
  else
  some (.inl s1.2))
noncomputable def table_Aggregate_L1 (s11 : Int × (List (api_Prefix × Int))) : Option ((((List (api_Prefix × Int)))) ⊕ (Int × (List (api_Prefix × Int)))) :=
  (if (decide ((0 : Int) < s11.1)) = true then
  (table_join s11.2 s11.1).bind fun r18 =>
  some (.inr ((w64 (s11.1 - (1 : Int))), r18))
  else
  some (.inl s11.2))
noncomputable def table_Aggregate_L2 (s21 : (List api_Entry)) (q22 : api_Prefix × Int) : Option ((List api_Entry)) :=
  chk (decide ((s21 ++ ([(api_Entry.mk q22.1 q22.2)] : List api_Entry)).length ≤ LIM)) <|
  some (s21 ++ ([(api_Entry.mk q22.1 q22.2)] : List api_Entry))
noncomputable def table_Aggregate_L3 (s28 : (List api_Entry)) (s32 : (List api_Entry) × Int × (List api_Entry)) : Option ((((List api_Entry))) ⊕ ((List api_Entry) × Int × (List api_Entry))) :=
  (if (decide (s32.2.1 < (s28.length : Int))) = true then
  (idx s32.1 s32.2.1).bind fun x66 =>
  (table_filter s32.1 x66).bind fun r67 =>
  jn (fun m70 : Bool =>
  jn (fun m74 : (List api_Entry) =>
  some (.inr (s32.1, (w64 (s32.2.1 + (1 : Int))), m74))) (fun j75 =>
  (if m70 = true then
  chk (decide ((s32.2.2 ++ ([x66] : List api_Entry)).length ≤ LIM)) <|
  j75 (s32.2.2 ++ ([x66] : List api_Entry))
  else
  j75 s32.2.2))) (fun j71 =>
  (if ((r67.length : Int) == (0 : Int)) = true then
  j71 true
  else
  (idx r67 (w64 ((r67.length : Int) - (1 : Int)))).bind fun x79 =>
  j71 (x79.fValue != x66.fValue)))
  else
  some (.inl s32.2.2))
noncomputable def table_Aggregate (a0 : (List api_Entry)) : Option ((List api_Entry)) :=
  (loop (table_Aggregate_L0 a0) ((0 : Int), ([] : List (api_Prefix × Int)))).bind fun p6 =>
  (loop (table_Aggregate_L1) ((128 : Int), p6)).bind fun p16 =>
  mapAll p16 fun p27 => (foldS (table_Aggregate_L2) ([] : List api_Entry) p27).bind fun s28 =>
  (ext42_slices_SortFunc_table_Aggregate_1 s28).bind fun r30 =>
  chk (decide (r30.length = s28.length)) <|
  (loop (table_Aggregate_L3 s28) (((r30.drop 0).take s28.length), (0 : Int), ([] : List api_Entry))).bind fun p64 =>
  some p64
set_option maxHeartbeats 4000000 in
set_option maxRecDepth 100000 in
theorem table_Aggregate_ac (a0 : (List api_Entry)) (r : (List api_Entry)) (h : table_Aggregate a0 = some r) : AC Try.prog 13 [(.d (.list 5 (a0.map e_api_Entry)))] [] (.d (.list 5 (r.map e_api_Entry))) [] := by
  refine AC.of_code2 Try.func13 rfl rfl (Nat.le_of_ble_eq_true (by rfl)) fun B hB hN => ?_
  have L {d : Nat} (h : Nat.blt d Try.f13.ntmps = true) : d < B.N := ltN hN h
  delta table_Aggregate at h
  refine sr (c (OpJ.assign (L rfl) Opd.nils) rfl cn) ?_
  refine gh [(0, _)] [] hB rfl rfl (by rfl) ?_
  refine sr (cg (OpJ.mkmapQ hB (nm := 1014) (by decide) (L rfl)) rfl (c (OpJ.assign (L rfl) (q 14)) rfl cn)) ?_
  refine gh [(0, _), (3, _)] [(1014, some _)] hB rfl rfl (by rfl) ?_
  refine AWp.seq ?_
  refine sr (c (mv hN (q 0)) rfl (c (OpJ.val (v' := (i6 (a0.length : Int))) (by simp) (OpJ.lenD Try.underlying23 (L rfl) (q 15))) rfl (c (mv hN (Opd.int .i64 (0))) rfl cn))) ?_
  refine gh [(3, _), (15, _), (16, _), (17, _)] [(1014, some _)] hB rfl rfl (by rfl) ?_
  refine AWp.block ?_
  obtain ⟨p6, hx10, h⟩ := bindS h
  refine lg (table_Aggregate_L0 a0) (fun s1 : Int × (List (api_Prefix × Int)) => ([(3, (.mref 1014)), (15, (qe_api_Entry_5 a0)), (16, (i6 (a0.length : Int))), (17, (i6 s1.1))] : EL)) (fun s1 : Int × (List (api_Prefix × Int)) => ([(1014, some (.blk (mapQ (mpairs e_api_Prefix (eI .i64) s1.2))))] : OL)) (fun (p6 : ((List (api_Prefix × Int)))) e E' O' => e = .exit 0 ∧ Mat B E' O' ([(3, (.mref 1014))] : EL) ([(1014, some (.blk (mapQ (mpairs e_api_Prefix (eI .i64) p6))))] : OL)) hx10 (mp [] _ _ hB) (fun s1 y h => ?_) (fun e E' O' hR => ?_)
  · unfold table_Aggregate_L0 at h
    refine sr (c (OpJ.lss (L rfl) (q 17) (q 16)) rfl cn) ?_
    refine gh [(3, _), (15, _), (16, _), (17, _), (18, _)] [(1014, some _)] hB rfl rfl (by rfl) ?_
    refine AWp.seq ?_
    refine AWp.cond rfl (fun hg7 => ?_) (fun hg7 => ?_)
    · replace h := ite_t hg7 h
      refine AWp.skip ?_
      refine seqQ_n ?_
      refine AWp.seq ?_
      refine AWp.block ?_
      obtain ⟨x8, hx8, h⟩ := bindS h
      refine sr (c (OpJ.indexD Try.underlying23 tyS39 (idx_some hx8).1 (get_map e_api_Entry (idx_some hx8).2) (L rfl) (q 15) (q 17)) rfl (c (OpJ.loadD tyS39 (by rfl) (by rfl) (L rfl) (q 19)) rfl (cg (OpJ.alloc hB tyZ39 (nm := 1005) (by decide) (L rfl)) rfl (cg (OpJ.storeB tyS39 (SetAt.here _ _) (by rfl) (by rfl) (by simp) rfl (q 5) (q 20)) rfl cn)))) ?_
      refine gh [(3, _), (5, _), (15, _), (16, _), (17, _)] [(1005, some _), (1014, some _)] hB rfl rfl (by rfl) ?_
      refine rg (c (mv hN (q 3)) rfl (c (ov (.ptr 1005 0 [0]) (fp hN Try.underlying39 0 tyS37 _ (q 5))) rfl (c (lb hN 39 _ _ tyS37 (ad _) (q 22)) rfl (c (ov (.ptr 1005 4 [1]) (fp hN Try.underlying39 4 tyS3 _ (q 5))) rfl (c (lb hN 39 _ _ tyS3 (ad _) (q 24)) rfl (cg (OpJ.mputQ (g := (eI .i64)) (v := x8.fValue) (l := s1.2) (k := x8.fPrefix) tyU68 Try.underlying37 keyEq37 (q 21) (q 23) (q 25)) rfl cn)))))) ?_
      refine blkQ_n ?_
      refine seqQ_n ?_
      refine gh [(3, _), (15, _), (16, _), (17, _)] [(1014, some _)] hB rfl rfl (by rfl) ?_
      refine rg (c (add6 (L rfl) (q 17) (Opd.int .i64 (1))) rfl (c (mv hN (q 26)) rfl cn)) ?_
      obtain rfl := Option.some.inj h
      exact ⟨rfl, (Mat.trans (mp [] [(3, (.mref 1014)), (15, (qe_api_Entry_5 a0)), (16, (i6 (a0.length : Int))), (17, (i6 (w64 (s1.1 + (1 : Int)))))] [(1014, some (.blk (mapQ (mpairs e_api_Prefix (eI .i64) (mput keq37 s1.2 x8.fPrefix x8.fValue)))))] hB) (mp [] _ _ hB))⟩
    · replace h := ite_f hg7 h
      refine AWp.exit ?_
      refine seqQ_e ?_
      obtain rfl := Option.some.inj h
      exact ⟨(fun hc => by cases hc), rfl, (mp [] _ _ hB)⟩
  · obtain ⟨rfl, hmat⟩ := hR
    refine blkQ_hit ?_
    refine seqQ_n ?_
    refine AWp.ghost hmat ?_
    refine AWp.seq ?_
    refine sr (c (OpJ.assign (L rfl) (Opd.int .i64 (128))) rfl cn) ?_
    refine gh [(3, _), (6, _)] [(1014, some _)] hB rfl rfl (by rfl) ?_
    refine AWp.block ?_
    obtain ⟨p16, hx20, h⟩ := bindS h
    refine lg (table_Aggregate_L1) (fun s11 : Int × (List (api_Prefix × Int)) => ([(3, (.mref 1014)), (6, (i6 s11.1))] : EL)) (fun s11 : Int × (List (api_Prefix × Int)) => ([(1014, some (.blk (mapQ (mpairs e_api_Prefix (eI .i64) s11.2))))] : OL)) (fun (p16 : ((List (api_Prefix × Int)))) e E' O' => e = .exit 2 ∧ Mat B E' O' ([(3, (.mref 1014))] : EL) ([(1014, some (.blk (mapQ (mpairs e_api_Prefix (eI .i64) p16))))] : OL)) hx20 (mp [] _ _ hB) (fun s11 y h => ?_) (fun e E' O' hR => ?_)
    · unfold table_Aggregate_L1 at h
      refine AWp.seq ?_
      refine sr (c (mv hN (q 6)) rfl (c (OpJ.gtr (L rfl) (q 27) (Opd.int .i64 (0))) rfl cn)) ?_
      refine gh [(3, _), (6, _), (28, _)] [(1014, some _)] hB rfl rfl (by rfl) ?_
      refine AWp.cond rfl (fun hg17 => ?_) (fun hg17 => ?_)
      · replace h := ite_t hg17 h
        refine AWp.skip ?_
        refine seqQ_n ?_
        refine AWp.seq ?_
        refine AWp.block ?_
        obtain ⟨r18, hr18, h⟩ := bindS h
        refine AWp.region (oc (mv hN (ot 3 (.mref 1014)))
          (oc (mv hN (ot 6 (i6 s11.1)))
          (oc (OpJ.callFn hB fnOk41 (table_join_ac s11.2 s11.1 r18 hr18) [(0, 1014)] (by kernel_rfl) (L rfl) (by kernel_rfl) (OpdL.cons (ot 31 (.mref 1014)) (OpdL.cons (ot 32 (i6 s11.1)) OpdL.nil)))
          (OpJs.nil)))) (by rfl) (by rfl) ?_
        refine blkQ_n ?_
        refine seqQ_n ?_
        refine AWp.ghost (mp [] [(3, (.mref 1014)), (6, (i6 s11.1))] [(1014, some (.blk (mapQ (mpairs e_api_Prefix (eI .i64) r18))))] hB) ?_
        refine rg (c (mv hN (q 6)) rfl (c (sub6 (L rfl) (q 29) (Opd.int .i64 (1))) rfl (c (OpJ.assign (L rfl) (q 30)) rfl cn))) ?_
        obtain rfl := Option.some.inj h
        exact ⟨rfl, (Mat.trans (mp [] [(3, (.mref 1014)), (6, (i6 (w64 (s11.1 - (1 : Int)))))] [(1014, some (.blk (mapQ (mpairs e_api_Prefix (eI .i64) r18))))] hB) (mp [] _ _ hB))⟩
      · replace h := ite_f hg17 h
        refine AWp.exit ?_
        refine seqQ_e ?_
        obtain rfl := Option.some.inj h
        exact ⟨(fun hc => by cases hc), rfl, (mp [] _ _ hB)⟩
    · obtain ⟨rfl, hmat⟩ := hR
      refine blkQ_hit ?_
      refine seqQ_n ?_
      refine AWp.ghost hmat ?_
      refine sr (c (OpJ.assign (L rfl) Opd.nils) rfl cn) ?_
      refine gh [(3, _), (7, _)] [(1014, some _)] hB rfl rfl (by rfl) ?_
      refine AWp.seq ?_
      refine sr (c (mv hN (q 3)) rfl (cg (OpJ.mrangeQ hB tyU68 (it := 1035) (by decide) (by decide) (L rfl) (q 34)) rfl cn)) ?_
      refine gh [(7, _), (35, _)] [(1035, some _)] hB rfl rfl (by rfl) ?_
      refine AWp.block ?_
      have hA29 := mapAll_some h
      refine AWp.ghost (Mat.trans (Mat.beginP (n := 3007) (e := 39) (sz := 5) (Ts := [(7, (.sref 3007 5 0 0))]) (Bs := []) hB (by decide) (by rfl) (by decide) (TwT.cons (x := .nils) (by rfl) (Tw.leaf ⟨rfl, rfl⟩) TwT.nil) TwB.nil) (mp [] ((fun s21 : (List api_Entry) => ([(7, (.sref 3007 5 0 s21.length)), (35, (.ptr 1035 0 []))] : EL)) ([] : List api_Entry)) ((1035, some (.blk (iterQ (mpairs e_api_Prefix (eI .i64) p16)))) :: (fun s21 : (List api_Entry) => ([(3007, some (we_api_Entry_39_5 s21))] : OL)) ([] : List api_Entry)) hB)) ?_
      refine AWp.loopMQ (t7 := 35) (it := 1035) (fun p : api_Prefix × Int => (e_api_Prefix p.1, (eI .i64) p.2)) p16 (table_Aggregate_L2) (fun s21 : (List api_Entry) => ([(7, (.sref 3007 5 0 s21.length)), (35, (.ptr 1035 0 []))] : EL)) (fun s21 : (List api_Entry) => ([(3007, some (we_api_Entry_39_5 s21))] : OL)) (s0 := ([] : List api_Entry)) (L rfl) (L rfl) (fun _ => rfl) (fun p hp => let ⟨s, hs, _⟩ := bindS (hA29 p hp); ⟨s, hs⟩) (fun s21 q22 s' l23 h => ?_) (fun p27 s28 hp hs => ?_)
      · unfold table_Aggregate_L2 at h
        refine AWp.block ?_
        refine sr (cg (OpJ.mentry (q := (e_api_Prefix q22.1, (eI .i64) q22.2)) (L rfl) (q 35)) rfl (c (OpJ.extract (by rfl) rfl (L rfl) (q 38)) rfl (c (OpJ.extract (by rfl) rfl (L rfl) (q 38)) rfl (cg (OpJ.alloc hB tyZ37 (nm := 1008) (by decide) (L rfl)) rfl (cg (OpJ.storeB tyS37 (SetAt.here _ _) (by rfl) (by rfl) (by simp) rfl (q 8) (q 39)) rfl (c (OpJ.assign (L rfl) (q 40)) rfl cn)))))) ?_
        refine gh [(7, _), (8, _), (9, _), (35, _)] [(1008, some _), (1035, some _), (3007, some _)] hB rfl rfl (by rfl) ?_
        obtain ⟨hc26, h⟩ := chk_some h
        refine rg (c (mv hN (q 7)) rfl (c (lb hN 37 _ _ tyS37 (At.here _) (q 8)) rfl (c (mv hN (q 9)) rfl (c (OpJ.coe (v := (.st [(.d (e_api_Prefix q22.1)), (i6 q22.2)])) (y := (.st [(e_api_Prefix q22.1), (.int .i64 q22.2)])) (Co.st (CoL.cons (Co.d _) (CoL.cons (Co.d _) CoL.nil))) rfl (OpJ.build (places := [(0, 4), (4, 1)]) ⟨Try.underlying39, fun w => by kernel_rfl⟩ tyZS39 (Opds.cons (q 42) (Opds.cons (q 43) Opds.nil)) (by kernel_rfl) (r := (.st [(.d (e_api_Prefix q22.1)), (i6 q22.2)])) (by rfl) (L rfl))) rfl (c (OpJ.buildSlice Try.underlying23 tyS39 tyZD39 (by rfl) (by decide) (by decide) (Opds.cons (q 44) Opds.nil) (by kernel_rfl) (es := ([(.st [(e_api_Prefix q22.1), (.int .i64 q22.2)])] : List D)) (by rfl) (by rfl) (by kernel_rfl) (by simp) (L rfl)) rfl (cg (OpJ.append hB Try.underlying23 tyE39 (nm := 1046) (by decide) (es := s21.map e_api_Entry) (ys := ([(api_Entry.mk q22.1 q22.2)] : List api_Entry).map e_api_Entry) (es' := (s21 ++ ([(api_Entry.mk q22.1 q22.2)] : List api_Entry)).map e_api_Entry) (len := (s21 ++ ([(api_Entry.mk q22.1 q22.2)] : List api_Entry)).length) (by simp) (by simp) (map_sz (f := e_api_Entry) (fun _ => rfl)) (by rw [List.length_map]; exact lim_mulN hc26 (by decide)) (by rw [List.length_map]; exact lim_leN hc26) (L rfl) (by simp) (q 41) (q 45)) rfl (c (OpJ.assign (L rfl) (q 46)) rfl cn))))))) ?_
        refine blkQ_n ?_
        obtain rfl := Option.some.inj h
        exact ⟨rfl, (Mat.trans (mp [] [(7, (.sref 1046 5 0 ((s21 ++ ([(api_Entry.mk q22.1 q22.2)] : List api_Entry)).length))), (35, (.ptr 1035 0 []))] [(1035, some (.blk (iterB (mpairs e_api_Prefix (eI .i64) l23) (some (e_api_Prefix q22.1, (eI .i64) q22.2))))), (1046, some (we_api_Entry_39_5 (s21 ++ ([(api_Entry.mk q22.1 q22.2)] : List api_Entry))))] hB) (mp [(3007, 1046)] _ _ hB))⟩
      · replace h := bind_fin (hA29 p27 hp) hs
        refine blkQ_hit ?_
        refine seqQ_n ?_
        refine gh [(7, _), (37, _)] [(3007, some _)] hB rfl rfl (by rfl) ?_
        refine AWp.seq ?_
        obtain ⟨r30, hr30, h⟩ := bindS h
        obtain ⟨hc31, h⟩ := chk_some h
        have hc31_o := of_decide_eq_true hc31
        refine AWp.region (oc (mv hN (ot 7 (.sref 3007 5 0 s28.length)))
          (oc (OpJ.callFn hB fnOk42 (ext42_slices_SortFunc_table_Aggregate_1_ac s28 r30 hr30) [(0, 3007)] (by kernel_rfl) (L rfl) (by kernel_rfl) (OpdL.cons (ot 47 (.sref 3007 5 0 s28.length)) (OpdL.cons (Opd.func 43) OpdL.nil)))
          (OpJs.nil))) (by rfl) (by rfl) ?_
        refine seqQ_n ?_
        refine AWp.ghost (mp [] [(7, (.sref 3007 5 0 s28.length))] [(3007, some (we_api_Entry_39_5 r30))] hB) ?_
        refine sr (c (OpJ.assign (L rfl) Opd.nils) rfl cn) ?_
        refine gh [(7, _), (10, _)] [(3007, some _)] hB rfl rfl (by rfl) ?_
        refine AWp.seq ?_
        refine sr (c (mv hN (q 7)) rfl (c (OpJ.lenS Try.underlying23 (L rfl) (q 49)) rfl (c (mv hN (Opd.int .i64 (0))) rfl cn))) ?_
        refine gh [(7, _), (10, _), (49, _), (50, _), (51, _)] [(3007, some _)] hB rfl rfl (by rfl) ?_
        refine AWp.block ?_
        obtain ⟨p64, hx81, h⟩ := bindS h
        refine lg (table_Aggregate_L3 s28) (fun s32 : (List api_Entry) × Int × (List api_Entry) => ([(7, (qe_api_Entry_5 s32.1)), (10, (.sref 3010 5 0 s32.2.2.length)), (49, (qe_api_Entry_5 s32.1)), (50, (i6 (s28.length : Int))), (51, (i6 s32.2.1))] : EL)) (fun s32 : (List api_Entry) × Int × (List api_Entry) => ([(3010, some (we_api_Entry_39_5 s32.2.2))] : OL)) (fun (p64 : ((List api_Entry))) e E' O' => e = .exit 6 ∧ Mat B E' O' ([(10, (.sref 3010 5 0 p64.length))] : EL) ([(3010, some (we_api_Entry_39_5 p64))] : OL)) hx81 (Mat.trans (Mat.freezeP (n := 3007) (e := 39) (sz := 5) (es := r30.map e_api_Entry) (Ts := [(7, (qe_api_Entry_5 ((r30.drop 0).take s28.length))), (49, (qe_api_Entry_5 ((r30.drop 0).take s28.length)))]) (Bs := []) (by rfl) (TwT.cons (x := (.sref 3007 5 0 s28.length)) (by rfl) (FrzL.cut (fs := ((r30.drop 0).take s28.length).map e_api_Entry) (by simp only [List.length_map, List.length_append, List.length_take, List.length_drop, List.length_replicate, List.length_set]; omega) (by first | rw [List.map_drop, List.map_take] | simp [List.map_take, List.map_drop])) (TwT.cons (x := (.sref 3007 5 0 s28.length)) (by rfl) (FrzL.cut (fs := ((r30.drop 0).take s28.length).map e_api_Entry) (by simp only [List.length_map, List.length_append, List.length_take, List.length_drop, List.length_replicate, List.length_set]; omega) (by first | rw [List.map_drop, List.map_take] | simp [List.map_take, List.map_drop])) TwT.nil)) TwB.nil) (Mat.trans (Mat.beginP (n := 3010) (e := 39) (sz := 5) (Ts := [(10, (.sref 3010 5 0 0))]) (Bs := []) hB (by decide) (by rfl) (by decide) (TwT.cons (x := .nils) (by rfl) (Tw.leaf ⟨rfl, rfl⟩) TwT.nil) TwB.nil) (mp [] _ _ hB))) (fun s32 y h => ?_) (fun e E' O' hR => ?_)
        · unfold table_Aggregate_L3 at h
          refine sr (c (OpJ.lss (L rfl) (q 51) (q 50)) rfl cn) ?_
          refine gh [(7, _), (10, _), (49, _), (50, _), (51, _), (52, _)] [(3010, some _)] hB rfl rfl (by rfl) ?_
          refine AWp.seq ?_
          refine AWp.cond rfl (fun hg65 => ?_) (fun hg65 => ?_)
          · replace h := ite_t hg65 h
            refine AWp.skip ?_
            refine seqQ_n ?_
            refine AWp.seq ?_
            refine AWp.block ?_
            obtain ⟨x66, hx66, h⟩ := bindS h
            refine sr (c (OpJ.indexD Try.underlying23 tyS39 (idx_some hx66).1 (get_map e_api_Entry (idx_some hx66).2) (L rfl) (q 49) (q 51)) rfl (c (OpJ.loadD tyS39 (by rfl) (by rfl) (L rfl) (q 53)) rfl (cg (OpJ.alloc hB tyZ39 (nm := 1012) (by decide) (L rfl)) rfl (cg (OpJ.storeB tyS39 (SetAt.here _ _) (by rfl) (by rfl) (by simp) rfl (q 12) (q 54)) rfl cn)))) ?_
            refine gh [(7, _), (10, _), (12, _), (49, _), (50, _), (51, _)] [(1012, some _), (3010, some _)] hB rfl rfl (by rfl) ?_
            refine AWp.seq ?_
            obtain ⟨r67, hr67, h⟩ := bindS h
            refine AWp.region (oc (mv hN (ot 7 (qe_api_Entry_5 s32.1)))
              (oc (OpJ.makeF (OpdL.cons (ot 12 (.ptr 1012 0 [])) OpdL.nil) rfl rfl (L rfl))
              (oc (OpJ.callFn hB fnOk45 (table_filter_ac s32.1 x66 r67 hr67) [(0, 1012)] (by kernel_rfl) (L rfl) (by kernel_rfl) (OpdL.cons (ot 55 (qe_api_Entry_5 s32.1)) (OpdL.cons (ot 56 (.func 46 [(.ptr 1012 0 [])])) OpdL.nil)))
              (oc (OpJ.assign (L rfl) (ot 57 (qe_api_Entry_5 r67)))
              (OpJs.nil))))) (by rfl) (by rfl) ?_
            refine seqQ_n ?_
            refine AWp.ghost (mp [] [(7, (qe_api_Entry_5 s32.1)), (10, (.sref 3010 5 0 s32.2.2.length)), (12, (.ptr 1012 0 [])), (13, (qe_api_Entry_5 r67)), (49, (qe_api_Entry_5 s32.1)), (50, (i6 (s28.length : Int))), (51, (i6 s32.2.1))] [(1012, some (.box 39 (.d (e_api_Entry x66)))), (3010, some (we_api_Entry_39_5 s32.2.2))] hB) ?_
            refine AWp.seq ?_
            refine AWp.cut h (fun m70 : Bool => ([(7, (qe_api_Entry_5 s32.1)), (10, (.sref 3010 5 0 s32.2.2.length)), (12, (.ptr 1012 0 [])), (49, (qe_api_Entry_5 s32.1)), (50, (i6 (s28.length : Int))), (51, (i6 s32.2.1)), (72, (bo m70))] : EL)) (fun m70 : Bool => ([(1012, some (.box 39 (.d (e_api_Entry x66)))), (3010, some (we_api_Entry_39_5 s32.2.2))] : OL)) (fun m70 h E' O' hmat => ?_) (fun j71 hjj71 h => ?_)
            · refine seqQ_n ?_
              refine AWp.ghost hmat ?_
              refine AWp.cut h (fun m74 : (List api_Entry) => ([(7, (qe_api_Entry_5 s32.1)), (10, (.sref 3010 5 0 m74.length)), (49, (qe_api_Entry_5 s32.1)), (50, (i6 (s28.length : Int))), (51, (i6 s32.2.1))] : EL)) (fun m74 : (List api_Entry) => ([(3010, some (we_api_Entry_39_5 m74))] : OL)) (fun m74 h E' O' hmat => ?_) (fun j75 hjj75 h => ?_)
              · refine blkQ_n ?_
                refine seqQ_n ?_
                refine AWp.ghost hmat ?_
                refine rg (c (add6 (L rfl) (q 51) (Opd.int .i64 (1))) rfl (c (mv hN (q 77)) rfl cn)) ?_
                obtain rfl := Option.some.inj h
                exact ⟨rfl, (Mat.trans (mp [] [(7, (qe_api_Entry_5 s32.1)), (10, (.sref 3010 5 0 m74.length)), (49, (qe_api_Entry_5 s32.1)), (50, (i6 (s28.length : Int))), (51, (i6 (w64 (s32.2.1 + (1 : Int)))))] [(3010, some (we_api_Entry_39_5 m74))] hB) (mp [] _ _ hB))⟩
              · refine AWp.cond rfl (fun hg76 => ?_) (fun hg76 => ?_)
                · replace h := ite_t hg76 h
                  obtain ⟨hc77, h⟩ := chk_some h
                  refine rg (c (mv hN (q 10)) rfl (c (lb hN 39 _ _ tyS39 (At.here _) (q 12)) rfl (c (OpJ.buildSlice Try.underlying23 tyS39 tyZD39 (by rfl) (by decide) (by decide) (Opds.cons (q 74) Opds.nil) (by kernel_rfl) (es := ([(e_api_Entry x66)] : List D)) (by rfl) (by rfl) (by kernel_rfl) (by simp) (L rfl)) rfl (cg (OpJ.append hB Try.underlying23 tyE39 (nm := 1076) (by decide) (es := s32.2.2.map e_api_Entry) (ys := ([x66] : List api_Entry).map e_api_Entry) (es' := (s32.2.2 ++ ([x66] : List api_Entry)).map e_api_Entry) (len := (s32.2.2 ++ ([x66] : List api_Entry)).length) (by simp) (by simp) (map_sz (f := e_api_Entry) (fun _ => rfl)) (by rw [List.length_map]; exact lim_mulN hc77 (by decide)) (by rw [List.length_map]; exact lim_leN hc77) (L rfl) (by simp) (q 73) (q 75)) rfl (c (OpJ.assign (L rfl) (q 76)) rfl cn))))) ?_
                  exact hjj75 _ h _ _ (Mat.trans (mp [] [(7, (qe_api_Entry_5 s32.1)), (10, (.sref 1076 5 0 ((s32.2.2 ++ ([x66] : List api_Entry)).length))), (49, (qe_api_Entry_5 s32.1)), (50, (i6 (s28.length : Int))), (51, (i6 s32.2.1))] [(1076, some (we_api_Entry_39_5 (s32.2.2 ++ ([x66] : List api_Entry))))] hB) (mp [(3010, 1076)] _ _ hB))
                · replace h := ite_f hg76 h
                  refine AWp.skip ?_
                  exact hjj75 _ h _ _ (mp [] _ _ hB)
            · rcases Bool.eq_false_or_eq_true ((r67.length : Int) == (0 : Int)) with hg78 | hg78
              · replace h := ite_t hg78 h
                refine dr (c (mv hN (q 13)) rfl (c (OpJ.val (v' := (i6 (r67.length : Int))) (by simp) (OpJ.lenD Try.underlying23 (L rfl) (q 58))) rfl (c (OpJ.eqlI (L rfl) (q 59) (Opd.int .i64 (0))) rfl (c (OpJ.val (v' := .d (.bool true)) (by rw [hg78]) (mv hN (q 60))) rfl (cg (OpJ.skipU (g := 61) (L rfl) (by rfl)) rfl (cg (OpJ.skipU (g := 61) (L rfl) (by rfl)) rfl (cg (OpJ.skipU (g := 61) (L rfl) (by rfl)) rfl (cg (OpJ.skipU (g := 61) (L rfl) (by rfl)) rfl (cg (OpJ.skipU (g := 61) (L rfl) (by rfl)) rfl (cg (OpJ.skipU (g := 61) (L rfl) (by rfl)) rfl (cg (OpJ.skipU (g := 61) (L rfl) (by rfl)) rfl (cg (OpJ.skipU (g := 61) (L rfl) (by rfl)) rfl (cg (OpJ.skipU (g := 61) (L rfl) (by rfl)) rfl (cg (OpJ.skipU (g := 61) (L rfl) (by rfl)) rfl (c (OpJ.pickT (L rfl) (q 61) (Opd.bool true)) rfl cn))))))))))))))) (by kernel_rfl) (by kernel_rfl) ?_
                exact hjj71 _ h _ _ (Mat.trans (mp [] [(7, (qe_api_Entry_5 s32.1)), (10, (.sref 3010 5 0 s32.2.2.length)), (12, (.ptr 1012 0 [])), (49, (qe_api_Entry_5 s32.1)), (50, (i6 (s28.length : Int))), (51, (i6 s32.2.1)), (72, (bo true))] [(1012, some (.box 39 (.d (e_api_Entry x66)))), (3010, some (we_api_Entry_39_5 s32.2.2))] hB) (mp [] _ _ hB))
              · replace h := ite_f hg78 h
                obtain ⟨x79, hx79, h⟩ := bindS h
                refine dr (c (mv hN (q 13)) rfl (c (OpJ.val (v' := (i6 (r67.length : Int))) (by simp) (OpJ.lenD Try.underlying23 (L rfl) (q 58))) rfl (c (OpJ.eqlI (L rfl) (q 59) (Opd.int .i64 (0))) rfl (c (OpJ.val (v' := .d (.bool false)) (by rw [hg78]) (mv hN (q 60))) rfl (c (OpJ.guarded (g := 61) (by rfl) (mv hN (q 13))) rfl (c (OpJ.guarded (g := 61) (by rfl) (mv hN (q 13))) rfl (c (OpJ.guarded (g := 61) (by rfl) (OpJ.val (v' := (i6 (r67.length : Int))) (by simp) (OpJ.lenD Try.underlying23 (L rfl) (q 63)))) rfl (c (OpJ.guarded (g := 61) (by rfl) (sub6 (L rfl) (q 64) (Opd.int .i64 (1)))) rfl (c (OpJ.guarded (g := 61) (by rfl) (OpJ.indexD Try.underlying23 tyS39 (idx_some hx79).1 (get_map e_api_Entry (idx_some hx79).2) (L rfl) (q 62) (q 65))) rfl (c (OpJ.guarded (g := 61) (by rfl) (OpJ.fieldD Try.underlying39 (by rfl) (o := 4) (by rfl) tyS3 (by decide) (by rfl) (by rfl) (L rfl) (q 66))) rfl (c (OpJ.guarded (g := 61) (by rfl) (OpJ.loadD tyS3 (by rfl) (by rfl) (L rfl) (q 67))) rfl (c (OpJ.guarded (g := 61) (by rfl) (ov (.ptr 1012 4 [1]) (fp hN Try.underlying39 4 tyS3 _ (q 12)))) rfl (c (OpJ.guarded (g := 61) (by rfl) (lb hN 39 _ _ tyS3 (ad _) (q 69))) rfl (c (OpJ.guarded (g := 61) (by rfl) (OpJ.neqI (L rfl) (q 68) (q 70))) rfl (c (OpJ.pickF (L rfl) (q 61) (q 71)) rfl cn))))))))))))))) (by kernel_rfl) (by kernel_rfl) ?_
                exact hjj71 _ h _ _ (Mat.trans (mp [] [(7, (qe_api_Entry_5 s32.1)), (10, (.sref 3010 5 0 s32.2.2.length)), (12, (.ptr 1012 0 [])), (49, (qe_api_Entry_5 s32.1)), (50, (i6 (s28.length : Int))), (51, (i6 s32.2.1)), (72, (bo (x79.fValue != x66.fValue)))] [(1012, some (.box 39 (.d (e_api_Entry x66)))), (3010, some (we_api_Entry_39_5 s32.2.2))] hB) (mp [] _ _ hB))
          · replace h := ite_f hg65 h
            refine AWp.exit ?_
            refine seqQ_e ?_
            obtain rfl := Option.some.inj h
            exact ⟨(fun hc => by cases hc), rfl, (mp [] _ _ hB)⟩
        · obtain ⟨rfl, hmat⟩ := hR
          refine blkQ_hit ?_
          refine seqQ_n ?_
          refine AWp.ghost hmat ?_
          refine sr (c (mv hN (q 10)) rfl (c (OpJ.assign (L rfl) (q 78)) rfl cn)) ?_
          refine gh [(2, _)] [(3010, some _)] hB rfl rfl (by rfl) ?_
          refine AWp.ret ?_
          obtain rfl := Option.some.inj h
          exact ⟨.inl rfl, _, _, (Mat.trans (Mat.freezeP (n := 3010) (e := 39) (sz := 5) (es := p64.map e_api_Entry) (Ts := [(2, (qe_api_Entry_5 p64))]) (Bs := []) (by rfl) (TwT.cons (x := (.sref 3010 5 0 p64.length)) (by rfl) (FrzL.all (by first | rfl | (simp; done) | (simp; omega))) TwT.nil) TwB.nil) (mp [] [(2, (qe_api_Entry_5 p64))] [] hB)), [(qe_api_Entry_5 p64)], (Res.tmp (by rfl) (by rfl) Res.nil), rfl, by rfl, by rfl, by rfl⟩

noncomputable def exchangepointref03_Get_L0 (a0 : (List api_Entry)) (a1 : api_Prefix) (s1 : Int) : Option (((Int) ⊕ (Unit)) ⊕ (Int)) :=
  (if (decide (s1 < (a0.length : Int))) = true then
  (idx a0 s1).bind fun x11 =>
  (if (((x11.fPrefix.fAddr.fV6 == a1.fAddr.fV6) && ((x11.fPrefix.fAddr.fHi == a1.fAddr.fHi) && ((x11.fPrefix.fAddr.fLo == a1.fAddr.fLo) && true))) && ((x11.fPrefix.fLen == a1.fLen) && true)) = true then
  some (.inl (.inl x11.fValue))
  else
  some (.inr (w64 (s1 + (1 : Int)))))
  else
  some (.inl (.inr ())))
noncomputable def exchangepointref03_Get (a0 : (List api_Entry)) (a1 : api_Prefix) : Option (Int × Bool) :=
  (loop (exchangepointref03_Get_L0 a0 a1) (0 : Int)).bind fun x13 => match x13 with
  | (.inl p8) =>
    some (p8, true)
  | (.inr _) =>
    some ((0 : Int), false)
set_option maxHeartbeats 4000000 in
set_option maxRecDepth 100000 in
theorem exchangepointref03_Get_ac (a0 : (List api_Entry)) (a1 : api_Prefix) (r : Int × Bool) (h : exchangepointref03_Get a0 a1 = some r) : AC Try.prog 29 [(.d (.list 5 (a0.map e_api_Entry))), (.d (e_api_Prefix a1))] [] (.tup [(.d (.int .i64 r.1)), (.d (.bool r.2))]) [] := by
  refine AC.of_code2 Try.func29 rfl rfl (Nat.le_of_ble_eq_true (by rfl)) fun B hB hN => ?_
  have L {d : Nat} (h : Nat.blt d Try.f29.ntmps = true) : d < B.N := ltN hN h
  delta exchangepointref03_Get at h
  refine sr (cg (OpJ.box hB (nm := 1003) (by decide) (by simp) rfl (L rfl) (q 1)) rfl (c (OpJ.assign (L rfl) (Opd.int .i64 (0))) rfl (c (OpJ.assign (L rfl) (Opd.bool false)) rfl cn))) ?_
  refine gh [(0, _), (3, _)] [(1003, some _)] hB rfl rfl (by rfl) ?_
  refine AWp.seq ?_
  refine sr (c (mv hN (q 0)) rfl (c (OpJ.val (v' := (i6 (a0.length : Int))) (by simp) (OpJ.lenD Try.underlying23 (L rfl) (q 8))) rfl (c (mv hN (Opd.int .i64 (0))) rfl cn))) ?_
  refine gh [(3, _), (8, _), (9, _), (10, _)] [(1003, some _)] hB rfl rfl (by rfl) ?_
  refine AWp.block ?_
  obtain ⟨x13, hx14, h⟩ := bindS h
  refine lg (exchangepointref03_Get_L0 a0 a1) (fun s1 : Int => ([(3, (.ptr 1003 0 [])), (8, (qe_api_Entry_5 a0)), (9, (i6 (a0.length : Int))), (10, (i6 s1))] : EL)) (fun s1 : Int => ([(1003, some (.box 37 (.d (e_api_Prefix a1))))] : OL)) (fun (x : (Int) ⊕ (Unit)) e E' O' => match x with | (.inl p8) => e = .ret ∧ Mat B E' O' ([(4, (i6 p8)), (5, (bo true))] : EL) ([] : OL) | (.inr _p) => e = .exit 0 ∧ Mat B E' O' ([] : EL) ([] : OL)) hx14 (mp [] _ _ hB) (fun s1 y h => ?_) (fun e E' O' hR => ?_)
  · unfold exchangepointref03_Get_L0 at h
    refine sr (c (OpJ.lss (L rfl) (q 10) (q 9)) rfl cn) ?_
    refine gh [(3, _), (8, _), (9, _), (10, _), (11, _)] [(1003, some _)] hB rfl rfl (by rfl) ?_
    refine AWp.seq ?_
    refine AWp.cond rfl (fun hg10 => ?_) (fun hg10 => ?_)
    · replace h := ite_t hg10 h
      refine AWp.skip ?_
      refine seqQ_n ?_
      refine AWp.seq ?_
      refine AWp.block ?_
      obtain ⟨x11, hx11, h⟩ := bindS h
      refine sr (c (OpJ.indexD Try.underlying23 tyS39 (idx_some hx11).1 (get_map e_api_Entry (idx_some hx11).2) (L rfl) (q 8) (q 10)) rfl (c (OpJ.loadD tyS39 (by rfl) (by rfl) (L rfl) (q 12)) rfl (cg (OpJ.alloc hB tyZ39 (nm := 1007) (by decide) (L rfl)) rfl (cg (OpJ.storeB tyS39 (SetAt.here _ _) (by rfl) (by rfl) (by simp) rfl (q 7) (q 13)) rfl cn)))) ?_
      refine gh [(3, _), (7, _), (8, _), (9, _), (10, _)] [(1003, some _), (1007, some _)] hB rfl rfl (by rfl) ?_
      refine sr (c (ov (.ptr 1007 0 [0]) (fp hN Try.underlying39 0 tyS37 _ (q 7))) rfl (c (lb hN 39 _ _ tyS37 (ad _) (q 14)) rfl (c (lb hN 37 _ _ tyS37 (At.here _) (q 3)) rfl (c (OpJ.eqlD (h := 3) (FitE.st Try.underlying37 rfl held37 (FitF.cons (x := (e_api_Addr x11.fPrefix.fAddr)) (y := (e_api_Addr a1.fAddr)) (by decide) rfl tyS33 ⟨rfl, rfl⟩ ⟨rfl, rfl⟩ (FitE.st Try.underlying33 rfl held33 (FitF.cons (x := (.bool x11.fPrefix.fAddr.fV6)) (y := (.bool a1.fAddr.fV6)) (by decide) rfl tyS4 ⟨rfl, rfl⟩ ⟨rfl, rfl⟩ (FitE.bool (h := 0) x11.fPrefix.fAddr.fV6 a1.fAddr.fV6 Try.underlying4) (FitF.cons (x := (.int .u64 x11.fPrefix.fAddr.fHi)) (y := (.int .u64 a1.fAddr.fHi)) (by decide) rfl tyS31 ⟨rfl, rfl⟩ ⟨rfl, rfl⟩ (FitE.int (h := 0) x11.fPrefix.fAddr.fHi a1.fAddr.fHi Try.underlying31) (FitF.cons (x := (.int .u64 x11.fPrefix.fAddr.fLo)) (y := (.int .u64 a1.fAddr.fLo)) (by decide) rfl tyS31 ⟨rfl, rfl⟩ ⟨rfl, rfl⟩ (FitE.int (h := 0) x11.fPrefix.fAddr.fLo a1.fAddr.fLo Try.underlying31) FitF.nil)))) (FitF.cons (x := (.int .i64 x11.fPrefix.fLen)) (y := (.int .i64 a1.fLen)) (by decide) rfl tyS3 ⟨rfl, rfl⟩ ⟨rfl, rfl⟩ (FitE.int (h := 1) x11.fPrefix.fLen a1.fLen Try.underlying3) FitF.nil))) eqg37 ⟨rfl, rfl⟩ (by rfl) (L rfl) (q 15) (q 16)) rfl cn)))) ?_
      refine gh [(3, _), (7, _), (8, _), (9, _), (10, _), (17, _)] [(1003, some _), (1007, some _)] hB rfl rfl (by rfl) ?_
      refine AWp.cond rfl (fun hg12 => ?_) (fun hg12 => ?_)
      · replace h := ite_t hg12 h
        refine sr (c (ov (.ptr 1007 4 [1]) (fp hN Try.underlying39 4 tyS3 _ (q 7))) rfl (c (lb hN 39 _ _ tyS3 (ad _) (q 18)) rfl (c (OpJ.assign (L rfl) (q 19)) rfl (c (OpJ.assign (L rfl) (Opd.bool true)) rfl cn)))) ?_
        refine gh [(4, _), (5, _)] [] hB rfl rfl (by rfl) ?_
        refine AWp.ret ?_
        refine blkQ_r ?_
        refine seqQ_r ?_
        obtain rfl := Option.some.inj h
        exact ⟨(fun hc => by cases hc), rfl, (mp [] _ _ hB)⟩
      · replace h := ite_f hg12 h
        refine AWp.skip ?_
        refine blkQ_n ?_
        refine seqQ_n ?_
        refine rg (c (add6 (L rfl) (q 10) (Opd.int .i64 (1))) rfl (c (mv hN (q 20)) rfl cn)) ?_
        obtain rfl := Option.some.inj h
        exact ⟨rfl, (Mat.trans (mp [] [(3, (.ptr 1003 0 [])), (8, (qe_api_Entry_5 a0)), (9, (i6 (a0.length : Int))), (10, (i6 (w64 (s1 + (1 : Int)))))] [(1003, some (.box 37 (.d (e_api_Prefix a1))))] hB) (mp [] _ _ hB))⟩
    · replace h := ite_f hg10 h
      refine AWp.exit ?_
      refine seqQ_e ?_
      obtain rfl := Option.some.inj h
      exact ⟨(fun hc => by cases hc), rfl, (mp [] _ _ hB)⟩
  · rcases x13 with p8 | _
    · obtain ⟨rfl, hmat⟩ := hR
      refine blkQ_r ?_
      refine seqQ_r ?_
      obtain rfl := Option.some.inj h
      exact ⟨.inl rfl, _, _, (Mat.trans hmat (mp [] [(4, (i6 p8)), (5, (bo true))] [] hB)), [(i6 p8), (bo true)], (Res.tmp (by rfl) (by rfl) (Res.tmp (by rfl) (by rfl) Res.nil)), rfl, by rfl, by rfl, by rfl⟩
    · obtain ⟨rfl, hmat⟩ := hR
      refine blkQ_hit ?_
      refine seqQ_n ?_
      refine AWp.ghost hmat ?_
      refine sr (c (OpJ.assign (L rfl) (Opd.int .i64 (0))) rfl (c (OpJ.assign (L rfl) (Opd.bool false)) rfl cn)) ?_
      refine gh [(4, _), (5, _)] [] hB rfl rfl (by rfl) ?_
      refine AWp.ret ?_
      obtain rfl := Option.some.inj h
      exact ⟨.inl rfl, _, _, (kp [(4, _), (5, _)] [] hB rfl rfl (by rfl)), [(i6 0), (bo false)], (Res.tmp (by rfl) (by rfl) (Res.tmp (by rfl) (by rfl) Res.nil)), rfl, by rfl, by rfl, by rfl⟩

noncomputable def exchangepointref03_without_L0 (a0 : (List api_Entry)) (a1 : api_Prefix) (s1 : Int × (List api_Entry)) : Option ((((List api_Entry))) ⊕ (Int × (List api_Entry))) :=
  (if (decide (s1.1 < (a0.length : Int))) = true then
  (idx a0 s1.1).bind fun x20 =>
  jn (fun m23 : (List api_Entry) =>
  some (.inr ((w64 (s1.1 + (1 : Int))), m23))) (fun j24 =>
  (if (!(((x20.fPrefix.fAddr.fV6 == a1.fAddr.fV6) && ((x20.fPrefix.fAddr.fHi == a1.fAddr.fHi) && ((x20.fPrefix.fAddr.fLo == a1.fAddr.fLo) && true))) && ((x20.fPrefix.fLen == a1.fLen) && true))) = true then
  chk (decide ((s1.2 ++ ([x20] : List api_Entry)).length ≤ LIM)) <|
  j24 (s1.2 ++ ([x20] : List api_Entry))
  else
  j24 s1.2))
  else
  some (.inl s1.2))
noncomputable def exchangepointref03_without (a0 : (List api_Entry)) (a1 : api_Prefix) : Option ((List api_Entry)) :=
  (loop (exchangepointref03_without_L0 a0 a1) ((0 : Int), ([] : List api_Entry))).bind fun p18 =>
  some p18
set_option maxHeartbeats 4000000 in
set_option maxRecDepth 100000 in
theorem exchangepointref03_without_ac (a0 : (List api_Entry)) (a1 : api_Prefix) (r : (List api_Entry)) (h : exchangepointref03_without a0 a1 = some r) : AC Try.prog 49 [(.d (.list 5 (a0.map e_api_Entry))), (.d (e_api_Prefix a1))] [] (.d (.list 5 (r.map e_api_Entry))) [] := by
  refine AC.of_code2 Try.func49 rfl rfl (Nat.le_of_ble_eq_true (by rfl)) fun B hB hN => ?_
  have L {d : Nat} (h : Nat.blt d Try.f49.ntmps = true) : d < B.N := ltN hN h
  delta exchangepointref03_without at h
  refine sr (cg (OpJ.box hB (nm := 1003) (by decide) (by simp) rfl (L rfl) (q 1)) rfl (c (OpJ.assign (L rfl) Opd.nils) rfl cn)) ?_
  refine gh [(0, _), (3, _)] [(1003, some _)] hB rfl rfl (by rfl) ?_
  refine sr (c (OpJ.assign (L rfl) Opd.nils) rfl cn) ?_
  refine gh [(0, _), (3, _), (5, _)] [(1003, some _)] hB rfl rfl (by rfl) ?_
  refine AWp.seq ?_
  refine sr (c (mv hN (q 0)) rfl (c (OpJ.val (v' := (i6 (a0.length : Int))) (by simp) (OpJ.lenD Try.underlying23 (L rfl) (q 8))) rfl (c (mv hN (Opd.int .i64 (0))) rfl cn))) ?_
  refine gh [(3, _), (5, _), (8, _), (9, _), (10, _)] [(1003, some _)] hB rfl rfl (by rfl) ?_
  refine AWp.block ?_
  obtain ⟨p18, hx28, h⟩ := bindS h
  refine lg (exchangepointref03_without_L0 a0 a1) (fun s1 : Int × (List api_Entry) => ([(3, (.ptr 1003 0 [])), (5, (.sref 3005 5 0 s1.2.length)), (8, (qe_api_Entry_5 a0)), (9, (i6 (a0.length : Int))), (10, (i6 s1.1))] : EL)) (fun s1 : Int × (List api_Entry) => ([(1003, some (.box 37 (.d (e_api_Prefix a1)))), (3005, some (we_api_Entry_39_5 s1.2))] : OL)) (fun (p18 : ((List api_Entry))) e E' O' => e = .exit 0 ∧ Mat B E' O' ([(5, (.sref 3005 5 0 p18.length))] : EL) ([(3005, some (we_api_Entry_39_5 p18))] : OL)) hx28 (Mat.trans (Mat.beginP (n := 3005) (e := 39) (sz := 5) (Ts := [(5, (.sref 3005 5 0 0))]) (Bs := []) hB (by decide) (by rfl) (by decide) (TwT.cons (x := .nils) (by rfl) (Tw.leaf ⟨rfl, rfl⟩) TwT.nil) TwB.nil) (mp [] _ _ hB)) (fun s1 y h => ?_) (fun e E' O' hR => ?_)
  · unfold exchangepointref03_without_L0 at h
    refine sr (c (OpJ.lss (L rfl) (q 10) (q 9)) rfl cn) ?_
    refine gh [(3, _), (5, _), (8, _), (9, _), (10, _), (11, _)] [(1003, some _), (3005, some _)] hB rfl rfl (by rfl) ?_
    refine AWp.seq ?_
    refine AWp.cond rfl (fun hg19 => ?_) (fun hg19 => ?_)
    · replace h := ite_t hg19 h
      refine AWp.skip ?_
      refine seqQ_n ?_
      refine AWp.seq ?_
      refine AWp.block ?_
      obtain ⟨x20, hx20, h⟩ := bindS h
      refine sr (c (OpJ.indexD Try.underlying23 tyS39 (idx_some hx20).1 (get_map e_api_Entry (idx_some hx20).2) (L rfl) (q 8) (q 10)) rfl (c (OpJ.loadD tyS39 (by rfl) (by rfl) (L rfl) (q 12)) rfl (cg (OpJ.alloc hB tyZ39 (nm := 1007) (by decide) (L rfl)) rfl (cg (OpJ.storeB tyS39 (SetAt.here _ _) (by rfl) (by rfl) (by simp) rfl (q 7) (q 13)) rfl cn)))) ?_
      refine gh [(3, _), (5, _), (7, _), (8, _), (9, _), (10, _)] [(1003, some _), (1007, some _), (3005, some _)] hB rfl rfl (by rfl) ?_
      refine sr (c (ov (.ptr 1007 0 [0]) (fp hN Try.underlying39 0 tyS37 _ (q 7))) rfl (c (lb hN 39 _ _ tyS37 (ad _) (q 14)) rfl (c (lb hN 37 _ _ tyS37 (At.here _) (q 3)) rfl (c (OpJ.neqD (h := 3) (FitE.st Try.underlying37 rfl held37 (FitF.cons (x := (e_api_Addr x20.fPrefix.fAddr)) (y := (e_api_Addr a1.fAddr)) (by decide) rfl tyS33 ⟨rfl, rfl⟩ ⟨rfl, rfl⟩ (FitE.st Try.underlying33 rfl held33 (FitF.cons (x := (.bool x20.fPrefix.fAddr.fV6)) (y := (.bool a1.fAddr.fV6)) (by decide) rfl tyS4 ⟨rfl, rfl⟩ ⟨rfl, rfl⟩ (FitE.bool (h := 0) x20.fPrefix.fAddr.fV6 a1.fAddr.fV6 Try.underlying4) (FitF.cons (x := (.int .u64 x20.fPrefix.fAddr.fHi)) (y := (.int .u64 a1.fAddr.fHi)) (by decide) rfl tyS31 ⟨rfl, rfl⟩ ⟨rfl, rfl⟩ (FitE.int (h := 0) x20.fPrefix.fAddr.fHi a1.fAddr.fHi Try.underlying31) (FitF.cons (x := (.int .u64 x20.fPrefix.fAddr.fLo)) (y := (.int .u64 a1.fAddr.fLo)) (by decide) rfl tyS31 ⟨rfl, rfl⟩ ⟨rfl, rfl⟩ (FitE.int (h := 0) x20.fPrefix.fAddr.fLo a1.fAddr.fLo Try.underlying31) FitF.nil)))) (FitF.cons (x := (.int .i64 x20.fPrefix.fLen)) (y := (.int .i64 a1.fLen)) (by decide) rfl tyS3 ⟨rfl, rfl⟩ ⟨rfl, rfl⟩ (FitE.int (h := 1) x20.fPrefix.fLen a1.fLen Try.underlying3) FitF.nil))) eqg37 ⟨rfl, rfl⟩ (by rfl) (L rfl) (q 15) (q 16)) rfl cn)))) ?_
      refine gh [(3, _), (5, _), (7, _), (8, _), (9, _), (10, _), (17, _)] [(1003, some _), (1007, some _), (3005, some _)] hB rfl rfl (by rfl) ?_
      refine AWp.cut h (fun m23 : (List api_Entry) => ([(3, (.ptr 1003 0 [])), (5, (.sref 3005 5 0 m23.length)), (8, (qe_api_Entry_5 a0)), (9, (i6 (a0.length : Int))), (10, (i6 s1.1))] : EL)) (fun m23 : (List api_Entry) => ([(1003, some (.box 37 (.d (e_api_Prefix a1)))), (3005, some (we_api_Entry_39_5 m23))] : OL)) (fun m23 h E' O' hmat => ?_) (fun j24 hjj24 h => ?_)
      · refine blkQ_n ?_
        refine seqQ_n ?_
        refine AWp.ghost hmat ?_
        refine rg (c (add6 (L rfl) (q 10) (Opd.int .i64 (1))) rfl (c (mv hN (q 22)) rfl cn)) ?_
        obtain rfl := Option.some.inj h
        exact ⟨rfl, (Mat.trans (mp [] [(3, (.ptr 1003 0 [])), (5, (.sref 3005 5 0 m23.length)), (8, (qe_api_Entry_5 a0)), (9, (i6 (a0.length : Int))), (10, (i6 (w64 (s1.1 + (1 : Int)))))] [(1003, some (.box 37 (.d (e_api_Prefix a1)))), (3005, some (we_api_Entry_39_5 m23))] hB) (mp [] _ _ hB))⟩
      · refine AWp.cond rfl (fun hg25 => ?_) (fun hg25 => ?_)
        · replace h := ite_t hg25 h
          obtain ⟨hc26, h⟩ := chk_some h
          refine rg (c (mv hN (q 5)) rfl (c (lb hN 39 _ _ tyS39 (At.here _) (q 7)) rfl (c (OpJ.buildSlice Try.underlying23 tyS39 tyZD39 (by rfl) (by decide) (by decide) (Opds.cons (q 19) Opds.nil) (by kernel_rfl) (es := ([(e_api_Entry x20)] : List D)) (by rfl) (by rfl) (by kernel_rfl) (by simp) (L rfl)) rfl (cg (OpJ.append hB Try.underlying23 tyE39 (nm := 1021) (by decide) (es := s1.2.map e_api_Entry) (ys := ([x20] : List api_Entry).map e_api_Entry) (es' := (s1.2 ++ ([x20] : List api_Entry)).map e_api_Entry) (len := (s1.2 ++ ([x20] : List api_Entry)).length) (by simp) (by simp) (map_sz (f := e_api_Entry) (fun _ => rfl)) (by rw [List.length_map]; exact lim_mulN hc26 (by decide)) (by rw [List.length_map]; exact lim_leN hc26) (L rfl) (by simp) (q 18) (q 20)) rfl (c (OpJ.assign (L rfl) (q 21)) rfl cn))))) ?_
          exact hjj24 _ h _ _ (Mat.trans (mp [] [(3, (.ptr 1003 0 [])), (5, (.sref 1021 5 0 ((s1.2 ++ ([x20] : List api_Entry)).length))), (8, (qe_api_Entry_5 a0)), (9, (i6 (a0.length : Int))), (10, (i6 s1.1))] [(1003, some (.box 37 (.d (e_api_Prefix a1)))), (1021, some (we_api_Entry_39_5 (s1.2 ++ ([x20] : List api_Entry))))] hB) (mp [(3005, 1021)] _ _ hB))
        · replace h := ite_f hg25 h
          refine AWp.skip ?_
          exact hjj24 _ h _ _ (mp [] _ _ hB)
    · replace h := ite_f hg19 h
      refine AWp.exit ?_
      refine seqQ_e ?_
      obtain rfl := Option.some.inj h
      exact ⟨(fun hc => by cases hc), rfl, (mp [] _ _ hB)⟩
  · obtain ⟨rfl, hmat⟩ := hR
    refine blkQ_hit ?_
    refine seqQ_n ?_
    refine AWp.ghost hmat ?_
    refine sr (c (mv hN (q 5)) rfl (c (OpJ.assign (L rfl) (q 23)) rfl cn)) ?_
    refine gh [(4, _)] [(3005, some _)] hB rfl rfl (by rfl) ?_
    refine AWp.ret ?_
    obtain rfl := Option.some.inj h
    exact ⟨.inl rfl, _, _, (Mat.trans (Mat.freezeP (n := 3005) (e := 39) (sz := 5) (es := p18.map e_api_Entry) (Ts := [(4, (qe_api_Entry_5 p18))]) (Bs := []) (by rfl) (TwT.cons (x := (.sref 3005 5 0 p18.length)) (by rfl) (FrzL.all (by first | rfl | (simp; done) | (simp; omega))) TwT.nil) TwB.nil) (mp [] [(4, (qe_api_Entry_5 p18))] [] hB)), [(qe_api_Entry_5 p18)], (Res.tmp (by rfl) (by rfl) Res.nil), rfl, by rfl, by rfl, by rfl⟩

noncomputable def exchangepointref02_Contains (a0 : api_Prefix) (a1 : api_Addr) : Option (Bool) :=
  (exchangepointref02_Make a1 a0.fLen).bind fun r1 =>
  some ((r1.2 == (0 : Int)) && (((r1.1.fAddr.fV6 == a0.fAddr.fV6) && ((r1.1.fAddr.fHi == a0.fAddr.fHi) && ((r1.1.fAddr.fLo == a0.fAddr.fLo) && true))) && ((r1.1.fLen == a0.fLen) && true)))
set_option maxHeartbeats 4000000 in
set_option maxRecDepth 100000 in
theorem exchangepointref02_Contains_ac (a0 : api_Prefix) (a1 : api_Addr) (r : Bool) (h : exchangepointref02_Contains a0 a1 = some r) : AC Try.prog 35 [(.d (e_api_Prefix a0)), (.d (e_api_Addr a1))] [] (.d (.bool r)) [] := by
  refine AC.of_code2 Try.func35 rfl rfl (Nat.le_of_ble_eq_true (by rfl)) fun B hB hN => ?_
  delta exchangepointref02_Contains at h
  refine sr (cg (OpJ.box hB (nm := 1002) (by decide) (by simp) rfl (ltN hN rfl) (q 0)) rfl (cg (OpJ.box hB (nm := 1003) (by decide) (by simp) rfl (ltN hN rfl) (q 1)) rfl (c (OpJ.assign (ltN hN rfl) (Opd.bool false)) rfl cn))) ?_
  refine gh [(2, _), (3, _)] [(1002, some _), (1003, some _)] hB rfl rfl (by rfl) ?_
  obtain ⟨r1, hr1, h⟩ := bindS h
  refine sr (c (lb hN 33 _ _ tyS33 (At.here _) (q 3)) rfl (c (ov (.ptr 1002 3 [1]) (fp hN Try.underlying37 3 tyS3 _ (q 2))) rfl (c (lb hN 37 _ _ tyS3 (ad _) (q 9)) rfl (cg (OpJ.callFn hB fnOk18 (exchangepointref02_Make_ac a1 a0.fLen r1 hr1) [] (by kernel_rfl) (ltN hN rfl) (by kernel_rfl) (OpdL.cons (q 8) (OpdL.cons (q 10) OpdL.nil))) rfl (c (mv hN (q 11)) rfl (c (OpJ.extract (by rfl) rfl (ltN hN rfl) (q 7)) rfl (c (OpJ.extract (by rfl) rfl (ltN hN rfl) (q 7)) rfl (cg (OpJ.alloc hB tyZ37 (nm := 1005) (by decide) (ltN hN rfl)) rfl (cg (OpJ.storeB tyS37 (SetAt.here _ _) (by rfl) (by rfl) (by simp) rfl (q 5) (q 12)) rfl (c (OpJ.assign (ltN hN rfl) (q 13)) rfl cn)))))))))) ?_
  refine gh [(2, _), (5, _), (6, _)] [(1002, some _), (1005, some _)] hB rfl rfl (by rfl) ?_
  refine sr (c (mv hN (q 6)) rfl (c (OpJ.eqlI (ltN hN rfl) (q 14) (Opd.int .i64 (0))) rfl (c (mv hN (q 15)) rfl (c (oq hN 16 (lb hN 37 _ _ tyS37 (At.here _) (q 5)) (OptL.keep (by rfl) OptL.nil) (GuardV.plain _)) rfl (c (oq hN 16 (lb hN 37 _ _ tyS37 (At.here _) (q 2)) (OptL.keep (by rfl) OptL.nil) (GuardV.plain _)) rfl (c (oq hN 16 (OpJ.eqlD (h := 3) (FitE.st Try.underlying37 rfl held37 (FitF.cons (x := (e_api_Addr r1.1.fAddr)) (y := (e_api_Addr a0.fAddr)) (by decide) rfl tyS33 ⟨rfl, rfl⟩ ⟨rfl, rfl⟩ (FitE.st Try.underlying33 rfl held33 (FitF.cons (x := (.bool r1.1.fAddr.fV6)) (y := (.bool a0.fAddr.fV6)) (by decide) rfl tyS4 ⟨rfl, rfl⟩ ⟨rfl, rfl⟩ (FitE.bool (h := 0) r1.1.fAddr.fV6 a0.fAddr.fV6 Try.underlying4) (FitF.cons (x := (.int .u64 r1.1.fAddr.fHi)) (y := (.int .u64 a0.fAddr.fHi)) (by decide) rfl tyS31 ⟨rfl, rfl⟩ ⟨rfl, rfl⟩ (FitE.int (h := 0) r1.1.fAddr.fHi a0.fAddr.fHi Try.underlying31) (FitF.cons (x := (.int .u64 r1.1.fAddr.fLo)) (y := (.int .u64 a0.fAddr.fLo)) (by decide) rfl tyS31 ⟨rfl, rfl⟩ ⟨rfl, rfl⟩ (FitE.int (h := 0) r1.1.fAddr.fLo a0.fAddr.fLo Try.underlying31) FitF.nil)))) (FitF.cons (x := (.int .i64 r1.1.fLen)) (y := (.int .i64 a0.fLen)) (by decide) rfl tyS3 ⟨rfl, rfl⟩ ⟨rfl, rfl⟩ (FitE.int (h := 1) r1.1.fLen a0.fLen Try.underlying3) FitF.nil))) eqg37 ⟨rfl, rfl⟩ (by rfl) (ltN hN rfl) (q 17) (q 18)) (OptL.opt (OptL.opt OptL.nil)) (GuardV.plain _)) rfl (c (OpJ.pickAnd rfl (ltN hN rfl) (q 16) (q 19)) rfl (c (OpJ.assign (ltN hN rfl) (q 20)) rfl cn)))))))) ?_
  refine gh [(4, _)] [] hB rfl rfl (by rfl) ?_
  refine AWp.ret ?_
  obtain rfl := Option.some.inj h
  exact ⟨.inl rfl, _, _, (kp [(4, _)] [] hB rfl rfl (by rfl)), [(bo ((r1.2 == (0 : Int)) && (((r1.1.fAddr.fV6 == a0.fAddr.fV6) && ((r1.1.fAddr.fHi == a0.fAddr.fHi) && ((r1.1.fAddr.fLo == a0.fAddr.fLo) && true))) && ((r1.1.fLen == a0.fLen) && true))))], (Res.tmp (by rfl) (by rfl) Res.nil), rfl, by rfl, by rfl, by rfl⟩

noncomputable def exchangepointref02_Covers (a0 : api_Prefix) (a1 : api_Prefix) : Option (Bool) :=
  jn (fun m3 : Bool =>
  some m3) (fun j4 =>
  (if (decide (a0.fLen ≤ a1.fLen)) = true then
  (exchangepointref02_Contains a0 a1.fAddr).bind fun r6 =>
  j4 r6
  else
  j4 false))
set_option maxHeartbeats 4000000 in
set_option maxRecDepth 100000 in
theorem exchangepointref02_Covers_ac (a0 : api_Prefix) (a1 : api_Prefix) (r : Bool) (h : exchangepointref02_Covers a0 a1 = some r) : AC Try.prog 21 [(.d (e_api_Prefix a0)), (.d (e_api_Prefix a1))] [] (.d (.bool r)) [] := by
  refine AC.of_code2 Try.func21 rfl rfl (Nat.le_of_ble_eq_true (by rfl)) fun B hB hN => ?_
  have L {d : Nat} (h : Nat.blt d Try.f21.ntmps = true) : d < B.N := ltN hN h
  delta exchangepointref02_Covers at h
  refine sr (cg (OpJ.box hB (nm := 1002) (by decide) (by simp) rfl (L rfl) (q 0)) rfl (cg (OpJ.box hB (nm := 1003) (by decide) (by simp) rfl (L rfl) (q 1)) rfl (c (OpJ.assign (L rfl) (Opd.bool false)) rfl cn))) ?_
  refine gh [(2, _), (3, _)] [(1002, some _), (1003, some _)] hB rfl rfl (by rfl) ?_
  refine AWp.seq ?_
  refine AWp.cut h (fun m3 : Bool => ([(4, (bo m3))] : EL)) (fun m3 : Bool => ([] : OL)) (fun m3 h E' O' hmat => ?_) (fun j4 hjj4 h => ?_)
  · refine seqQ_n ?_
    refine AWp.ghost hmat ?_
    refine AWp.ret ?_
    obtain rfl := Option.some.inj h
    exact ⟨.inl rfl, _, _, (kp [(4, _)] [] hB rfl rfl (by rfl)), [(bo m3)], (Res.tmp (by rfl) (by rfl) Res.nil), rfl, by rfl, by rfl, by rfl⟩
  · rcases Bool.eq_false_or_eq_true (decide (a0.fLen ≤ a1.fLen)) with hg5 | hg5
    · replace h := ite_t hg5 h
      obtain ⟨r6, hr6, h⟩ := bindS h
      refine rg (c (ov (.ptr 1003 3 [1]) (fp hN Try.underlying37 3 tyS3 _ (q 3))) rfl (c (lb hN 37 _ _ tyS3 (ad _) (q 5)) rfl (c (ov (.ptr 1002 3 [1]) (fp hN Try.underlying37 3 tyS3 _ (q 2))) rfl (c (lb hN 37 _ _ tyS3 (ad _) (q 7)) rfl (c (OpJ.geq (L rfl) (q 6) (q 8)) rfl (c (OpJ.val (v' := .d (.bool true)) (by rw [hg5]) (mv hN (q 9))) rfl (c (OpJ.guarded (g := 10) (by rfl) (lb hN 37 _ _ tyS37 (At.here _) (q 2))) rfl (c (OpJ.guarded (g := 10) (by rfl) (ov (.ptr 1003 0 [0]) (fp hN Try.underlying37 0 tyS33 _ (q 3)))) rfl (c (OpJ.guarded (g := 10) (by rfl) (lb hN 37 _ _ tyS33 (ad _) (q 12))) rfl (cg (OpJ.guarded (g := 10) (by rfl) (OpJ.callFn hB fnOk35 (exchangepointref02_Contains_ac a0 a1.fAddr r6 hr6) [] (by kernel_rfl) (L rfl) (by kernel_rfl) (OpdL.cons (q 11) (OpdL.cons (q 13) OpdL.nil)))) rfl (c (OpJ.pickT (L rfl) (q 10) (q 14)) rfl (c (OpJ.assign (L rfl) (q 15)) rfl cn)))))))))))) ?_
      exact hjj4 _ h _ _ (Mat.trans (mp [] [(4, (bo r6))] [] hB) (mp [] _ _ hB))
    · replace h := ite_f hg5 h
      refine rg (c (ov (.ptr 1003 3 [1]) (fp hN Try.underlying37 3 tyS3 _ (q 3))) rfl (c (lb hN 37 _ _ tyS3 (ad _) (q 5)) rfl (c (ov (.ptr 1002 3 [1]) (fp hN Try.underlying37 3 tyS3 _ (q 2))) rfl (c (lb hN 37 _ _ tyS3 (ad _) (q 7)) rfl (c (OpJ.geq (L rfl) (q 6) (q 8)) rfl (c (OpJ.val (v' := .d (.bool false)) (by rw [hg5]) (mv hN (q 9))) rfl (cg (OpJ.skipU (g := 10) (L rfl) (by rfl)) rfl (cg (OpJ.skipU (g := 10) (L rfl) (by rfl)) rfl (cg (OpJ.skipU (g := 10) (L rfl) (by rfl)) rfl (cg (OpJ.skipU (g := 10) (L rfl) (by rfl)) rfl (c (OpJ.pickF (L rfl) (q 10) (Opd.bool false)) rfl (c (OpJ.assign (L rfl) (q 15)) rfl cn)))))))))))) ?_
      exact hjj4 _ h _ _ (Mat.trans (mp [] [(4, (bo false))] [] hB) (mp [] _ _ hB))

noncomputable def exchangepointref03_Covering_L0 (a0 : (List api_Entry)) (a1 : api_Prefix) (s1 : Int × (List api_Entry)) : Option ((((List api_Entry))) ⊕ (Int × (List api_Entry))) :=
  (if (decide (s1.1 < (a0.length : Int))) = true then
  (idx a0 s1.1).bind fun x22 =>
  (exchangepointref02_Covers x22.fPrefix a1).bind fun r23 =>
  jn (fun m26 : (List api_Entry) =>
  some (.inr ((w64 (s1.1 + (1 : Int))), m26))) (fun j27 =>
  (if r23 = true then
  chk (decide ((s1.2 ++ ([x22] : List api_Entry)).length ≤ LIM)) <|
  j27 (s1.2 ++ ([x22] : List api_Entry))
  else
  j27 s1.2))
  else
  some (.inl s1.2))
noncomputable def exchangepointref03_Covering (a0 : (List api_Entry)) (a1 : api_Prefix) : Option ((List api_Entry)) :=
  (loop (exchangepointref03_Covering_L0 a0 a1) ((0 : Int), ([] : List api_Entry))).bind fun p20 =>
  some p20
set_option maxHeartbeats 4000000 in
set_option maxRecDepth 100000 in
theorem exchangepointref03_Covering_ac (a0 : (List api_Entry)) (a1 : api_Prefix) (r : (List api_Entry)) (h : exchangepointref03_Covering a0 a1 = some r) : AC Try.prog 30 [(.d (.list 5 (a0.map e_api_Entry))), (.d (e_api_Prefix a1))] [] (.d (.list 5 (r.map e_api_Entry))) [] := by
  refine AC.of_code2 Try.func30 rfl rfl (Nat.le_of_ble_eq_true (by rfl)) fun B hB hN => ?_
  have L {d : Nat} (h : Nat.blt d Try.f30.ntmps = true) : d < B.N := ltN hN h
  delta exchangepointref03_Covering at h
  refine sr (cg (OpJ.box hB (nm := 1003) (by decide) (by simp) rfl (L rfl) (q 1)) rfl (c (OpJ.assign (L rfl) Opd.nils) rfl cn)) ?_
  refine gh [(0, _), (3, _)] [(1003, some _)] hB rfl rfl (by rfl) ?_
  refine sr (c (OpJ.assign (L rfl) Opd.nils) rfl cn) ?_
  refine gh [(0, _), (3, _), (5, _)] [(1003, some _)] hB rfl rfl (by rfl) ?_
  refine AWp.seq ?_
  refine sr (c (mv hN (q 0)) rfl (c (OpJ.val (v' := (i6 (a0.length : Int))) (by simp) (OpJ.lenD Try.underlying23 (L rfl) (q 8))) rfl (c (mv hN (Opd.int .i64 (0))) rfl cn))) ?_
  refine gh [(3, _), (5, _), (8, _), (9, _), (10, _)] [(1003, some _)] hB rfl rfl (by rfl) ?_
  refine AWp.block ?_
  obtain ⟨p20, hx31, h⟩ := bindS h
  refine lg (exchangepointref03_Covering_L0 a0 a1) (fun s1 : Int × (List api_Entry) => ([(3, (.ptr 1003 0 [])), (5, (.sref 3005 5 0 s1.2.length)), (8, (qe_api_Entry_5 a0)), (9, (i6 (a0.length : Int))), (10, (i6 s1.1))] : EL)) (fun s1 : Int × (List api_Entry) => ([(1003, some (.box 37 (.d (e_api_Prefix a1)))), (3005, some (we_api_Entry_39_5 s1.2))] : OL)) (fun (p20 : ((List api_Entry))) e E' O' => e = .exit 0 ∧ Mat B E' O' ([(5, (.sref 3005 5 0 p20.length))] : EL) ([(3005, some (we_api_Entry_39_5 p20))] : OL)) hx31 (Mat.trans (Mat.beginP (n := 3005) (e := 39) (sz := 5) (Ts := [(5, (.sref 3005 5 0 0))]) (Bs := []) hB (by decide) (by rfl) (by decide) (TwT.cons (x := .nils) (by rfl) (Tw.leaf ⟨rfl, rfl⟩) TwT.nil) TwB.nil) (mp [] _ _ hB)) (fun s1 y h => ?_) (fun e E' O' hR => ?_)
  · unfold exchangepointref03_Covering_L0 at h
    refine sr (c (OpJ.lss (L rfl) (q 10) (q 9)) rfl cn) ?_
    refine gh [(3, _), (5, _), (8, _), (9, _), (10, _), (11, _)] [(1003, some _), (3005, some _)] hB rfl rfl (by rfl) ?_
    refine AWp.seq ?_
    refine AWp.cond rfl (fun hg21 => ?_) (fun hg21 => ?_)
    · replace h := ite_t hg21 h
      refine AWp.skip ?_
      refine seqQ_n ?_
      refine AWp.seq ?_
      refine AWp.block ?_
      obtain ⟨x22, hx22, h⟩ := bindS h
      refine sr (c (OpJ.indexD Try.underlying23 tyS39 (idx_some hx22).1 (get_map e_api_Entry (idx_some hx22).2) (L rfl) (q 8) (q 10)) rfl (c (OpJ.loadD tyS39 (by rfl) (by rfl) (L rfl) (q 12)) rfl (cg (OpJ.alloc hB tyZ39 (nm := 1007) (by decide) (L rfl)) rfl (cg (OpJ.storeB tyS39 (SetAt.here _ _) (by rfl) (by rfl) (by simp) rfl (q 7) (q 13)) rfl cn)))) ?_
      refine gh [(3, _), (5, _), (7, _), (8, _), (9, _), (10, _)] [(1003, some _), (1007, some _), (3005, some _)] hB rfl rfl (by rfl) ?_
      obtain ⟨r23, hr23, h⟩ := bindS h
      refine sr (c (ov (.ptr 1007 0 [0]) (fp hN Try.underlying39 0 tyS37 _ (q 7))) rfl (c (lb hN 39 _ _ tyS37 (ad _) (q 14)) rfl (c (lb hN 37 _ _ tyS37 (At.here _) (q 3)) rfl (cg (OpJ.callFn hB fnOk21 (exchangepointref02_Covers_ac x22.fPrefix a1 r23 hr23) [] (by kernel_rfl) (L rfl) (by kernel_rfl) (OpdL.cons (q 15) (OpdL.cons (q 16) OpdL.nil))) rfl cn)))) ?_
      refine gh [(3, _), (5, _), (7, _), (8, _), (9, _), (10, _), (17, _)] [(1003, some _), (1007, some _), (3005, some _)] hB rfl rfl (by rfl) ?_
      refine AWp.cut h (fun m26 : (List api_Entry) => ([(3, (.ptr 1003 0 [])), (5, (.sref 3005 5 0 m26.length)), (8, (qe_api_Entry_5 a0)), (9, (i6 (a0.length : Int))), (10, (i6 s1.1))] : EL)) (fun m26 : (List api_Entry) => ([(1003, some (.box 37 (.d (e_api_Prefix a1)))), (3005, some (we_api_Entry_39_5 m26))] : OL)) (fun m26 h E' O' hmat => ?_) (fun j27 hjj27 h => ?_)
      · refine blkQ_n ?_
        refine seqQ_n ?_
        refine AWp.ghost hmat ?_
        refine rg (c (add6 (L rfl) (q 10) (Opd.int .i64 (1))) rfl (c (mv hN (q 22)) rfl cn)) ?_
        obtain rfl := Option.some.inj h
        exact ⟨rfl, (Mat.trans (mp [] [(3, (.ptr 1003 0 [])), (5, (.sref 3005 5 0 m26.length)), (8, (qe_api_Entry_5 a0)), (9, (i6 (a0.length : Int))), (10, (i6 (w64 (s1.1 + (1 : Int)))))] [(1003, some (.box 37 (.d (e_api_Prefix a1)))), (3005, some (we_api_Entry_39_5 m26))] hB) (mp [] _ _ hB))⟩
      · refine AWp.cond rfl (fun hg28 => ?_) (fun hg28 => ?_)
        · replace h := ite_t hg28 h
          obtain ⟨hc29, h⟩ := chk_some h
          refine rg (c (mv hN (q 5)) rfl (c (lb hN 39 _ _ tyS39 (At.here _) (q 7)) rfl (c (OpJ.buildSlice Try.underlying23 tyS39 tyZD39 (by rfl) (by decide) (by decide) (Opds.cons (q 19) Opds.nil) (by kernel_rfl) (es := ([(e_api_Entry x22)] : List D)) (by rfl) (by rfl) (by kernel_rfl) (by simp) (L rfl)) rfl (cg (OpJ.append hB Try.underlying23 tyE39 (nm := 1021) (by decide) (es := s1.2.map e_api_Entry) (ys := ([x22] : List api_Entry).map e_api_Entry) (es' := (s1.2 ++ ([x22] : List api_Entry)).map e_api_Entry) (len := (s1.2 ++ ([x22] : List api_Entry)).length) (by simp) (by simp) (map_sz (f := e_api_Entry) (fun _ => rfl)) (by rw [List.length_map]; exact lim_mulN hc29 (by decide)) (by rw [List.length_map]; exact lim_leN hc29) (L rfl) (by simp) (q 18) (q 20)) rfl (c (OpJ.assign (L rfl) (q 21)) rfl cn))))) ?_
          exact hjj27 _ h _ _ (Mat.trans (mp [] [(3, (.ptr 1003 0 [])), (5, (.sref 1021 5 0 ((s1.2 ++ ([x22] : List api_Entry)).length))), (8, (qe_api_Entry_5 a0)), (9, (i6 (a0.length : Int))), (10, (i6 s1.1))] [(1003, some (.box 37 (.d (e_api_Prefix a1)))), (1021, some (we_api_Entry_39_5 (s1.2 ++ ([x22] : List api_Entry))))] hB) (mp [(3005, 1021)] _ _ hB))
        · replace h := ite_f hg28 h
          refine AWp.skip ?_
          exact hjj27 _ h _ _ (mp [] _ _ hB)
    · replace h := ite_f hg21 h
      refine AWp.exit ?_
      refine seqQ_e ?_
      obtain rfl := Option.some.inj h
      exact ⟨(fun hc => by cases hc), rfl, (mp [] _ _ hB)⟩
  · obtain ⟨rfl, hmat⟩ := hR
    refine blkQ_hit ?_
    refine seqQ_n ?_
    refine AWp.ghost hmat ?_
    refine sr (c (mv hN (q 5)) rfl (c (OpJ.assign (L rfl) (q 23)) rfl cn)) ?_
    refine gh [(4, _)] [(3005, some _)] hB rfl rfl (by rfl) ?_
    refine AWp.ret ?_
    obtain rfl := Option.some.inj h
    exact ⟨.inl rfl, _, _, (Mat.trans (Mat.freezeP (n := 3005) (e := 39) (sz := 5) (es := p20.map e_api_Entry) (Ts := [(4, (qe_api_Entry_5 p20))]) (Bs := []) (by rfl) (TwT.cons (x := (.sref 3005 5 0 p20.length)) (by rfl) (FrzL.all (by first | rfl | (simp; done) | (simp; omega))) TwT.nil) TwB.nil) (mp [] [(4, (qe_api_Entry_5 p20))] [] hB)), [(qe_api_Entry_5 p20)], (Res.tmp (by rfl) (by rfl) Res.nil), rfl, by rfl, by rfl, by rfl⟩

noncomputable def exchangepointref03_Aggregate_L1 (s2 : (List api_Entry) × Int) (s170 : (List api_Entry) × Int) : Option ((((List api_Entry))) ⊕ ((List api_Entry) × Int)) :=
  (if (decide (s170.2 < (s2.1.length : Int))) = true then
  jn (fun m234 : (List api_Entry) =>
  some (.inr (m234, (w64 (s170.2 + (1 : Int)))))) (fun j235 =>
  (idx s2.1 s170.2).bind fun x236 =>
  (idx s2.1 s170.2).bind fun x237 =>
  (if (x237.fPrefix.fLen != s2.2) = true then
  j235 s170.1
  else
  (exchangepointref02_Make x237.fPrefix.fAddr (w64 (s2.2 - (1 : Int)))).bind fun r239 =>
  (exchangepointref02_Halves r239.1).bind fun r240 =>
  (exchangepointref03_Get s170.1 r240.1).bind fun r241 =>
  (exchangepointref03_Get s170.1 r240.2.1).bind fun r242 =>
  (if ((r241.2 && r242.2) && (r241.1 == r242.1)) = true then
  (exchangepointref03_without s170.1 r240.1).bind fun r244 =>
  (exchangepointref03_without r244 r240.2.1).bind fun r245 =>
  (exchangepointref03_set r245 r239.1 r241.1).bind fun r246 =>
  j235 r246
  else
  j235 s170.1)))
  else
  some (.inl s170.1))
noncomputable def exchangepointref03_Aggregate_L0 (s2 : (List api_Entry) × Int) : Option ((((List api_Entry))) ⊕ ((List api_Entry) × Int)) :=
  (if (decide ((1 : Int) ≤ s2.2)) = true then
  chk (decide (s2.1.length ≤ LIM)) <|
  (loop (exchangepointref03_Aggregate_L1 s2) (s2.1, (0 : Int))).bind fun p221 =>
  some (.inr (p221, (w64 (s2.2 - (1 : Int)))))
  else
  some (.inl s2.1))
noncomputable def exchangepointref03_Aggregate_L2 (p167 : (List api_Entry)) (s251 : Int × (List api_Entry)) : Option ((((List api_Entry))) ⊕ (Int × (List api_Entry))) :=
  (if (decide (s251.1 < (p167.length : Int))) = true then
  (idx p167 s251.1).bind fun x284 =>
  (exchangepointref03_Covering p167 x284.fPrefix).bind fun r285 =>
  jn (fun m288 : Bool =>
  jn (fun m292 : (List api_Entry) =>
  some (.inr ((w64 (s251.1 + (1 : Int))), m292))) (fun j293 =>
  (if m288 = true then
  chk (decide ((s251.2 ++ ([x284] : List api_Entry)).length ≤ LIM)) <|
  j293 (s251.2 ++ ([x284] : List api_Entry))
  else
  j293 s251.2))) (fun j289 =>
  (if (decide ((r285.length : Int) < (2 : Int))) = true then
  j289 true
  else
  (idx r285 (w64 ((r285.length : Int) - (2 : Int)))).bind fun x297 =>
  j289 (x297.fValue != x284.fValue)))
  else
  some (.inl s251.2))
noncomputable def exchangepointref03_Aggregate (a0 : (List api_Entry)) : Option ((List api_Entry)) :=
  chk (decide (a0.length ≤ LIM)) <|
  (loop (exchangepointref03_Aggregate_L0) (a0, (128 : Int))).bind fun p167 =>
  (loop (exchangepointref03_Aggregate_L2 p167) ((0 : Int), ([] : List api_Entry))).bind fun p282 =>
  some p282
set_option maxHeartbeats 4000000 in
set_option maxRecDepth 100000 in
theorem exchangepointref03_Aggregate_ac (a0 : (List api_Entry)) (r : (List api_Entry)) (h : exchangepointref03_Aggregate a0 = some r) : AC Try.prog 14 [(.d (.list 5 (a0.map e_api_Entry)))] [] (.d (.list 5 (r.map e_api_Entry))) [] := by
  refine AC.of_code2 Try.func14 rfl rfl (Nat.le_of_ble_eq_true (by rfl)) fun B hB hN => ?_
  have L {d : Nat} (h : Nat.blt d Try.f14.ntmps = true) : d < B.N := ltN hN h
  delta exchangepointref03_Aggregate at h
  refine sr (c (OpJ.assign (L rfl) Opd.nils) rfl cn) ?_
  refine gh [(0, _)] [] hB rfl rfl (by rfl) ?_
  obtain ⟨hc1, h⟩ := chk_some h
  refine sr (c (mv hN (q 0)) rfl (cg (OpJ.appendN hB Try.underlying23 tyE39 (nm := 1021) (by decide) (ys := a0.map e_api_Entry) (len := a0.length) (by simp) (map_sz (f := e_api_Entry) (fun _ => rfl)) (by rw [List.length_map]; exact lim_mulN hc1 (by decide)) (by rw [List.length_map]; exact lim_leN hc1) (L rfl) Opd.nils (q 20)) rfl (c (OpJ.assign (L rfl) (q 21)) rfl cn))) ?_
  refine gh [(3, _)] [(1021, some _)] hB rfl rfl (by rfl) ?_
  refine AWp.seq ?_
  refine sr (c (OpJ.assign (L rfl) (Opd.int .i64 (128))) rfl cn) ?_
  refine gh [(3, _), (4, _)] [(1021, some _)] hB rfl rfl (by rfl) ?_
  refine AWp.block ?_
  obtain ⟨p167, hx250, h⟩ := bindS h
  refine lg (exchangepointref03_Aggregate_L0) (fun s2 : (List api_Entry) × Int => ([(3, (qe_api_Entry_5 s2.1)), (4, (i6 s2.2))] : EL)) (fun s2 : (List api_Entry) × Int => ([] : OL)) (fun (p167 : ((List api_Entry))) e E' O' => e = .exit 0 ∧ Mat B E' O' ([(3, (qe_api_Entry_5 p167))] : EL) ([] : OL)) hx250 (Mat.trans (Mat.freezeP (n := 1021) (e := 39) (sz := 5) (es := a0.map e_api_Entry) (Ts := [(3, (qe_api_Entry_5 a0))]) (Bs := []) (by rfl) (TwT.cons (x := (.sref 1021 5 0 a0.length)) (by rfl) (FrzL.all (by first | rfl | (simp; done) | (simp; omega))) TwT.nil) TwB.nil) (mp [] _ _ hB)) (fun s2 y h => ?_) (fun e E' O' hR => ?_)
  · unfold exchangepointref03_Aggregate_L0 at h
    refine AWp.seq ?_
    refine sr (c (mv hN (q 4)) rfl (c (OpJ.geq (L rfl) (q 22) (Opd.int .i64 (1))) rfl cn)) ?_
    refine gh [(3, _), (4, _), (23, _)] [] hB rfl rfl (by rfl) ?_
    refine AWp.cond rfl (fun hg168 => ?_) (fun hg168 => ?_)
    · replace h := ite_t hg168 h
      refine AWp.skip ?_
      refine seqQ_n ?_
      refine AWp.seq ?_
      refine AWp.block ?_
      obtain ⟨hc169, h⟩ := chk_some h
      refine sr (c (mv hN (q 3)) rfl (cg (OpJ.appendN hB Try.underlying23 tyE39 (nm := 1027) (by decide) (ys := s2.1.map e_api_Entry) (len := s2.1.length) (by simp) (map_sz (f := e_api_Entry) (fun _ => rfl)) (by rw [List.length_map]; exact lim_mulN hc169 (by decide)) (by rw [List.length_map]; exact lim_leN hc169) (L rfl) Opd.nils (q 26)) rfl (c (OpJ.lenS Try.underlying23 (L rfl) (q 27)) rfl (c (mv hN (Opd.int .i64 (0))) rfl cn)))) ?_
      refine gh [(3, _), (4, _), (27, _), (28, _), (29, _)] [(1027, some _)] hB rfl rfl (by rfl) ?_
      refine AWp.block ?_
      obtain ⟨p221, hx248, h⟩ := bindS h
      refine lg (exchangepointref03_Aggregate_L1 s2) (fun s170 : (List api_Entry) × Int => ([(3, (qe_api_Entry_5 s170.1)), (4, (i6 s2.2)), (27, (.sref 1027 5 0 s2.1.length)), (28, (i6 (s2.1.length : Int))), (29, (i6 s170.2))] : EL)) (fun s170 : (List api_Entry) × Int => ([(1027, some (we_api_Entry_39_5 s2.1))] : OL)) (fun (p221 : ((List api_Entry))) e E' O' => e = .exit 2 ∧ Mat B E' O' ([(3, (qe_api_Entry_5 p221)), (4, (i6 s2.2))] : EL) ([] : OL)) hx248 (mp [] _ _ hB) (fun s170 y h => ?_) (fun e E' O' hR => ?_)
      · unfold exchangepointref03_Aggregate_L1 at h
        refine sr (c (OpJ.lss (L rfl) (q 29) (q 28)) rfl cn) ?_
        refine gh [(3, _), (4, _), (27, _), (28, _), (29, _), (30, _)] [(1027, some _)] hB rfl rfl (by rfl) ?_
        refine AWp.seq ?_
        refine AWp.cond rfl (fun hg222 => ?_) (fun hg222 => ?_)
        · replace h := ite_t hg222 h
          refine AWp.skip ?_
          refine seqQ_n ?_
          refine AWp.seq ?_
          refine AWp.cut h (fun m234 : (List api_Entry) => ([(3, (qe_api_Entry_5 m234)), (4, (i6 s2.2)), (27, (.sref 1027 5 0 s2.1.length)), (28, (i6 (s2.1.length : Int))), (29, (i6 s170.2))] : EL)) (fun m234 : (List api_Entry) => ([(1027, some (we_api_Entry_39_5 s2.1))] : OL)) (fun m234 h E' O' hmat => ?_) (fun j235 hjj235 h => ?_)
          · refine seqQ_n ?_
            refine AWp.ghost hmat ?_
            refine rg (c (add6 (L rfl) (q 29) (Opd.int .i64 (1))) rfl (c (mv hN (q 82)) rfl cn)) ?_
            obtain rfl := Option.some.inj h
            exact ⟨rfl, (Mat.trans (mp [] [(3, (qe_api_Entry_5 m234)), (4, (i6 s2.2)), (27, (.sref 1027 5 0 s2.1.length)), (28, (i6 (s2.1.length : Int))), (29, (i6 (w64 (s170.2 + (1 : Int)))))] [(1027, some (we_api_Entry_39_5 s2.1))] hB) (mp [] _ _ hB))⟩
          · refine AWp.block ?_
            obtain ⟨x236, hx236, h⟩ := bindS h
            obtain ⟨x237, hx237, h⟩ := bindS h
            refine sr (c (OpJ.val (v' := (.ptr 1027 (s170.2.toNat * 5) [s170.2.toNat])) (by simp) (OpJ.indexS Try.underlying23 tyS39 (idx_some hx236).1 (by have := idx_lt hx236; first | (simpa using this) | ((try simp only [List.length_map] at this); (try simp only [List.length_map]); omega)) (L rfl) (q 27) (q 29))) rfl (c (OpJ.loadR (e := 39) (sz := 5) tyS39 (get_map e_api_Entry (idx_some hx237).2) (o := 0) (At.here _) (by rfl) (by rfl) (by rfl) (L rfl) (q 31)) rfl (cg (OpJ.alloc hB tyZ39 (nm := 1006) (by decide) (L rfl)) rfl (cg (OpJ.storeB tyS39 (SetAt.here _ _) (by rfl) (by rfl) (by simp) rfl (q 6) (q 32)) rfl cn)))) ?_
            refine gh [(3, _), (4, _), (6, _), (27, _), (28, _), (29, _)] [(1006, some _), (1027, some _)] hB rfl rfl (by rfl) ?_
            refine AWp.seq ?_
            refine sr (c (ov (.ptr 1006 0 [0]) (fp hN Try.underlying39 0 tyS37 _ (q 6))) rfl (c (ov (.ptr 1006 3 [0, 1]) (fp hN Try.underlying37 3 tyS3 _ (q 33))) rfl (c (lb hN 39 _ _ tyS3 (At.dst1 (by rfl) (by rfl) (ad _) (by first | rfl | omega)) (q 34)) rfl (c (mv hN (q 4)) rfl (c (OpJ.neqI (L rfl) (q 35) (q 36)) rfl cn))))) ?_
            refine gh [(3, _), (4, _), (6, _), (27, _), (28, _), (29, _), (37, _)] [(1006, some _), (1027, some _)] hB rfl rfl (by rfl) ?_
            refine AWp.cond rfl (fun hg238 => ?_) (fun hg238 => ?_)
            · replace h := ite_t hg238 h
              refine AWp.exit ?_
              refine seqQ_e ?_
              refine blkQ_hit ?_
              exact hjj235 _ h _ _ (mp [] _ _ hB)
            · replace h := ite_f hg238 h
              refine AWp.skip ?_
              refine seqQ_n ?_
              obtain ⟨r239, hr239, h⟩ := bindS h
              refine sr (c (ov (.ptr 1006 0 [0]) (fp hN Try.underlying39 0 tyS37 _ (q 6))) rfl (c (ov (.ptr 1006 0 [0, 0]) (fp hN Try.underlying37 0 tyS33 _ (q 39))) rfl (c (lb hN 39 _ _ tyS33 (At.dst1 (by rfl) (by rfl) (ad _) (by first | rfl | omega)) (q 40)) rfl (c (mv hN (q 4)) rfl (c (sub6 (L rfl) (q 42) (Opd.int .i64 (1))) rfl (cg (OpJ.callFn hB fnOk18 (exchangepointref02_Make_ac x237.fPrefix.fAddr (w64 (s2.2 - (1 : Int))) r239 hr239) [] (by kernel_rfl) (L rfl) (by kernel_rfl) (OpdL.cons (q 41) (OpdL.cons (q 43) OpdL.nil))) rfl (c (mv hN (q 44)) rfl (c (OpJ.extract (by rfl) rfl (L rfl) (q 38)) rfl (c (OpJ.extract (by rfl) rfl (L rfl) (q 38)) rfl (cg (OpJ.alloc hB tyZ37 (nm := 1007) (by decide) (L rfl)) rfl (cg (OpJ.storeB tyS37 (SetAt.here _ _) (by rfl) (by rfl) (by simp) rfl (q 7) (q 45)) rfl (c (OpJ.assign (L rfl) (q 46)) rfl cn)))))))))))) ?_
              refine gh [(3, _), (4, _), (7, _), (27, _), (28, _), (29, _)] [(1007, some _), (1027, some _)] hB rfl rfl (by rfl) ?_
              obtain ⟨r240, hr240, h⟩ := bindS h
              refine sr (c (lb hN 37 _ _ tyS37 (At.here _) (q 7)) rfl (cg (OpJ.callFn hB fnOk40 (exchangepointref02_Halves_ac r239.1 r240 hr240) [] (by kernel_rfl) (L rfl) (by kernel_rfl) (OpdL.cons (q 48) OpdL.nil)) rfl (c (mv hN (q 49)) rfl (c (OpJ.extract (by rfl) rfl (L rfl) (q 47)) rfl (c (OpJ.extract (by rfl) rfl (L rfl) (q 47)) rfl (c (OpJ.extract (by rfl) rfl (L rfl) (q 47)) rfl (cg (OpJ.alloc hB tyZ37 (nm := 1009) (by decide) (L rfl)) rfl (cg (OpJ.alloc hB tyZ37 (nm := 1010) (by decide) (L rfl)) rfl (cg (OpJ.storeB tyS37 (SetAt.here _ _) (by rfl) (by rfl) (by simp) rfl (q 9) (q 50)) rfl (cg (OpJ.storeB tyS37 (SetAt.here _ _) (by rfl) (by rfl) (by simp) rfl (q 10) (q 51)) rfl (c (OpJ.assign (L rfl) (q 52)) rfl cn))))))))))) ?_
              refine gh [(3, _), (4, _), (7, _), (9, _), (10, _), (27, _), (28, _), (29, _)] [(1007, some _), (1009, some _), (1010, some _), (1027, some _)] hB rfl rfl (by rfl) ?_
              obtain ⟨r241, hr241, h⟩ := bindS h
              refine sr (c (mv hN (q 3)) rfl (c (lb hN 37 _ _ tyS37 (At.here _) (q 9)) rfl (cg (OpJ.callFn hB fnOk29 (exchangepointref03_Get_ac s170.1 r240.1 r241 hr241) [] (by kernel_rfl) (L rfl) (by kernel_rfl) (OpdL.cons (q 54) (OpdL.cons (q 55) OpdL.nil))) rfl (c (mv hN (q 56)) rfl (c (OpJ.extract (by rfl) rfl (L rfl) (q 53)) rfl (c (OpJ.extract (by rfl) rfl (L rfl) (q 53)) rfl (c (OpJ.assign (L rfl) (q 57)) rfl (c (OpJ.assign (L rfl) (q 58)) rfl cn)))))))) ?_
              refine gh [(3, _), (4, _), (7, _), (9, _), (10, _), (12, _), (13, _), (27, _), (28, _), (29, _)] [(1007, some _), (1009, some _), (1010, some _), (1027, some _)] hB rfl rfl (by rfl) ?_
              obtain ⟨r242, hr242, h⟩ := bindS h
              refine sr (c (mv hN (q 3)) rfl (c (lb hN 37 _ _ tyS37 (At.here _) (q 10)) rfl (cg (OpJ.callFn hB fnOk29 (exchangepointref03_Get_ac s170.1 r240.2.1 r242 hr242) [] (by kernel_rfl) (L rfl) (by kernel_rfl) (OpdL.cons (q 60) (OpdL.cons (q 61) OpdL.nil))) rfl (c (mv hN (q 62)) rfl (c (OpJ.extract (by rfl) rfl (L rfl) (q 59)) rfl (c (OpJ.extract (by rfl) rfl (L rfl) (q 59)) rfl (c (OpJ.assign (L rfl) (q 63)) rfl (c (OpJ.assign (L rfl) (q 64)) rfl cn)))))))) ?_
              refine gh [(3, _), (4, _), (7, _), (9, _), (10, _), (12, _), (13, _), (14, _), (15, _), (27, _), (28, _), (29, _)] [(1007, some _), (1009, some _), (1010, some _), (1027, some _)] hB rfl rfl (by rfl) ?_
              refine sr (c (mv hN (q 13)) rfl (c (mv hN (q 65)) rfl (c (oq hN 66 (mv hN (q 15)) (OptL.keep (by rfl) OptL.nil) (GuardV.plain _)) rfl (c (OpJ.pickAnd rfl (L rfl) (q 66) (q 67)) rfl (c (mv hN (q 68)) rfl (c (oq hN 69 (mv hN (q 12)) (OptL.keep (by rfl) OptL.nil) (GuardV.plain _)) rfl (c (oq hN 69 (mv hN (q 14)) (OptL.keep (by rfl) OptL.nil) (GuardV.plain _)) rfl (c (oq hN 69 (OpJ.eqlI (L rfl) (q 70) (q 71)) (OptL.opt (OptL.opt OptL.nil)) (GuardV.plain _)) rfl (c (OpJ.pickAnd rfl (L rfl) (q 69) (q 72)) rfl cn))))))))) ?_
              refine gh [(3, _), (4, _), (7, _), (9, _), (10, _), (12, _), (27, _), (28, _), (29, _), (73, _)] [(1007, some _), (1009, some _), (1010, some _), (1027, some _)] hB rfl rfl (by rfl) ?_
              refine AWp.cond rfl (fun hg243 => ?_) (fun hg243 => ?_)
              · replace h := ite_t hg243 h
                obtain ⟨r244, hr244, h⟩ := bindS h
                obtain ⟨r245, hr245, h⟩ := bindS h
                obtain ⟨r246, hr246, h⟩ := bindS h
                refine dr (c (mv hN (q 3)) rfl (c (lb hN 37 _ _ tyS37 (At.here _) (q 9)) rfl (cg (OpJ.callFn hB fnOk49 (exchangepointref03_without_ac s170.1 r240.1 r244 hr244) [] (by kernel_rfl) (L rfl) (by kernel_rfl) (OpdL.cons (q 74) (OpdL.cons (q 75) OpdL.nil))) rfl (c (lb hN 37 _ _ tyS37 (At.here _) (q 10)) rfl (cg (OpJ.callFn hB fnOk49 (exchangepointref03_without_ac r244 r240.2.1 r245 hr245) [] (by kernel_rfl) (L rfl) (by kernel_rfl) (OpdL.cons (q 76) (OpdL.cons (q 77) OpdL.nil))) rfl (c (lb hN 37 _ _ tyS37 (At.here _) (q 7)) rfl (c (mv hN (q 12)) rfl (cg (OpJ.callFn hB fnOk48 (exchangepointref03_set_ac r245 r239.1 r241.1 r246 hr246) [] (by kernel_rfl) (L rfl) (by kernel_rfl) (OpdL.cons (q 78) (OpdL.cons (q 79) (OpdL.cons (q 80) OpdL.nil)))) rfl (c (OpJ.assign (L rfl) (q 81)) rfl cn))))))))) (by kernel_rfl) (by kernel_rfl) ?_
                refine blkQ_n ?_
                exact hjj235 _ h _ _ (Mat.trans (mp [] [(3, (qe_api_Entry_5 r246)), (4, (i6 s2.2)), (27, (.sref 1027 5 0 s2.1.length)), (28, (i6 (s2.1.length : Int))), (29, (i6 s170.2))] [(1027, some (we_api_Entry_39_5 s2.1))] hB) (mp [] _ _ hB))
              · replace h := ite_f hg243 h
                refine AWp.skip ?_
                refine blkQ_n ?_
                exact hjj235 _ h _ _ (mp [] _ _ hB)
        · replace h := ite_f hg222 h
          refine AWp.exit ?_
          refine seqQ_e ?_
          obtain rfl := Option.some.inj h
          exact ⟨(fun hc => by cases hc), rfl, (mp [] _ _ hB)⟩
      · obtain ⟨rfl, hmat⟩ := hR
        refine blkQ_hit ?_
        refine blkQ_n ?_
        refine seqQ_n ?_
        refine AWp.ghost hmat ?_
        refine rg (c (mv hN (q 4)) rfl (c (sub6 (L rfl) (q 24) (Opd.int .i64 (1))) rfl (c (OpJ.assign (L rfl) (q 25)) rfl cn))) ?_
        obtain rfl := Option.some.inj h
        exact ⟨rfl, (Mat.trans (mp [] [(3, (qe_api_Entry_5 p221)), (4, (i6 (w64 (s2.2 - (1 : Int)))))] [] hB) (mp [] _ _ hB))⟩
    · replace h := ite_f hg168 h
      refine AWp.exit ?_
      refine seqQ_e ?_
      obtain rfl := Option.some.inj h
      exact ⟨(fun hc => by cases hc), rfl, (mp [] _ _ hB)⟩
  · obtain ⟨rfl, hmat⟩ := hR
    refine blkQ_hit ?_
    refine seqQ_n ?_
    refine AWp.ghost hmat ?_
    refine sr (c (OpJ.assign (L rfl) Opd.nils) rfl cn) ?_
    refine gh [(3, _), (16, _)] [] hB rfl rfl (by rfl) ?_
    refine AWp.seq ?_
    refine sr (c (mv hN (q 3)) rfl (c (OpJ.val (v' := (i6 (p167.length : Int))) (by simp) (OpJ.lenD Try.underlying23 (L rfl) (q 83))) rfl (c (mv hN (Opd.int .i64 (0))) rfl cn))) ?_
    refine gh [(3, _), (16, _), (83, _), (84, _), (85, _)] [] hB rfl rfl (by rfl) ?_
    refine AWp.block ?_
    obtain ⟨p282, hx299, h⟩ := bindS h
    refine lg (exchangepointref03_Aggregate_L2 p167) (fun s251 : Int × (List api_Entry) => ([(3, (qe_api_Entry_5 p167)), (16, (.sref 3016 5 0 s251.2.length)), (83, (qe_api_Entry_5 p167)), (84, (i6 (p167.length : Int))), (85, (i6 s251.1))] : EL)) (fun s251 : Int × (List api_Entry) => ([(3016, some (we_api_Entry_39_5 s251.2))] : OL)) (fun (p282 : ((List api_Entry))) e E' O' => e = .exit 4 ∧ Mat B E' O' ([(16, (.sref 3016 5 0 p282.length))] : EL) ([(3016, some (we_api_Entry_39_5 p282))] : OL)) hx299 (Mat.trans (Mat.beginP (n := 3016) (e := 39) (sz := 5) (Ts := [(16, (.sref 3016 5 0 0))]) (Bs := []) hB (by decide) (by rfl) (by decide) (TwT.cons (x := .nils) (by rfl) (Tw.leaf ⟨rfl, rfl⟩) TwT.nil) TwB.nil) (mp [] _ _ hB)) (fun s251 y h => ?_) (fun e E' O' hR => ?_)
    · unfold exchangepointref03_Aggregate_L2 at h
      refine sr (c (OpJ.lss (L rfl) (q 85) (q 84)) rfl cn) ?_
      refine gh [(3, _), (16, _), (83, _), (84, _), (85, _), (86, _)] [(3016, some _)] hB rfl rfl (by rfl) ?_
      refine AWp.seq ?_
      refine AWp.cond rfl (fun hg283 => ?_) (fun hg283 => ?_)
      · replace h := ite_t hg283 h
        refine AWp.skip ?_
        refine seqQ_n ?_
        refine AWp.seq ?_
        refine AWp.block ?_
        obtain ⟨x284, hx284, h⟩ := bindS h
        refine sr (c (OpJ.indexD Try.underlying23 tyS39 (idx_some hx284).1 (get_map e_api_Entry (idx_some hx284).2) (L rfl) (q 83) (q 85)) rfl (c (OpJ.loadD tyS39 (by rfl) (by rfl) (L rfl) (q 87)) rfl (cg (OpJ.alloc hB tyZ39 (nm := 1018) (by decide) (L rfl)) rfl (cg (OpJ.storeB tyS39 (SetAt.here _ _) (by rfl) (by rfl) (by simp) rfl (q 18) (q 88)) rfl cn)))) ?_
        refine gh [(3, _), (16, _), (18, _), (83, _), (84, _), (85, _)] [(1018, some _), (3016, some _)] hB rfl rfl (by rfl) ?_
        obtain ⟨r285, hr285, h⟩ := bindS h
        refine sr (c (mv hN (q 3)) rfl (c (ov (.ptr 1018 0 [0]) (fp hN Try.underlying39 0 tyS37 _ (q 18))) rfl (c (lb hN 39 _ _ tyS37 (ad _) (q 90)) rfl (cg (OpJ.callFn hB fnOk30 (exchangepointref03_Covering_ac p167 x284.fPrefix r285 hr285) [] (by kernel_rfl) (L rfl) (by kernel_rfl) (OpdL.cons (q 89) (OpdL.cons (q 91) OpdL.nil))) rfl (c (OpJ.assign (L rfl) (q 92)) rfl cn))))) ?_
        refine gh [(3, _), (16, _), (18, _), (19, _), (83, _), (84, _), (85, _)] [(1018, some _), (3016, some _)] hB rfl rfl (by rfl) ?_
        refine AWp.seq ?_
        refine AWp.cut h (fun m288 : Bool => ([(3, (qe_api_Entry_5 p167)), (16, (.sref 3016 5 0 s251.2.length)), (18, (.ptr 1018 0 [])), (83, (qe_api_Entry_5 p167)), (84, (i6 (p167.length : Int))), (85, (i6 s251.1)), (107, (bo m288))] : EL)) (fun m288 : Bool => ([(1018, some (.box 39 (.d (e_api_Entry x284)))), (3016, some (we_api_Entry_39_5 s251.2))] : OL)) (fun m288 h E' O' hmat => ?_) (fun j289 hjj289 h => ?_)
        · refine seqQ_n ?_
          refine AWp.ghost hmat ?_
          refine AWp.cut h (fun m292 : (List api_Entry) => ([(3, (qe_api_Entry_5 p167)), (16, (.sref 3016 5 0 m292.length)), (83, (qe_api_Entry_5 p167)), (84, (i6 (p167.length : Int))), (85, (i6 s251.1))] : EL)) (fun m292 : (List api_Entry) => ([(3016, some (we_api_Entry_39_5 m292))] : OL)) (fun m292 h E' O' hmat => ?_) (fun j293 hjj293 h => ?_)
          · refine blkQ_n ?_
            refine seqQ_n ?_
            refine AWp.ghost hmat ?_
            refine rg (c (add6 (L rfl) (q 85) (Opd.int .i64 (1))) rfl (c (mv hN (q 112)) rfl cn)) ?_
            obtain rfl := Option.some.inj h
            exact ⟨rfl, (Mat.trans (mp [] [(3, (qe_api_Entry_5 p167)), (16, (.sref 3016 5 0 m292.length)), (83, (qe_api_Entry_5 p167)), (84, (i6 (p167.length : Int))), (85, (i6 (w64 (s251.1 + (1 : Int)))))] [(3016, some (we_api_Entry_39_5 m292))] hB) (mp [] _ _ hB))⟩
          · refine AWp.cond rfl (fun hg294 => ?_) (fun hg294 => ?_)
            · replace h := ite_t hg294 h
              obtain ⟨hc295, h⟩ := chk_some h
              refine rg (c (mv hN (q 16)) rfl (c (lb hN 39 _ _ tyS39 (At.here _) (q 18)) rfl (c (OpJ.buildSlice Try.underlying23 tyS39 tyZD39 (by rfl) (by decide) (by decide) (Opds.cons (q 109) Opds.nil) (by kernel_rfl) (es := ([(e_api_Entry x284)] : List D)) (by rfl) (by rfl) (by kernel_rfl) (by simp) (L rfl)) rfl (cg (OpJ.append hB Try.underlying23 tyE39 (nm := 1111) (by decide) (es := s251.2.map e_api_Entry) (ys := ([x284] : List api_Entry).map e_api_Entry) (es' := (s251.2 ++ ([x284] : List api_Entry)).map e_api_Entry) (len := (s251.2 ++ ([x284] : List api_Entry)).length) (by simp) (by simp) (map_sz (f := e_api_Entry) (fun _ => rfl)) (by rw [List.length_map]; exact lim_mulN hc295 (by decide)) (by rw [List.length_map]; exact lim_leN hc295) (L rfl) (by simp) (q 108) (q 110)) rfl (c (OpJ.assign (L rfl) (q 111)) rfl cn))))) ?_
              exact hjj293 _ h _ _ (Mat.trans (mp [] [(3, (qe_api_Entry_5 p167)), (16, (.sref 1111 5 0 ((s251.2 ++ ([x284] : List api_Entry)).length))), (83, (qe_api_Entry_5 p167)), (84, (i6 (p167.length : Int))), (85, (i6 s251.1))] [(1111, some (we_api_Entry_39_5 (s251.2 ++ ([x284] : List api_Entry))))] hB) (mp [(3016, 1111)] _ _ hB))
            · replace h := ite_f hg294 h
              refine AWp.skip ?_
              exact hjj293 _ h _ _ (mp [] _ _ hB)
        · rcases Bool.eq_false_or_eq_true (decide ((r285.length : Int) < (2 : Int))) with hg296 | hg296
          · replace h := ite_t hg296 h
            refine dr (c (mv hN (q 19)) rfl (c (OpJ.val (v' := (i6 (r285.length : Int))) (by simp) (OpJ.lenD Try.underlying23 (L rfl) (q 93))) rfl (c (OpJ.lss (L rfl) (q 94) (Opd.int .i64 (2))) rfl (c (OpJ.val (v' := .d (.bool true)) (by rw [hg296]) (mv hN (q 95))) rfl (cg (OpJ.skipU (g := 96) (L rfl) (by rfl)) rfl (cg (OpJ.skipU (g := 96) (L rfl) (by rfl)) rfl (cg (OpJ.skipU (g := 96) (L rfl) (by rfl)) rfl (cg (OpJ.skipU (g := 96) (L rfl) (by rfl)) rfl (cg (OpJ.skipU (g := 96) (L rfl) (by rfl)) rfl (cg (OpJ.skipU (g := 96) (L rfl) (by rfl)) rfl (cg (OpJ.skipU (g := 96) (L rfl) (by rfl)) rfl (cg (OpJ.skipU (g := 96) (L rfl) (by rfl)) rfl (cg (OpJ.skipU (g := 96) (L rfl) (by rfl)) rfl (cg (OpJ.skipU (g := 96) (L rfl) (by rfl)) rfl (c (OpJ.pickT (L rfl) (q 96) (Opd.bool true)) rfl cn))))))))))))))) (by kernel_rfl) (by kernel_rfl) ?_
            exact hjj289 _ h _ _ (Mat.trans (mp [] [(3, (qe_api_Entry_5 p167)), (16, (.sref 3016 5 0 s251.2.length)), (18, (.ptr 1018 0 [])), (83, (qe_api_Entry_5 p167)), (84, (i6 (p167.length : Int))), (85, (i6 s251.1)), (107, (bo true))] [(1018, some (.box 39 (.d (e_api_Entry x284)))), (3016, some (we_api_Entry_39_5 s251.2))] hB) (mp [] _ _ hB))
          · replace h := ite_f hg296 h
            obtain ⟨x297, hx297, h⟩ := bindS h
            refine dr (c (mv hN (q 19)) rfl (c (OpJ.val (v' := (i6 (r285.length : Int))) (by simp) (OpJ.lenD Try.underlying23 (L rfl) (q 93))) rfl (c (OpJ.lss (L rfl) (q 94) (Opd.int .i64 (2))) rfl (c (OpJ.val (v' := .d (.bool false)) (by rw [hg296]) (mv hN (q 95))) rfl (c (OpJ.guarded (g := 96) (by rfl) (mv hN (q 19))) rfl (c (OpJ.guarded (g := 96) (by rfl) (mv hN (q 19))) rfl (c (OpJ.guarded (g := 96) (by rfl) (OpJ.val (v' := (i6 (r285.length : Int))) (by simp) (OpJ.lenD Try.underlying23 (L rfl) (q 98)))) rfl (c (OpJ.guarded (g := 96) (by rfl) (sub6 (L rfl) (q 99) (Opd.int .i64 (2)))) rfl (c (OpJ.guarded (g := 96) (by rfl) (OpJ.indexD Try.underlying23 tyS39 (idx_some hx297).1 (get_map e_api_Entry (idx_some hx297).2) (L rfl) (q 97) (q 100))) rfl (c (OpJ.guarded (g := 96) (by rfl) (OpJ.fieldD Try.underlying39 (by rfl) (o := 4) (by rfl) tyS3 (by decide) (by rfl) (by rfl) (L rfl) (q 101))) rfl (c (OpJ.guarded (g := 96) (by rfl) (OpJ.loadD tyS3 (by rfl) (by rfl) (L rfl) (q 102))) rfl (c (OpJ.guarded (g := 96) (by rfl) (ov (.ptr 1018 4 [1]) (fp hN Try.underlying39 4 tyS3 _ (q 18)))) rfl (c (OpJ.guarded (g := 96) (by rfl) (lb hN 39 _ _ tyS3 (ad _) (q 104))) rfl (c (OpJ.guarded (g := 96) (by rfl) (OpJ.neqI (L rfl) (q 103) (q 105))) rfl (c (OpJ.pickF (L rfl) (q 96) (q 106)) rfl cn))))))))))))))) (by kernel_rfl) (by kernel_rfl) ?_
            exact hjj289 _ h _ _ (Mat.trans (mp [] [(3, (qe_api_Entry_5 p167)), (16, (.sref 3016 5 0 s251.2.length)), (18, (.ptr 1018 0 [])), (83, (qe_api_Entry_5 p167)), (84, (i6 (p167.length : Int))), (85, (i6 s251.1)), (107, (bo (x297.fValue != x284.fValue)))] [(1018, some (.box 39 (.d (e_api_Entry x284)))), (3016, some (we_api_Entry_39_5 s251.2))] hB) (mp [] _ _ hB))
      · replace h := ite_f hg283 h
        refine AWp.exit ?_
        refine seqQ_e ?_
        obtain rfl := Option.some.inj h
        exact ⟨(fun hc => by cases hc), rfl, (mp [] _ _ hB)⟩
    · obtain ⟨rfl, hmat⟩ := hR
      refine blkQ_hit ?_
      refine seqQ_n ?_
      refine AWp.ghost hmat ?_
      refine sr (c (mv hN (q 16)) rfl (c (OpJ.assign (L rfl) (q 113)) rfl cn)) ?_
      refine gh [(2, _)] [(3016, some _)] hB rfl rfl (by rfl) ?_
      refine AWp.ret ?_
      obtain rfl := Option.some.inj h
      exact ⟨.inl rfl, _, _, (Mat.trans (Mat.freezeP (n := 3016) (e := 39) (sz := 5) (es := p282.map e_api_Entry) (Ts := [(2, (qe_api_Entry_5 p282))]) (Bs := []) (by rfl) (TwT.cons (x := (.sref 3016 5 0 p282.length)) (by rfl) (FrzL.all (by first | rfl | (simp; done) | (simp; omega))) TwT.nil) TwB.nil) (mp [] [(2, (qe_api_Entry_5 p282))] [] hB)), [(qe_api_Entry_5 p282)], (Res.tmp (by rfl) (by rfl) Res.nil), rfl, by rfl, by rfl, by rfl⟩

noncomputable def exchangepointref03_Same_L0 (a0 : (List api_Entry)) (a1 : (List api_Entry)) (s2 : Int) : Option (((Unit) ⊕ (Unit)) ⊕ (Int)) :=
  (if (decide (s2 < (a0.length : Int))) = true then
  (idx a0 s2).bind fun x14 =>
  (idx a1 s2).bind fun x15 =>
  (if (!((((x15.fPrefix.fAddr.fV6 == x14.fPrefix.fAddr.fV6) && ((x15.fPrefix.fAddr.fHi == x14.fPrefix.fAddr.fHi) && ((x15.fPrefix.fAddr.fLo == x14.fPrefix.fAddr.fLo) && true))) && ((x15.fPrefix.fLen == x14.fPrefix.fLen) && true)) && ((x15.fValue == x14.fValue) && true))) = true then
  some (.inl (.inl ()))
  else
  some (.inr (w64 (s2 + (1 : Int)))))
  else
  some (.inl (.inr ())))
noncomputable def exchangepointref03_Same (a0 : (List api_Entry)) (a1 : (List api_Entry)) : Option (Bool) :=
  (if ((a0.length : Int) != (a1.length : Int)) = true then
  some false
  else
  (loop (exchangepointref03_Same_L0 a0 a1) (0 : Int)).bind fun x17 => match x17 with
  | (.inl _) =>
    some false
  | (.inr _) =>
    some true)
set_option maxHeartbeats 4000000 in
set_option maxRecDepth 100000 in
theorem exchangepointref03_Same_ac (a0 : (List api_Entry)) (a1 : (List api_Entry)) (r : Bool) (h : exchangepointref03_Same a0 a1 = some r) : AC Try.prog 12 [(.d (.list 5 (a0.map e_api_Entry))), (.d (.list 5 (a1.map e_api_Entry)))] [] (.d (.bool r)) [] := by
  refine AC.of_code2 Try.func12 rfl rfl (Nat.le_of_ble_eq_true (by rfl)) fun B hB hN => ?_
  have L {d : Nat} (h : Nat.blt d Try.f12.ntmps = true) : d < B.N := ltN hN h
  delta exchangepointref03_Same at h
  refine sr (c (OpJ.assign (L rfl) (Opd.bool false)) rfl cn) ?_
  refine gh [(0, _), (1, _)] [] hB rfl rfl (by rfl) ?_
  refine AWp.seq ?_
  refine sr (c (mv hN (q 0)) rfl (c (OpJ.val (v' := (i6 (a0.length : Int))) (by simp) (OpJ.lenD Try.underlying23 (L rfl) (q 7))) rfl (c (mv hN (q 1)) rfl (c (OpJ.val (v' := (i6 (a1.length : Int))) (by simp) (OpJ.lenD Try.underlying23 (L rfl) (q 9))) rfl (c (OpJ.neqI (L rfl) (q 8) (q 10)) rfl cn))))) ?_
  refine gh [(0, _), (1, _), (11, _)] [] hB rfl rfl (by rfl) ?_
  refine AWp.cond rfl (fun hg1 => ?_) (fun hg1 => ?_)
  · replace h := ite_t hg1 h
    refine sr (c (OpJ.assign (L rfl) (Opd.bool false)) rfl cn) ?_
    refine gh [(4, _)] [] hB rfl rfl (by rfl) ?_
    refine AWp.ret ?_
    refine seqQ_r ?_
    obtain rfl := Option.some.inj h
    exact ⟨.inl rfl, _, _, (kp [(4, _)] [] hB rfl rfl (by rfl)), [(bo false)], (Res.tmp (by rfl) (by rfl) Res.nil), rfl, by rfl, by rfl, by rfl⟩
  · replace h := ite_f hg1 h
    refine AWp.skip ?_
    refine seqQ_n ?_
    refine AWp.seq ?_
    refine sr (c (mv hN (q 0)) rfl (c (OpJ.val (v' := (i6 (a0.length : Int))) (by simp) (OpJ.lenD Try.underlying23 (L rfl) (q 12))) rfl (c (mv hN (Opd.int .i64 (0))) rfl cn))) ?_
    refine gh [(1, _), (12, _), (13, _), (14, _)] [] hB rfl rfl (by rfl) ?_
    refine AWp.block ?_
    obtain ⟨x17, hx18, h⟩ := bindS h
    refine lg (exchangepointref03_Same_L0 a0 a1) (fun s2 : Int => ([(1, (qe_api_Entry_5 a1)), (12, (qe_api_Entry_5 a0)), (13, (i6 (a0.length : Int))), (14, (i6 s2))] : EL)) (fun s2 : Int => ([] : OL)) (fun (x : (Unit) ⊕ (Unit)) e E' O' => match x with | (.inl _p) => e = .ret ∧ Mat B E' O' ([(4, (bo false))] : EL) ([] : OL) | (.inr _p) => e = .exit 0 ∧ Mat B E' O' ([] : EL) ([] : OL)) hx18 (mp [] _ _ hB) (fun s2 y h => ?_) (fun e E' O' hR => ?_)
    · unfold exchangepointref03_Same_L0 at h
      refine sr (c (OpJ.lss (L rfl) (q 14) (q 13)) rfl cn) ?_
      refine gh [(1, _), (12, _), (13, _), (14, _), (15, _)] [] hB rfl rfl (by rfl) ?_
      refine AWp.seq ?_
      refine AWp.cond rfl (fun hg13 => ?_) (fun hg13 => ?_)
      · replace h := ite_t hg13 h
        refine AWp.skip ?_
        refine seqQ_n ?_
        refine AWp.seq ?_
        refine AWp.block ?_
        obtain ⟨x14, hx14, h⟩ := bindS h
        refine sr (c (mv hN (q 14)) rfl (c (OpJ.indexD Try.underlying23 tyS39 (idx_some hx14).1 (get_map e_api_Entry (idx_some hx14).2) (L rfl) (q 12) (q 14)) rfl (c (OpJ.loadD tyS39 (by rfl) (by rfl) (L rfl) (q 17)) rfl (cg (OpJ.alloc hB tyZ39 (nm := 1006) (by decide) (L rfl)) rfl (c (OpJ.assign (L rfl) (q 16)) rfl (cg (OpJ.storeB tyS39 (SetAt.here _ _) (by rfl) (by rfl) (by simp) rfl (q 6) (q 18)) rfl cn)))))) ?_
        refine gh [(1, _), (5, _), (6, _), (12, _), (13, _), (14, _)] [(1006, some _)] hB rfl rfl (by rfl) ?_
        obtain ⟨x15, hx15, h⟩ := bindS h
        refine sd (c (mv hN (q 1)) rfl (c (mv hN (q 5)) rfl (c (OpJ.indexD Try.underlying23 tyS39 (idx_some hx15).1 (get_map e_api_Entry (idx_some hx15).2) (L rfl) (q 19) (q 20)) rfl (c (OpJ.loadD tyS39 (by rfl) (by rfl) (L rfl) (q 21)) rfl (c (lb hN 39 _ _ tyS39 (At.here _) (q 6)) rfl (c (OpJ.neqD (h := 4) (FitE.st Try.underlying39 rfl held39 (FitF.cons (x := (e_api_Prefix x15.fPrefix)) (y := (e_api_Prefix x14.fPrefix)) (by decide) rfl tyS37 ⟨rfl, rfl⟩ ⟨rfl, rfl⟩ (FitE.st Try.underlying37 rfl held37 (FitF.cons (x := (e_api_Addr x15.fPrefix.fAddr)) (y := (e_api_Addr x14.fPrefix.fAddr)) (by decide) rfl tyS33 ⟨rfl, rfl⟩ ⟨rfl, rfl⟩ (FitE.st Try.underlying33 rfl held33 (FitF.cons (x := (.bool x15.fPrefix.fAddr.fV6)) (y := (.bool x14.fPrefix.fAddr.fV6)) (by decide) rfl tyS4 ⟨rfl, rfl⟩ ⟨rfl, rfl⟩ (FitE.bool (h := 0) x15.fPrefix.fAddr.fV6 x14.fPrefix.fAddr.fV6 Try.underlying4) (FitF.cons (x := (.int .u64 x15.fPrefix.fAddr.fHi)) (y := (.int .u64 x14.fPrefix.fAddr.fHi)) (by decide) rfl tyS31 ⟨rfl, rfl⟩ ⟨rfl, rfl⟩ (FitE.int (h := 0) x15.fPrefix.fAddr.fHi x14.fPrefix.fAddr.fHi Try.underlying31) (FitF.cons (x := (.int .u64 x15.fPrefix.fAddr.fLo)) (y := (.int .u64 x14.fPrefix.fAddr.fLo)) (by decide) rfl tyS31 ⟨rfl, rfl⟩ ⟨rfl, rfl⟩ (FitE.int (h := 0) x15.fPrefix.fAddr.fLo x14.fPrefix.fAddr.fLo Try.underlying31) FitF.nil)))) (FitF.cons (x := (.int .i64 x15.fPrefix.fLen)) (y := (.int .i64 x14.fPrefix.fLen)) (by decide) rfl tyS3 ⟨rfl, rfl⟩ ⟨rfl, rfl⟩ (FitE.int (h := 1) x15.fPrefix.fLen x14.fPrefix.fLen Try.underlying3) FitF.nil))) (FitF.cons (x := (.int .i64 x15.fValue)) (y := (.int .i64 x14.fValue)) (by decide) rfl tyS3 ⟨rfl, rfl⟩ ⟨rfl, rfl⟩ (FitE.int (h := 2) x15.fValue x14.fValue Try.underlying3) FitF.nil))) eqg39 ⟨rfl, rfl⟩ (by rfl) (L rfl) (q 22) (q 23)) rfl cn)))))) (by kernel_rfl) (by kernel_rfl) ?_
        refine gh [(1, _), (12, _), (13, _), (14, _), (24, _)] [] hB rfl rfl (by rfl) ?_
        refine AWp.cond rfl (fun hg16 => ?_) (fun hg16 => ?_)
        · replace h := ite_t hg16 h
          refine sr (c (OpJ.assign (L rfl) (Opd.bool false)) rfl cn) ?_
          refine gh [(4, _)] [] hB rfl rfl (by rfl) ?_
          refine AWp.ret ?_
          refine blkQ_r ?_
          refine seqQ_r ?_
          obtain rfl := Option.some.inj h
          exact ⟨(fun hc => by cases hc), rfl, (mp [] _ _ hB)⟩
        · replace h := ite_f hg16 h
          refine AWp.skip ?_
          refine blkQ_n ?_
          refine seqQ_n ?_
          refine rg (c (add6 (L rfl) (q 14) (Opd.int .i64 (1))) rfl (c (mv hN (q 25)) rfl cn)) ?_
          obtain rfl := Option.some.inj h
          exact ⟨rfl, (Mat.trans (mp [] [(1, (qe_api_Entry_5 a1)), (12, (qe_api_Entry_5 a0)), (13, (i6 (a0.length : Int))), (14, (i6 (w64 (s2 + (1 : Int)))))] [] hB) (mp [] _ _ hB))⟩
      · replace h := ite_f hg13 h
        refine AWp.exit ?_
        refine seqQ_e ?_
        obtain rfl := Option.some.inj h
        exact ⟨(fun hc => by cases hc), rfl, (mp [] _ _ hB)⟩
    · rcases x17 with _ | _
      · obtain ⟨rfl, hmat⟩ := hR
        refine blkQ_r ?_
        refine seqQ_r ?_
        obtain rfl := Option.some.inj h
        exact ⟨.inl rfl, _, _, (Mat.trans hmat (mp [] [(4, (bo false))] [] hB)), [(bo false)], (Res.tmp (by rfl) (by rfl) Res.nil), rfl, by rfl, by rfl, by rfl⟩
      · obtain ⟨rfl, hmat⟩ := hR
        refine blkQ_hit ?_
        refine seqQ_n ?_
        refine AWp.ghost hmat ?_
        refine sr (c (OpJ.assign (L rfl) (Opd.bool true)) rfl cn) ?_
        refine gh [(4, _)] [] hB rfl rfl (by rfl) ?_
        refine AWp.ret ?_
        obtain rfl := Option.some.inj h
        exact ⟨.inl rfl, _, _, (kp [(4, _)] [] hB rfl rfl (by rfl)), [(bo true)], (Res.tmp (by rfl) (by rfl) Res.nil), rfl, by rfl, by rfl, by rfl⟩

noncomputable def table_Lookup_1 (a0 : api_Prefix) (a1 : api_Addr) : Option (Bool) :=
  (prefix_Contains a0 a1).bind fun r1 =>
  some r1
set_option maxHeartbeats 4000000 in
set_option maxRecDepth 100000 in
theorem table_Lookup_1_ac (a0 : api_Prefix) (a1 : api_Addr) (r : Bool) (h : table_Lookup_1 a0 a1 = some r) : AC Try.prog 55 [(.d (e_api_Prefix a0)), (.ptr 0 0 [])] [(0, (.box 33 (.d (e_api_Addr a1))))] (.d (.bool r)) [(0, some (.box 33 (.d (e_api_Addr a1))))] := by
  refine AC.of_code2 Try.func55 rfl rfl (Nat.le_of_ble_eq_true (by rfl)) fun B hB hN => ?_
  delta table_Lookup_1 at h
  refine sr (cg (OpJ.box hB (nm := 1002) (by decide) (by simp) rfl (ltN hN rfl) (q 0)) rfl (c (OpJ.assign (ltN hN rfl) (Opd.bool false)) rfl cn)) ?_
  refine gh [(1, _), (2, _)] [(0, some _), (1002, some _)] hB rfl rfl (by rfl) ?_
  obtain ⟨r1, hr1, h⟩ := bindS h
  refine sr (c (lb hN 37 _ _ tyS37 (At.here _) (q 2)) rfl (c (lb hN 33 _ _ tyS33 (At.here _) (q 1)) rfl (cg (OpJ.callFn hB fnOk56 (prefix_Contains_ac a0 a1 r1 hr1) [] (by kernel_rfl) (ltN hN rfl) (by kernel_rfl) (OpdL.cons (q 4) (OpdL.cons (q 5) OpdL.nil))) rfl (c (OpJ.assign (ltN hN rfl) (q 6)) rfl cn)))) ?_
  refine gh [(3, _)] [(0, some _)] hB rfl rfl (by rfl) ?_
  refine AWp.ret ?_
  obtain rfl := Option.some.inj h
  exact ⟨.inl rfl, _, _, (kp [(3, _)] [(0, some _)] hB rfl rfl (by rfl)), [(bo r1)], (Res.tmp (by rfl) (by rfl) Res.nil), rfl, by rfl, by rfl, by rfl⟩

noncomputable def table_filter_2_L0 (a0 : (List api_Entry)) (a1 : api_Addr) (s1 : Int × (List api_Entry)) : Option ((((List api_Entry))) ⊕ (Int × (List api_Entry))) :=
  (if (decide (s1.1 < (a0.length : Int))) = true then
  (idx a0 s1.1).bind fun x22 =>
  (table_Lookup_1 x22.fPrefix a1).bind fun r23 =>
  jn (fun m26 : (List api_Entry) =>
  some (.inr ((w64 (s1.1 + (1 : Int))), m26))) (fun j27 =>
  (if r23 = true then
  chk (decide ((s1.2 ++ ([x22] : List api_Entry)).length ≤ LIM)) <|
  j27 (s1.2 ++ ([x22] : List api_Entry))
  else
  j27 s1.2))
  else
  some (.inl s1.2))
noncomputable def table_filter_2 (a0 : (List api_Entry)) (a1 : api_Addr) : Option ((List api_Entry)) :=
  (loop (table_filter_2_L0 a0 a1) ((0 : Int), ([] : List api_Entry))).bind fun p20 =>
  some p20
set_option maxHeartbeats 4000000 in
set_option maxRecDepth 100000 in
theorem table_filter_2_ac (a0 : (List api_Entry)) (a1 : api_Addr) (r : (List api_Entry)) (h : table_filter_2 a0 a1 = some r) : AC Try.prog 45 [(.d (.list 5 (a0.map e_api_Entry))), (.func 55 [(.ptr 0 0 [])])] [(0, (.box 33 (.d (e_api_Addr a1))))] (.d (.list 5 (r.map e_api_Entry))) [(0, some (.box 33 (.d (e_api_Addr a1))))] := by
  refine AC.of_code2 Try.func45 rfl rfl (Nat.le_of_ble_eq_true (by rfl)) fun B hB hN => ?_
  have L {d : Nat} (h : Nat.blt d Try.f45.ntmps = true) : d < B.N := ltN hN h
  delta table_filter_2 at h
  refine sr (c (OpJ.assign (L rfl) Opd.nils) rfl cn) ?_
  refine gh [(0, _), (1, _)] [(0, some _)] hB rfl rfl (by rfl) ?_
  refine sr (c (OpJ.assign (L rfl) Opd.nils) rfl cn) ?_
  refine gh [(0, _), (1, _), (5, _)] [(0, some _)] hB rfl rfl (by rfl) ?_
  refine AWp.seq ?_
  refine sr (c (mv hN (q 0)) rfl (c (OpJ.val (v' := (i6 (a0.length : Int))) (by simp) (OpJ.lenD Try.underlying23 (L rfl) (q 8))) rfl (c (mv hN (Opd.int .i64 (0))) rfl cn))) ?_
  refine gh [(1, _), (5, _), (8, _), (9, _), (10, _)] [(0, some _)] hB rfl rfl (by rfl) ?_
  refine AWp.block ?_
  obtain ⟨p20, hx31, h⟩ := bindS h
  refine lg (table_filter_2_L0 a0 a1) (fun s1 : Int × (List api_Entry) => ([(1, (.func 55 [(.ptr 0 0 [])])), (5, (.sref 3005 5 0 s1.2.length)), (8, (qe_api_Entry_5 a0)), (9, (i6 (a0.length : Int))), (10, (i6 s1.1))] : EL)) (fun s1 : Int × (List api_Entry) => ([(0, some (.box 33 (.d (e_api_Addr a1)))), (3005, some (we_api_Entry_39_5 s1.2))] : OL)) (fun (p20 : ((List api_Entry))) e E' O' => e = .exit 0 ∧ Mat B E' O' ([(5, (.sref 3005 5 0 p20.length))] : EL) ([(0, some (.box 33 (.d (e_api_Addr a1)))), (3005, some (we_api_Entry_39_5 p20))] : OL)) hx31 (Mat.trans (Mat.beginP (n := 3005) (e := 39) (sz := 5) (Ts := [(5, (.sref 3005 5 0 0))]) (Bs := []) hB (by decide) (by rfl) (by decide) (TwT.cons (x := .nils) (by rfl) (Tw.leaf ⟨rfl, rfl⟩) TwT.nil) TwB.nil) (mp [] _ _ hB)) (fun s1 y h => ?_) (fun e E' O' hR => ?_)
  · unfold table_filter_2_L0 at h
    refine sr (c (OpJ.lss (L rfl) (q 10) (q 9)) rfl cn) ?_
    refine gh [(1, _), (5, _), (8, _), (9, _), (10, _), (11, _)] [(0, some _), (3005, some _)] hB rfl rfl (by rfl) ?_
    refine AWp.seq ?_
    refine AWp.cond rfl (fun hg21 => ?_) (fun hg21 => ?_)
    · replace h := ite_t hg21 h
      refine AWp.skip ?_
      refine seqQ_n ?_
      refine AWp.seq ?_
      refine AWp.block ?_
      obtain ⟨x22, hx22, h⟩ := bindS h
      refine sr (c (OpJ.indexD Try.underlying23 tyS39 (idx_some hx22).1 (get_map e_api_Entry (idx_some hx22).2) (L rfl) (q 8) (q 10)) rfl (c (OpJ.loadD tyS39 (by rfl) (by rfl) (L rfl) (q 12)) rfl (cg (OpJ.alloc hB tyZ39 (nm := 1007) (by decide) (L rfl)) rfl (cg (OpJ.storeB tyS39 (SetAt.here _ _) (by rfl) (by rfl) (by simp) rfl (q 7) (q 13)) rfl cn)))) ?_
      refine gh [(1, _), (5, _), (7, _), (8, _), (9, _), (10, _)] [(0, some _), (1007, some _), (3005, some _)] hB rfl rfl (by rfl) ?_
      refine AWp.seq ?_
      obtain ⟨r23, hr23, h⟩ := bindS h
      refine AWp.region (oc (mv hN (ot 1 (.func 55 [(.ptr 0 0 [])])))
        (oc (ov (.ptr 1007 0 [0]) (fp hN Try.underlying39 0 tyS37 (.box 39 (.d (e_api_Entry x22))) (ot 7 (.ptr 1007 0 []))))
        (oc (lb hN 39 (.d (e_api_Entry x22)) (.d (e_api_Prefix x22.fPrefix)) tyS37 (ad (e_api_Prefix x22.fPrefix)) (ot 15 (.ptr 1007 0 [0])))
        (oc (OpJ.callVal (args := [(.d (e_api_Prefix x22.fPrefix))]) (caps := [(.ptr 0 0 [])]) hB fnOk55 [(0, 0)] (table_Lookup_1_ac x22.fPrefix a1 r23 hr23) (by kernel_rfl) (L rfl) (by kernel_rfl) (by kernel_rfl) (OpdL.cons (ot 16 (.d (e_api_Prefix x22.fPrefix))) OpdL.nil))
        (OpJs.nil))))) (by rfl) (by rfl) ?_
      refine seqQ_n ?_
      refine AWp.ghost (mp [] [(1, (.func 55 [(.ptr 0 0 [])])), (5, (.sref 3005 5 0 s1.2.length)), (7, (.ptr 1007 0 [])), (8, (qe_api_Entry_5 a0)), (9, (i6 (a0.length : Int))), (10, (i6 s1.1)), (17, (bo r23))] [(0, some (.box 33 (.d (e_api_Addr a1)))), (1007, some (.box 39 (.d (e_api_Entry x22)))), (3005, some (we_api_Entry_39_5 s1.2))] hB) ?_
      refine AWp.cut h (fun m26 : (List api_Entry) => ([(1, (.func 55 [(.ptr 0 0 [])])), (5, (.sref 3005 5 0 m26.length)), (8, (qe_api_Entry_5 a0)), (9, (i6 (a0.length : Int))), (10, (i6 s1.1))] : EL)) (fun m26 : (List api_Entry) => ([(0, some (.box 33 (.d (e_api_Addr a1)))), (3005, some (we_api_Entry_39_5 m26))] : OL)) (fun m26 h E' O' hmat => ?_) (fun j27 hjj27 h => ?_)
      · refine blkQ_n ?_
        refine seqQ_n ?_
        refine AWp.ghost hmat ?_
        refine rg (c (add6 (L rfl) (q 10) (Opd.int .i64 (1))) rfl (c (mv hN (q 22)) rfl cn)) ?_
        obtain rfl := Option.some.inj h
        exact ⟨rfl, (Mat.trans (mp [] [(1, (.func 55 [(.ptr 0 0 [])])), (5, (.sref 3005 5 0 m26.length)), (8, (qe_api_Entry_5 a0)), (9, (i6 (a0.length : Int))), (10, (i6 (w64 (s1.1 + (1 : Int)))))] [(0, some (.box 33 (.d (e_api_Addr a1)))), (3005, some (we_api_Entry_39_5 m26))] hB) (mp [] _ _ hB))⟩
      · refine AWp.cond rfl (fun hg28 => ?_) (fun hg28 => ?_)
        · replace h := ite_t hg28 h
          obtain ⟨hc29, h⟩ := chk_some h
          refine rg (c (mv hN (q 5)) rfl (c (lb hN 39 _ _ tyS39 (At.here _) (q 7)) rfl (c (OpJ.buildSlice Try.underlying23 tyS39 tyZD39 (by rfl) (by decide) (by decide) (Opds.cons (q 19) Opds.nil) (by kernel_rfl) (es := ([(e_api_Entry x22)] : List D)) (by rfl) (by rfl) (by kernel_rfl) (by simp) (L rfl)) rfl (cg (OpJ.append hB Try.underlying23 tyE39 (nm := 1021) (by decide) (es := s1.2.map e_api_Entry) (ys := ([x22] : List api_Entry).map e_api_Entry) (es' := (s1.2 ++ ([x22] : List api_Entry)).map e_api_Entry) (len := (s1.2 ++ ([x22] : List api_Entry)).length) (by simp) (by simp) (map_sz (f := e_api_Entry) (fun _ => rfl)) (by rw [List.length_map]; exact lim_mulN hc29 (by decide)) (by rw [List.length_map]; exact lim_leN hc29) (L rfl) (by simp) (q 18) (q 20)) rfl (c (OpJ.assign (L rfl) (q 21)) rfl cn))))) ?_
          exact hjj27 _ h _ _ (Mat.trans (mp [] [(1, (.func 55 [(.ptr 0 0 [])])), (5, (.sref 1021 5 0 ((s1.2 ++ ([x22] : List api_Entry)).length))), (8, (qe_api_Entry_5 a0)), (9, (i6 (a0.length : Int))), (10, (i6 s1.1))] [(0, some (.box 33 (.d (e_api_Addr a1)))), (1021, some (we_api_Entry_39_5 (s1.2 ++ ([x22] : List api_Entry))))] hB) (mp [(3005, 1021)] _ _ hB))
        · replace h := ite_f hg28 h
          refine AWp.skip ?_
          exact hjj27 _ h _ _ (mp [] _ _ hB)
    · replace h := ite_f hg21 h
      refine AWp.exit ?_
      refine seqQ_e ?_
      obtain rfl := Option.some.inj h
      exact ⟨(fun hc => by cases hc), rfl, (mp [] _ _ hB)⟩
  · obtain ⟨rfl, hmat⟩ := hR
    refine blkQ_hit ?_
    refine seqQ_n ?_
    refine AWp.ghost hmat ?_
    refine sr (c (mv hN (q 5)) rfl (c (OpJ.assign (L rfl) (q 23)) rfl cn)) ?_
    refine gh [(4, _)] [(0, some _), (3005, some _)] hB rfl rfl (by rfl) ?_
    refine AWp.ret ?_
    obtain rfl := Option.some.inj h
    exact ⟨.inl rfl, _, _, (Mat.trans (Mat.freezeP (n := 3005) (e := 39) (sz := 5) (es := p20.map e_api_Entry) (Ts := [(4, (qe_api_Entry_5 p20))]) (Bs := []) (by rfl) (TwT.cons (x := (.sref 3005 5 0 p20.length)) (by rfl) (FrzL.all (by first | rfl | (simp; done) | (simp; omega))) TwT.nil) TwB.nil) (mp [] [(4, (qe_api_Entry_5 p20))] [(0, some (.box 33 (.d (e_api_Addr a1))))] hB)), [(qe_api_Entry_5 p20)], (Res.tmp (by rfl) (by rfl) Res.nil), rfl, by rfl, by rfl, by rfl⟩

noncomputable def table_Lookup_2 (a0 : api_Entry) (a1 : api_Entry) : Option (Int) :=
  some (w64 (a0.fPrefix.fLen - a1.fPrefix.fLen))
set_option maxHeartbeats 4000000 in
set_option maxRecDepth 100000 in
theorem table_Lookup_2_ac (a0 : api_Entry) (a1 : api_Entry) (r : Int) (h : table_Lookup_2 a0 a1 = some r) : AC Try.prog 58 [(.d (e_api_Entry a0)), (.d (e_api_Entry a1))] [] (.d (.int .i64 r)) [] := by
  refine AC.of_code2 Try.func58 rfl rfl (Nat.le_of_ble_eq_true (by rfl)) fun B hB hN => ?_
  delta table_Lookup_2 at h
  refine sr (cg (OpJ.box hB (nm := 1002) (by decide) (by simp) rfl (ltN hN rfl) (q 0)) rfl (cg (OpJ.box hB (nm := 1003) (by decide) (by simp) rfl (ltN hN rfl) (q 1)) rfl (c (OpJ.assign (ltN hN rfl) (Opd.int .i64 (0))) rfl cn))) ?_
  refine gh [(2, _), (3, _)] [(1002, some _), (1003, some _)] hB rfl rfl (by rfl) ?_
  refine sr (c (ov (.ptr 1002 0 [0]) (fp hN Try.underlying39 0 tyS37 _ (q 2))) rfl (c (ov (.ptr 1002 3 [0, 1]) (fp hN Try.underlying37 3 tyS3 _ (q 5))) rfl (c (lb hN 39 _ _ tyS3 (At.dst1 (by rfl) (by rfl) (ad _) (by first | rfl | omega)) (q 6)) rfl (c (ov (.ptr 1003 0 [0]) (fp hN Try.underlying39 0 tyS37 _ (q 3))) rfl (c (ov (.ptr 1003 3 [0, 1]) (fp hN Try.underlying37 3 tyS3 _ (q 8))) rfl (c (lb hN 39 _ _ tyS3 (At.dst1 (by rfl) (by rfl) (ad _) (by first | rfl | omega)) (q 9)) rfl (c (sub6 (ltN hN rfl) (q 7) (q 10)) rfl (c (OpJ.assign (ltN hN rfl) (q 11)) rfl cn)))))))) ?_
  refine gh [(4, _)] [] hB rfl rfl (by rfl) ?_
  refine AWp.ret ?_
  obtain rfl := Option.some.inj h
  exact ⟨.inl rfl, _, _, (kp [(4, _)] [] hB rfl rfl (by rfl)), [(i6 (w64 (a0.fPrefix.fLen - a1.fPrefix.fLen)))], (Res.tmp (by rfl) (by rfl) Res.nil), rfl, by rfl, by rfl, by rfl⟩

noncomputable def slices_MaxFunc_L0 (a0 : (List api_Entry)) (s4 : Int × api_Entry) : Option (((api_Entry)) ⊕ (Int × api_Entry)) :=
  (if (decide (s4.1 < (a0.length : Int))) = true then
  (idx a0 s4.1).bind fun x25 =>
  (table_Lookup_2 x25 s4.2).bind fun r26 =>
  jn (fun m29 : api_Entry =>
  some (.inr ((w64 (s4.1 + (1 : Int))), m29))) (fun j30 =>
  (if (decide ((0 : Int) < r26)) = true then
  (idx a0 s4.1).bind fun x32 =>
  j30 x32
  else
  j30 s4.2))
  else
  some (.inl s4.2))
noncomputable def slices_MaxFunc (a0 : (List api_Entry)) : Option (api_Entry) :=
  (if (decide ((a0.length : Int) < (1 : Int))) = true then
  none
  else
  (idx a0 (0 : Int)).bind fun x3 =>
  (loop (slices_MaxFunc_L0 a0) ((1 : Int), x3)).bind fun p23 =>
  some p23)
set_option maxHeartbeats 4000000 in
set_option maxRecDepth 100000 in
theorem slices_MaxFunc_ac (a0 : (List api_Entry)) (r : api_Entry) (h : slices_MaxFunc a0 = some r) : AC Try.prog 57 [(.d (.list 5 (a0.map e_api_Entry))), (.func 58 [])] [] (.d (e_api_Entry r)) [] := by
  refine AC.of_code2 Try.func57 rfl rfl (Nat.le_of_ble_eq_true (by rfl)) fun B hB hN => ?_
  have L {d : Nat} (h : Nat.blt d Try.f57.ntmps = true) : d < B.N := ltN hN h
  delta slices_MaxFunc at h
  refine sr (cg (OpJ.alloc hB tyZ39 (nm := 1004) (by decide) (L rfl)) rfl cn) ?_
  refine gh [(0, _), (1, _), (4, _)] [(1004, some _)] hB rfl rfl (by rfl) ?_
  refine AWp.seq ?_
  refine sr (c (mv hN (q 0)) rfl (c (OpJ.val (v' := (i6 (a0.length : Int))) (by simp) (OpJ.lenD Try.underlying23 (L rfl) (q 7))) rfl (c (OpJ.lss (L rfl) (q 8) (Opd.int .i64 (1))) rfl cn))) ?_
  refine gh [(0, _), (1, _), (4, _), (9, _)] [(1004, some _)] hB rfl rfl (by rfl) ?_
  refine AWp.cond rfl (fun hg2 => ?_) (fun hg2 => ?_)
  · replace h := ite_t hg2 h
    cases h
  · replace h := ite_f hg2 h
    refine AWp.skip ?_
    refine seqQ_n ?_
    obtain ⟨x3, hx3, h⟩ := bindS h
    refine sr (c (mv hN (q 0)) rfl (c (OpJ.indexD Try.underlying23 tyS39 (idx_some hx3).1 (get_map e_api_Entry (idx_some hx3).2) (L rfl) (q 11) (Opd.int .i64 (0))) rfl (c (OpJ.loadD tyS39 (by rfl) (by rfl) (L rfl) (q 12)) rfl (cg (OpJ.alloc hB tyZ39 (nm := 1005) (by decide) (L rfl)) rfl (cg (OpJ.storeB tyS39 (SetAt.here _ _) (by rfl) (by rfl) (by simp) rfl (q 5) (q 13)) rfl cn))))) ?_
    refine gh [(0, _), (1, _), (4, _), (5, _)] [(1004, some _), (1005, some _)] hB rfl rfl (by rfl) ?_
    refine AWp.seq ?_
    refine sr (c (OpJ.assign (L rfl) (Opd.int .i64 (1))) rfl cn) ?_
    refine gh [(0, _), (1, _), (4, _), (5, _), (6, _)] [(1004, some _), (1005, some _)] hB rfl rfl (by rfl) ?_
    refine AWp.block ?_
    obtain ⟨p23, hx34, h⟩ := bindS h
    refine lg (slices_MaxFunc_L0 a0) (fun s4 : Int × api_Entry => ([(0, (qe_api_Entry_5 a0)), (1, (.func 58 [])), (4, (.ptr 1004 0 [])), (5, (.ptr 1005 0 [])), (6, (i6 s4.1))] : EL)) (fun s4 : Int × api_Entry => ([(1004, some (.box 39 (.d (.st [(.st [(.st [(.bool false), (.int .u64 0), (.int .u64 0)]), (.int .i64 0)]), (.int .i64 0)])))), (1005, some (.box 39 (.d (e_api_Entry s4.2))))] : OL)) (fun (p23 : (api_Entry)) e E' O' => e = .exit 0 ∧ Mat B E' O' ([(4, (.ptr 1004 0 [])), (5, (.ptr 1005 0 []))] : EL) ([(1004, some (.box 39 (.d (.st [(.st [(.st [(.bool false), (.int .u64 0), (.int .u64 0)]), (.int .i64 0)]), (.int .i64 0)])))), (1005, some (.box 39 (.d (e_api_Entry p23))))] : OL)) hx34 (mp [] _ _ hB) (fun s4 y h => ?_) (fun e E' O' hR => ?_)
    · unfold slices_MaxFunc_L0 at h
      refine AWp.seq ?_
      refine sr (c (mv hN (q 6)) rfl (c (mv hN (q 0)) rfl (c (OpJ.val (v' := (i6 (a0.length : Int))) (by simp) (OpJ.lenD Try.underlying23 (L rfl) (q 15))) rfl (c (OpJ.lss (L rfl) (q 14) (q 16)) rfl cn)))) ?_
      refine gh [(0, _), (1, _), (4, _), (5, _), (6, _), (17, _)] [(1004, some _), (1005, some _)] hB rfl rfl (by rfl) ?_
      refine AWp.cond rfl (fun hg24 => ?_) (fun hg24 => ?_)
      · replace h := ite_t hg24 h
        refine AWp.skip ?_
        refine seqQ_n ?_
        refine AWp.seq ?_
        refine AWp.block ?_
        obtain ⟨x25, hx25, h⟩ := bindS h
        obtain ⟨r26, hr26, h⟩ := bindS h
        refine sd (c (mv hN (q 1)) rfl (c (mv hN (q 0)) rfl (c (mv hN (q 6)) rfl (c (OpJ.indexD Try.underlying23 tyS39 (idx_some hx25).1 (get_map e_api_Entry (idx_some hx25).2) (L rfl) (q 21) (q 22)) rfl (c (OpJ.loadD tyS39 (by rfl) (by rfl) (L rfl) (q 23)) rfl (c (lb hN 39 _ _ tyS39 (At.here _) (q 5)) rfl (cg (OpJ.callVal (args := [(.d (e_api_Entry x25)), (.d (e_api_Entry s4.2))]) (caps := []) hB fnOk58 [] (table_Lookup_2_ac x25 s4.2 r26 hr26) (by kernel_rfl) (L rfl) (by kernel_rfl) (by kernel_rfl) (OpdL.cons (q 24) (OpdL.cons (q 25) OpdL.nil))) rfl (c (OpJ.gtr (L rfl) (q 26) (Opd.int .i64 (0))) rfl cn)))))))) (by kernel_rfl) (by kernel_rfl) ?_
        refine gh [(0, _), (1, _), (4, _), (5, _), (6, _), (27, _)] [(1004, some _), (1005, some _)] hB rfl rfl (by rfl) ?_
        refine AWp.cut h (fun m29 : api_Entry => ([(0, (qe_api_Entry_5 a0)), (1, (.func 58 [])), (4, (.ptr 1004 0 [])), (5, (.ptr 1005 0 [])), (6, (i6 s4.1))] : EL)) (fun m29 : api_Entry => ([(1004, some (.box 39 (.d (.st [(.st [(.st [(.bool false), (.int .u64 0), (.int .u64 0)]), (.int .i64 0)]), (.int .i64 0)])))), (1005, some (.box 39 (.d (e_api_Entry m29))))] : OL)) (fun m29 h E' O' hmat => ?_) (fun j30 hjj30 h => ?_)
        · refine blkQ_n ?_
          refine seqQ_n ?_
          refine AWp.ghost hmat ?_
          refine rg (c (mv hN (q 6)) rfl (c (add6 (L rfl) (q 18) (Opd.int .i64 (1))) rfl (c (OpJ.assign (L rfl) (q 19)) rfl cn))) ?_
          obtain rfl := Option.some.inj h
          exact ⟨rfl, (Mat.trans (mp [] [(0, (qe_api_Entry_5 a0)), (1, (.func 58 [])), (4, (.ptr 1004 0 [])), (5, (.ptr 1005 0 [])), (6, (i6 (w64 (s4.1 + (1 : Int)))))] [(1004, some (.box 39 (.d (.st [(.st [(.st [(.bool false), (.int .u64 0), (.int .u64 0)]), (.int .i64 0)]), (.int .i64 0)])))), (1005, some (.box 39 (.d (e_api_Entry m29))))] hB) (mp [] _ _ hB))⟩
        · refine AWp.cond rfl (fun hg31 => ?_) (fun hg31 => ?_)
          · replace h := ite_t hg31 h
            obtain ⟨x32, hx32, h⟩ := bindS h
            refine rg (c (mv hN (q 0)) rfl (c (mv hN (q 6)) rfl (c (OpJ.indexD Try.underlying23 tyS39 (idx_some hx32).1 (get_map e_api_Entry (idx_some hx32).2) (L rfl) (q 28) (q 29)) rfl (c (OpJ.loadD tyS39 (by rfl) (by rfl) (L rfl) (q 30)) rfl (cg (OpJ.storeB tyS39 (SetAt.here _ _) (by rfl) (by rfl) (by simp) rfl (q 5) (q 31)) rfl cn))))) ?_
            exact hjj30 _ h _ _ (Mat.trans (mp [] [(0, (qe_api_Entry_5 a0)), (1, (.func 58 [])), (4, (.ptr 1004 0 [])), (5, (.ptr 1005 0 [])), (6, (i6 s4.1))] [(1004, some (.box 39 (.d (.st [(.st [(.st [(.bool false), (.int .u64 0), (.int .u64 0)]), (.int .i64 0)]), (.int .i64 0)])))), (1005, some (.box 39 (.d (e_api_Entry x32))))] hB) (mp [] _ _ hB))
          · replace h := ite_f hg31 h
            refine AWp.skip ?_
            exact hjj30 _ h _ _ (mp [] _ _ hB)
      · replace h := ite_f hg24 h
        refine AWp.exit ?_
        refine seqQ_e ?_
        obtain rfl := Option.some.inj h
        exact ⟨(fun hc => by cases hc), rfl, (mp [] _ _ hB)⟩
    · obtain ⟨rfl, hmat⟩ := hR
      refine blkQ_hit ?_
      refine seqQ_n ?_
      refine AWp.ghost hmat ?_
      refine sr (c (lb hN 39 _ _ tyS39 (At.here _) (q 5)) rfl (cg (OpJ.storeB tyS39 (SetAt.here _ _) (by rfl) (by rfl) (by simp) rfl (q 4) (q 32)) rfl cn)) ?_
      refine gh [(4, _)] [(1004, some _)] hB rfl rfl (by rfl) ?_
      refine AWp.ret ?_
      obtain rfl := Option.some.inj h
      exact ⟨.inl rfl, _, _, (kp [(4, _)] [(1004, some _)] hB rfl rfl (by rfl)), [(.d (e_api_Entry p23))], (Res.cell (c := (.d (e_api_Entry p23))) (by rfl) (by rfl) tyS39 (by rfl) (by rfl) (by rfl) Res.nil), rfl, by rfl, by rfl, by rfl⟩

noncomputable def table_Lookup (a0 : (List api_Entry)) (a1 : api_Addr) : Option (api_Entry × Bool) :=
  (table_filter_2 a0 a1).bind fun r1 =>
  (if ((r1.length : Int) == (0 : Int)) = true then
  some ((api_Entry.mk (api_Prefix.mk (api_Addr.mk false (0 : Int) (0 : Int)) (0 : Int)) (0 : Int)), false)
  else
  (slices_MaxFunc r1).bind fun r3 =>
  some (r3, true))
set_option maxHeartbeats 4000000 in
set_option maxRecDepth 100000 in
theorem table_Lookup_ac (a0 : (List api_Entry)) (a1 : api_Addr) (r : api_Entry × Bool) (h : table_Lookup a0 a1 = some r) : AC Try.prog 20 [(.d (.list 5 (a0.map e_api_Entry))), (.d (e_api_Addr a1))] [] (.tup [(.d (e_api_Entry r.1)), (.d (.bool r.2))]) [] := by
  refine AC.of_code2 Try.func20 rfl rfl (Nat.le_of_ble_eq_true (by rfl)) fun B hB hN => ?_
  delta table_Lookup at h
  refine sr (cg (OpJ.box hB (nm := 1003) (by decide) (by simp) rfl (ltN hN rfl) (q 1)) rfl (cg (OpJ.alloc hB tyZ39 (nm := 1004) (by decide) (ltN hN rfl)) rfl (c (OpJ.assign (ltN hN rfl) (Opd.bool false)) rfl cn))) ?_
  refine gh [(0, _), (3, _), (4, _)] [(1003, some _), (1004, some _)] hB rfl rfl (by rfl) ?_
  refine AWp.seq ?_
  obtain ⟨r1, hr1, h⟩ := bindS h
  refine AWp.region (oc (mv hN (ot 0 (qe_api_Entry_5 a0)))
  (oc (OpJ.makeF (OpdL.cons (ot 3 (.ptr 1003 0 [])) OpdL.nil) rfl rfl (ltN hN rfl))
  (oc (OpJ.callFn hB fnOk45 (table_filter_2_ac a0 a1 r1 hr1) [(0, 1003)] (by kernel_rfl) (ltN hN rfl) (by kernel_rfl) (OpdL.cons (ot 7 (qe_api_Entry_5 a0)) (OpdL.cons (ot 8 (.func 55 [(.ptr 1003 0 [])])) OpdL.nil)))
  (oc (OpJ.assign (ltN hN rfl) (ot 9 (qe_api_Entry_5 r1)))
  (OpJs.nil))))) (by rfl) (by rfl) ?_
  refine seqQ_n ?_
  refine AWp.ghost (mp [] [(4, (.ptr 1004 0 [])), (6, (qe_api_Entry_5 r1))] [(1004, some (.box 39 (.d (.st [(.st [(.st [(.bool false), (.int .u64 0), (.int .u64 0)]), (.int .i64 0)]), (.int .i64 0)]))))] hB) ?_
  refine AWp.seq ?_
  refine sr (c (mv hN (q 6)) rfl (c (OpJ.val (v' := (i6 (r1.length : Int))) (by simp) (OpJ.lenD Try.underlying23 (ltN hN rfl) (q 10))) rfl (c (OpJ.eqlI (ltN hN rfl) (q 11) (Opd.int .i64 (0))) rfl cn))) ?_
  refine gh [(4, _), (6, _), (12, _)] [(1004, some _)] hB rfl rfl (by rfl) ?_
  refine AWp.cond rfl (fun hg2 => ?_) (fun hg2 => ?_)
  · replace h := ite_t hg2 h
    refine sr (c (OpJ.coe (v := (.st [(.d (.st [(.st [(.bool false), (.int .u64 0), (.int .u64 0)]), (.int .i64 0)])), (i6 0)])) (y := (.st [(.st [(.st [(.bool false), (.int .u64 0), (.int .u64 0)]), (.int .i64 0)]), (.int .i64 0)])) (Co.st (CoL.cons (Co.d _) (CoL.cons (Co.d _) CoL.nil))) rfl (OpJ.build (places := [(0, 4), (4, 1)]) ⟨Try.underlying39, fun w => by kernel_rfl⟩ tyZS39 Opds.nil (by kernel_rfl) (r := (.st [(.d (.st [(.st [(.bool false), (.int .u64 0), (.int .u64 0)]), (.int .i64 0)])), (i6 0)])) (by rfl) (ltN hN rfl))) rfl (cg (OpJ.storeB tyS39 (SetAt.here _ _) (by rfl) (by rfl) (by simp) rfl (q 4) (q 13)) rfl (c (OpJ.assign (ltN hN rfl) (Opd.bool false)) rfl cn))) ?_
    refine gh [(4, _), (5, _)] [(1004, some _)] hB rfl rfl (by rfl) ?_
    refine AWp.ret ?_
    refine seqQ_r ?_
    obtain rfl := Option.some.inj h
    exact ⟨.inl rfl, _, _, (kp [(4, _), (5, _)] [(1004, some _)] hB rfl rfl (by rfl)), [(.d (.st [(.st [(.st [(.bool false), (.int .u64 0), (.int .u64 0)]), (.int .i64 0)]), (.int .i64 0)])), (bo false)], (Res.cell (c := (.d (.st [(.st [(.st [(.bool false), (.int .u64 0), (.int .u64 0)]), (.int .i64 0)]), (.int .i64 0)]))) (by rfl) (by rfl) tyS39 (by rfl) (by rfl) (by rfl) (Res.tmp (by rfl) (by rfl) Res.nil)), rfl, by rfl, by rfl, by rfl⟩
  · replace h := ite_f hg2 h
    refine AWp.skip ?_
    refine seqQ_n ?_
    obtain ⟨r3, hr3, h⟩ := bindS h
    refine sr (c (mv hN (q 6)) rfl (cg (OpJ.callFn hB fnOk57 (slices_MaxFunc_ac r1 r3 hr3) [] (by kernel_rfl) (ltN hN rfl) (by kernel_rfl) (OpdL.cons (q 14) (OpdL.cons (Opd.func 58) OpdL.nil))) rfl (cg (OpJ.storeB tyS39 (SetAt.here _ _) (by rfl) (by rfl) (by simp) rfl (q 4) (q 15)) rfl (c (OpJ.assign (ltN hN rfl) (Opd.bool true)) rfl cn)))) ?_
    refine gh [(4, _), (5, _)] [(1004, some _)] hB rfl rfl (by rfl) ?_
    refine AWp.ret ?_
    obtain rfl := Option.some.inj h
    exact ⟨.inl rfl, _, _, (kp [(4, _), (5, _)] [(1004, some _)] hB rfl rfl (by rfl)), [(.d (e_api_Entry r3)), (bo true)], (Res.cell (c := (.d (e_api_Entry r3))) (by rfl) (by rfl) tyS39 (by rfl) (by rfl) (by rfl) (Res.tmp (by rfl) (by rfl) Res.nil)), rfl, by rfl, by rfl, by rfl⟩

noncomputable def exchangepointlaw03_awake : Option (Bool) :=
  (table_Aggregate ([(api_Entry.mk (api_Prefix.mk (api_Addr.mk false (0 : Int) (167772160 : Int)) (25 : Int)) (7 : Int)), (api_Entry.mk (api_Prefix.mk (api_Addr.mk false (0 : Int) (167772288 : Int)) (25 : Int)) (7 : Int))] : List api_Entry)).bind fun r1 =>
  (table_Lookup ([(api_Entry.mk (api_Prefix.mk (api_Addr.mk false (0 : Int) (167772160 : Int)) (25 : Int)) (7 : Int)), (api_Entry.mk (api_Prefix.mk (api_Addr.mk false (0 : Int) (167772288 : Int)) (25 : Int)) (7 : Int))] : List api_Entry) (api_Addr.mk false (0 : Int) (167772290 : Int))).bind fun r2 =>
  jn (fun m5 : Bool =>
  some m5) (fun j6 =>
  (if ((r1.length : Int) == (1 : Int)) = true then
  (idx r1 (0 : Int)).bind fun x8 =>
  j6 (((x8.fPrefix.fLen == (24 : Int)) && r2.2) && (r2.1.fValue == (7 : Int)))
  else
  j6 false))
set_option maxHeartbeats 4000000 in
set_option maxRecDepth 100000 in
theorem exchangepointlaw03_awake_ac (r : Bool) (h : exchangepointlaw03_awake = some r) : AC Try.prog 15 [] [] (.d (.bool r)) [] := by
  refine AC.of_code2 Try.func15 rfl rfl (Nat.le_of_ble_eq_true (by rfl)) fun B hB hN => ?_
  have L {d : Nat} (h : Nat.blt d Try.f15.ntmps = true) : d < B.N := ltN hN h
  delta exchangepointlaw03_awake at h
  refine sr (c (OpJ.assign (L rfl) (Opd.bool false)) rfl cn) ?_
  refine gh [] [] hB rfl rfl (by rfl) ?_
  refine sr (c (OpJ.coe (v := (.st [(bo false), (.d (.int .u64 0)), (.d (.int .u64 (167772160 : Int)))])) (y := (.st [(.bool false), (.int .u64 0), (.int .u64 (167772160 : Int))])) (Co.st (CoL.cons (Co.d _) (CoL.cons (Co.d _) (CoL.cons (Co.d _) CoL.nil)))) rfl (OpJ.build (places := [(0, 1), (1, 1), (2, 1)]) ⟨Try.underlying33, fun w => by kernel_rfl⟩ tyZS33 (Opds.cons (Opd.int .u64 (167772160)) Opds.nil) (by kernel_rfl) (r := (.st [(bo false), (.d (.int .u64 0)), (.d (.int .u64 (167772160 : Int)))])) (by rfl) (L rfl))) rfl (c (OpJ.coe (v := (.st [(.d (.st [(.bool false), (.int .u64 0), (.int .u64 (167772160 : Int))])), (i6 (25 : Int))])) (y := (.st [(.st [(.bool false), (.int .u64 0), (.int .u64 (167772160 : Int))]), (.int .i64 (25 : Int))])) (Co.st (CoL.cons (Co.d _) (CoL.cons (Co.d _) CoL.nil))) rfl (OpJ.build (places := [(0, 3), (3, 1)]) ⟨Try.underlying37, fun w => by kernel_rfl⟩ tyZS37 (Opds.cons (q 5) (Opds.cons (Opd.int .i64 (25)) Opds.nil)) (by kernel_rfl) (r := (.st [(.d (.st [(.bool false), (.int .u64 0), (.int .u64 (167772160 : Int))])), (i6 (25 : Int))])) (by rfl) (L rfl))) rfl (c (OpJ.coe (v := (.st [(.d (.st [(.st [(.bool false), (.int .u64 0), (.int .u64 (167772160 : Int))]), (.int .i64 (25 : Int))])), (i6 (7 : Int))])) (y := (.st [(.st [(.st [(.bool false), (.int .u64 0), (.int .u64 (167772160 : Int))]), (.int .i64 (25 : Int))]), (.int .i64 (7 : Int))])) (Co.st (CoL.cons (Co.d _) (CoL.cons (Co.d _) CoL.nil))) rfl (OpJ.build (places := [(0, 4), (4, 1)]) ⟨Try.underlying39, fun w => by kernel_rfl⟩ tyZS39 (Opds.cons (q 6) (Opds.cons (Opd.int .i64 (7)) Opds.nil)) (by kernel_rfl) (r := (.st [(.d (.st [(.st [(.bool false), (.int .u64 0), (.int .u64 (167772160 : Int))]), (.int .i64 (25 : Int))])), (i6 (7 : Int))])) (by rfl) (L rfl))) rfl (c (OpJ.coe (v := (.st [(bo false), (.d (.int .u64 0)), (.d (.int .u64 (167772288 : Int)))])) (y := (.st [(.bool false), (.int .u64 0), (.int .u64 (167772288 : Int))])) (Co.st (CoL.cons (Co.d _) (CoL.cons (Co.d _) (CoL.cons (Co.d _) CoL.nil)))) rfl (OpJ.build (places := [(0, 1), (1, 1), (2, 1)]) ⟨Try.underlying33, fun w => by kernel_rfl⟩ tyZS33 (Opds.cons (Opd.int .u64 (167772288)) Opds.nil) (by kernel_rfl) (r := (.st [(bo false), (.d (.int .u64 0)), (.d (.int .u64 (167772288 : Int)))])) (by rfl) (L rfl))) rfl (c (OpJ.coe (v := (.st [(.d (.st [(.bool false), (.int .u64 0), (.int .u64 (167772288 : Int))])), (i6 (25 : Int))])) (y := (.st [(.st [(.bool false), (.int .u64 0), (.int .u64 (167772288 : Int))]), (.int .i64 (25 : Int))])) (Co.st (CoL.cons (Co.d _) (CoL.cons (Co.d _) CoL.nil))) rfl (OpJ.build (places := [(0, 3), (3, 1)]) ⟨Try.underlying37, fun w => by kernel_rfl⟩ tyZS37 (Opds.cons (q 8) (Opds.cons (Opd.int .i64 (25)) Opds.nil)) (by kernel_rfl) (r := (.st [(.d (.st [(.bool false), (.int .u64 0), (.int .u64 (167772288 : Int))])), (i6 (25 : Int))])) (by rfl) (L rfl))) rfl (c (OpJ.coe (v := (.st [(.d (.st [(.st [(.bool false), (.int .u64 0), (.int .u64 (167772288 : Int))]), (.int .i64 (25 : Int))])), (i6 (7 : Int))])) (y := (.st [(.st [(.st [(.bool false), (.int .u64 0), (.int .u64 (167772288 : Int))]), (.int .i64 (25 : Int))]), (.int .i64 (7 : Int))])) (Co.st (CoL.cons (Co.d _) (CoL.cons (Co.d _) CoL.nil))) rfl (OpJ.build (places := [(0, 4), (4, 1)]) ⟨Try.underlying39, fun w => by kernel_rfl⟩ tyZS39 (Opds.cons (q 9) (Opds.cons (Opd.int .i64 (7)) Opds.nil)) (by kernel_rfl) (r := (.st [(.d (.st [(.st [(.bool false), (.int .u64 0), (.int .u64 (167772288 : Int))]), (.int .i64 (25 : Int))])), (i6 (7 : Int))])) (by rfl) (L rfl))) rfl (c (OpJ.buildSlice Try.underlying23 tyS39 tyZD39 (by rfl) (by decide) (by decide) (Opds.cons (q 7) (Opds.cons (q 10) Opds.nil)) (by kernel_rfl) (es := ([(.st [(.st [(.st [(.bool false), (.int .u64 0), (.int .u64 (167772160 : Int))]), (.int .i64 (25 : Int))]), (.int .i64 (7 : Int))]), (.st [(.st [(.st [(.bool false), (.int .u64 0), (.int .u64 (167772288 : Int))]), (.int .i64 (25 : Int))]), (.int .i64 (7 : Int))])] : List D)) (by rfl) (by rfl) (by kernel_rfl) (by simp) (L rfl)) rfl (c (OpJ.assign (L rfl) (q 11)) rfl cn)))))))) ?_
  refine gh [(1, _)] [] hB rfl rfl (by rfl) ?_
  obtain ⟨r1, hr1, h⟩ := bindS h
  refine sr (c (mv hN (q 1)) rfl (cg (OpJ.callFn hB fnOk13 (table_Aggregate_ac ([(api_Entry.mk (api_Prefix.mk (api_Addr.mk false (0 : Int) (167772160 : Int)) (25 : Int)) (7 : Int)), (api_Entry.mk (api_Prefix.mk (api_Addr.mk false (0 : Int) (167772288 : Int)) (25 : Int)) (7 : Int))] : List api_Entry) r1 hr1) [] (by kernel_rfl) (L rfl) (by kernel_rfl) (OpdL.cons (q 12) OpdL.nil)) rfl (c (OpJ.assign (L rfl) (q 13)) rfl cn))) ?_
  refine gh [(1, _), (2, _)] [] hB rfl rfl (by rfl) ?_
  obtain ⟨r2, hr2, h⟩ := bindS h
  refine sr (c (mv hN (q 1)) rfl (c (OpJ.coe (v := (.st [(bo false), (.d (.int .u64 0)), (.d (.int .u64 (167772290 : Int)))])) (y := (.st [(.bool false), (.int .u64 0), (.int .u64 (167772290 : Int))])) (Co.st (CoL.cons (Co.d _) (CoL.cons (Co.d _) (CoL.cons (Co.d _) CoL.nil)))) rfl (OpJ.build (places := [(0, 1), (1, 1), (2, 1)]) ⟨Try.underlying33, fun w => by kernel_rfl⟩ tyZS33 (Opds.cons (Opd.int .u64 (167772290)) Opds.nil) (by kernel_rfl) (r := (.st [(bo false), (.d (.int .u64 0)), (.d (.int .u64 (167772290 : Int)))])) (by rfl) (L rfl))) rfl (cg (OpJ.callFn hB fnOk20 (table_Lookup_ac ([(api_Entry.mk (api_Prefix.mk (api_Addr.mk false (0 : Int) (167772160 : Int)) (25 : Int)) (7 : Int)), (api_Entry.mk (api_Prefix.mk (api_Addr.mk false (0 : Int) (167772288 : Int)) (25 : Int)) (7 : Int))] : List api_Entry) (api_Addr.mk false (0 : Int) (167772290 : Int)) r2 hr2) [] (by kernel_rfl) (L rfl) (by kernel_rfl) (OpdL.cons (q 15) (OpdL.cons (q 16) OpdL.nil))) rfl (c (mv hN (q 17)) rfl (c (OpJ.extract (by rfl) rfl (L rfl) (q 14)) rfl (c (OpJ.extract (by rfl) rfl (L rfl) (q 14)) rfl (cg (OpJ.alloc hB tyZ39 (nm := 1003) (by decide) (L rfl)) rfl (cg (OpJ.storeB tyS39 (SetAt.here _ _) (by rfl) (by rfl) (by simp) rfl (q 3) (q 18)) rfl (c (OpJ.assign (L rfl) (q 19)) rfl cn))))))))) ?_
  refine gh [(2, _), (3, _), (4, _)] [(1003, some _)] hB rfl rfl (by rfl) ?_
  refine AWp.seq ?_
  refine AWp.cut h (fun m5 : Bool => ([(0, (bo m5))] : EL)) (fun m5 : Bool => ([] : OL)) (fun m5 h E' O' hmat => ?_) (fun j6 hjj6 h => ?_)
  · refine seqQ_n ?_
    refine AWp.ghost hmat ?_
    refine AWp.ret ?_
    obtain rfl := Option.some.inj h
    exact ⟨.inl rfl, _, _, (kp [(0, _)] [] hB rfl rfl (by rfl)), [(bo m5)], (Res.tmp (by rfl) (by rfl) Res.nil), rfl, by rfl, by rfl, by rfl⟩
  · rcases Bool.eq_false_or_eq_true ((r1.length : Int) == (1 : Int)) with hg7 | hg7
    · replace h := ite_t hg7 h
      obtain ⟨x8, hx8, h⟩ := bindS h
      refine rg (c (mv hN (q 2)) rfl (c (OpJ.val (v' := (i6 (r1.length : Int))) (by simp) (OpJ.lenD Try.underlying23 (L rfl) (q 20))) rfl (c (OpJ.eqlI (L rfl) (q 21) (Opd.int .i64 (1))) rfl (c (OpJ.val (v' := .d (.bool true)) (by rw [hg7]) (mv hN (q 22))) rfl (c (OpJ.guarded (g := 23) (by rfl) (mv hN (q 2))) rfl (c (OpJ.guarded (g := 23) (by rfl) (OpJ.indexD Try.underlying23 tyS39 (idx_some hx8).1 (get_map e_api_Entry (idx_some hx8).2) (L rfl) (q 24) (Opd.int .i64 (0)))) rfl (c (OpJ.guarded (g := 23) (by rfl) (OpJ.fieldD Try.underlying39 (by rfl) (o := 0) (by rfl) tyS37 (by decide) (by rfl) (by rfl) (L rfl) (q 25))) rfl (c (OpJ.guarded (g := 23) (by rfl) (OpJ.fieldD Try.underlying37 (by rfl) (o := 3) (by rfl) tyS3 (by decide) (by rfl) (by rfl) (L rfl) (q 26))) rfl (c (OpJ.guarded (g := 23) (by rfl) (OpJ.loadD tyS3 (by rfl) (by rfl) (L rfl) (q 27))) rfl (c (OpJ.guarded (g := 23) (by rfl) (OpJ.eqlI (L rfl) (q 28) (Opd.int .i64 (24)))) rfl (c (OpJ.pickT (L rfl) (q 23) (q 29)) rfl (c (mv hN (q 30)) rfl (c (oq hN 31 (mv hN (q 4)) (OptL.keep (by rfl) OptL.nil) (GuardV.plain _)) rfl (c (OpJ.pickAnd rfl (L rfl) (q 31) (q 32)) rfl (c (mv hN (q 33)) rfl (c (oq hN 34 (ov (.ptr 1003 4 [1]) (fp hN Try.underlying39 4 tyS3 _ (q 3))) (OptL.keep (by rfl) OptL.nil) (GuardV.plain _)) rfl (c (oq hN 34 (lb hN 39 _ _ tyS3 (ad _) (q 35)) (OptL.opt OptL.nil) (GuardV.plain _)) rfl (c (oq hN 34 (OpJ.eqlI (L rfl) (q 36) (Opd.int .i64 (7))) (OptL.opt OptL.nil) (GuardV.plain _)) rfl (c (OpJ.pickAnd rfl (L rfl) (q 34) (q 37)) rfl (c (OpJ.assign (L rfl) (q 38)) rfl cn)))))))))))))))))))) ?_
      exact hjj6 _ h _ _ (Mat.trans (mp [] [(0, (bo (((x8.fPrefix.fLen == (24 : Int)) && r2.2) && (r2.1.fValue == (7 : Int)))))] [] hB) (mp [] _ _ hB))
    · replace h := ite_f hg7 h
      refine rg (c (mv hN (q 2)) rfl (c (OpJ.val (v' := (i6 (r1.length : Int))) (by simp) (OpJ.lenD Try.underlying23 (L rfl) (q 20))) rfl (c (OpJ.eqlI (L rfl) (q 21) (Opd.int .i64 (1))) rfl (c (OpJ.val (v' := .d (.bool false)) (by rw [hg7]) (mv hN (q 22))) rfl (cg (OpJ.skipU (g := 23) (L rfl) (by rfl)) rfl (cg (OpJ.skipU (g := 23) (L rfl) (by rfl)) rfl (cg (OpJ.skipU (g := 23) (L rfl) (by rfl)) rfl (cg (OpJ.skipU (g := 23) (L rfl) (by rfl)) rfl (cg (OpJ.skipU (g := 23) (L rfl) (by rfl)) rfl (cg (OpJ.skipU (g := 23) (L rfl) (by rfl)) rfl (c (OpJ.pickF (L rfl) (q 23) (Opd.bool false)) rfl (c (mv hN (q 30)) rfl (cg (OpJ.skipU (g := 31) (L rfl) (by rfl)) rfl (c (OpJ.pickF (L rfl) (q 31) (Opd.bool false)) rfl (c (mv hN (q 33)) rfl (cg (OpJ.skipU (g := 34) (L rfl) (by rfl)) rfl (cg (OpJ.skipU (g := 34) (L rfl) (by rfl)) rfl (cg (OpJ.skipU (g := 34) (L rfl) (by rfl)) rfl (c (OpJ.pickF (L rfl) (q 34) (Opd.bool false)) rfl (c (OpJ.assign (L rfl) (q 38)) rfl cn)))))))))))))))))))) ?_
      exact hjj6 _ h _ _ (Mat.trans (mp [] [(0, (bo false))] [] hB) (mp [] _ _ hB))

noncomputable def table_Covering_1 (a0 : api_Prefix) (a1 : api_Prefix) : Option (Bool) :=
  (prefix_Covers a0 a1).bind fun r1 =>
  some r1
set_option maxHeartbeats 4000000 in
set_option maxRecDepth 100000 in
theorem table_Covering_1_ac (a0 : api_Prefix) (a1 : api_Prefix) (r : Bool) (h : table_Covering_1 a0 a1 = some r) : AC Try.prog 54 [(.d (e_api_Prefix a0)), (.ptr 0 0 [])] [(0, (.box 37 (.d (e_api_Prefix a1))))] (.d (.bool r)) [(0, some (.box 37 (.d (e_api_Prefix a1))))] := by
  refine AC.of_code2 Try.func54 rfl rfl (Nat.le_of_ble_eq_true (by rfl)) fun B hB hN => ?_
  delta table_Covering_1 at h
  refine sr (cg (OpJ.box hB (nm := 1002) (by decide) (by simp) rfl (ltN hN rfl) (q 0)) rfl (c (OpJ.assign (ltN hN rfl) (Opd.bool false)) rfl cn)) ?_
  refine gh [(1, _), (2, _)] [(0, some _), (1002, some _)] hB rfl rfl (by rfl) ?_
  obtain ⟨r1, hr1, h⟩ := bindS h
  refine sr (c (lb hN 37 _ _ tyS37 (At.here _) (q 2)) rfl (c (lb hN 37 _ _ tyS37 (At.here _) (q 1)) rfl (cg (OpJ.callFn hB fnOk47 (prefix_Covers_ac a0 a1 r1 hr1) [] (by kernel_rfl) (ltN hN rfl) (by kernel_rfl) (OpdL.cons (q 4) (OpdL.cons (q 5) OpdL.nil))) rfl (c (OpJ.assign (ltN hN rfl) (q 6)) rfl cn)))) ?_
  refine gh [(3, _)] [(0, some _)] hB rfl rfl (by rfl) ?_
  refine AWp.ret ?_
  obtain rfl := Option.some.inj h
  exact ⟨.inl rfl, _, _, (kp [(3, _)] [(0, some _)] hB rfl rfl (by rfl)), [(bo r1)], (Res.tmp (by rfl) (by rfl) Res.nil), rfl, by rfl, by rfl, by rfl⟩

noncomputable def table_filter_3_L0 (a0 : (List api_Entry)) (a1 : api_Prefix) (s1 : Int × (List api_Entry)) : Option ((((List api_Entry))) ⊕ (Int × (List api_Entry))) :=
  (if (decide (s1.1 < (a0.length : Int))) = true then
  (idx a0 s1.1).bind fun x22 =>
  (table_Covering_1 x22.fPrefix a1).bind fun r23 =>
  jn (fun m26 : (List api_Entry) =>
  some (.inr ((w64 (s1.1 + (1 : Int))), m26))) (fun j27 =>
  (if r23 = true then
  chk (decide ((s1.2 ++ ([x22] : List api_Entry)).length ≤ LIM)) <|
  j27 (s1.2 ++ ([x22] : List api_Entry))
  else
  j27 s1.2))
  else
  some (.inl s1.2))
noncomputable def table_filter_3 (a0 : (List api_Entry)) (a1 : api_Prefix) : Option ((List api_Entry)) :=
  (loop (table_filter_3_L0 a0 a1) ((0 : Int), ([] : List api_Entry))).bind fun p20 =>
  some p20
set_option maxHeartbeats 4000000 in
set_option maxRecDepth 100000 in
theorem table_filter_3_ac (a0 : (List api_Entry)) (a1 : api_Prefix) (r : (List api_Entry)) (h : table_filter_3 a0 a1 = some r) : AC Try.prog 45 [(.d (.list 5 (a0.map e_api_Entry))), (.func 54 [(.ptr 0 0 [])])] [(0, (.box 37 (.d (e_api_Prefix a1))))] (.d (.list 5 (r.map e_api_Entry))) [(0, some (.box 37 (.d (e_api_Prefix a1))))] := by
  refine AC.of_code2 Try.func45 rfl rfl (Nat.le_of_ble_eq_true (by rfl)) fun B hB hN => ?_
  have L {d : Nat} (h : Nat.blt d Try.f45.ntmps = true) : d < B.N := ltN hN h
  delta table_filter_3 at h
  refine sr (c (OpJ.assign (L rfl) Opd.nils) rfl cn) ?_
  refine gh [(0, _), (1, _)] [(0, some _)] hB rfl rfl (by rfl) ?_
  refine sr (c (OpJ.assign (L rfl) Opd.nils) rfl cn) ?_
  refine gh [(0, _), (1, _), (5, _)] [(0, some _)] hB rfl rfl (by rfl) ?_
  refine AWp.seq ?_
  refine sr (c (mv hN (q 0)) rfl (c (OpJ.val (v' := (i6 (a0.length : Int))) (by simp) (OpJ.lenD Try.underlying23 (L rfl) (q 8))) rfl (c (mv hN (Opd.int .i64 (0))) rfl cn))) ?_
  refine gh [(1, _), (5, _), (8, _), (9, _), (10, _)] [(0, some _)] hB rfl rfl (by rfl) ?_
  refine AWp.block ?_
  obtain ⟨p20, hx31, h⟩ := bindS h
  refine lg (table_filter_3_L0 a0 a1) (fun s1 : Int × (List api_Entry) => ([(1, (.func 54 [(.ptr 0 0 [])])), (5, (.sref 3005 5 0 s1.2.length)), (8, (qe_api_Entry_5 a0)), (9, (i6 (a0.length : Int))), (10, (i6 s1.1))] : EL)) (fun s1 : Int × (List api_Entry) => ([(0, some (.box 37 (.d (e_api_Prefix a1)))), (3005, some (we_api_Entry_39_5 s1.2))] : OL)) (fun (p20 : ((List api_Entry))) e E' O' => e = .exit 0 ∧ Mat B E' O' ([(5, (.sref 3005 5 0 p20.length))] : EL) ([(0, some (.box 37 (.d (e_api_Prefix a1)))), (3005, some (we_api_Entry_39_5 p20))] : OL)) hx31 (Mat.trans (Mat.beginP (n := 3005) (e := 39) (sz := 5) (Ts := [(5, (.sref 3005 5 0 0))]) (Bs := []) hB (by decide) (by rfl) (by decide) (TwT.cons (x := .nils) (by rfl) (Tw.leaf ⟨rfl, rfl⟩) TwT.nil) TwB.nil) (mp [] _ _ hB)) (fun s1 y h => ?_) (fun e E' O' hR => ?_)
  · unfold table_filter_3_L0 at h
    refine sr (c (OpJ.lss (L rfl) (q 10) (q 9)) rfl cn) ?_
    refine gh [(1, _), (5, _), (8, _), (9, _), (10, _), (11, _)] [(0, some _), (3005, some _)] hB rfl rfl (by rfl) ?_
    refine AWp.seq ?_
    refine AWp.cond rfl (fun hg21 => ?_) (fun hg21 => ?_)
    · replace h := ite_t hg21 h
      refine AWp.skip ?_
      refine seqQ_n ?_
      refine AWp.seq ?_
      refine AWp.block ?_
      obtain ⟨x22, hx22, h⟩ := bindS h
      refine sr (c (OpJ.indexD Try.underlying23 tyS39 (idx_some hx22).1 (get_map e_api_Entry (idx_some hx22).2) (L rfl) (q 8) (q 10)) rfl (c (OpJ.loadD tyS39 (by rfl) (by rfl) (L rfl) (q 12)) rfl (cg (OpJ.alloc hB tyZ39 (nm := 1007) (by decide) (L rfl)) rfl (cg (OpJ.storeB tyS39 (SetAt.here _ _) (by rfl) (by rfl) (by simp) rfl (q 7) (q 13)) rfl cn)))) ?_
      refine gh [(1, _), (5, _), (7, _), (8, _), (9, _), (10, _)] [(0, some _), (1007, some _), (3005, some _)] hB rfl rfl (by rfl) ?_
      refine AWp.seq ?_
      obtain ⟨r23, hr23, h⟩ := bindS h
      refine AWp.region (oc (mv hN (ot 1 (.func 54 [(.ptr 0 0 [])])))
        (oc (ov (.ptr 1007 0 [0]) (fp hN Try.underlying39 0 tyS37 (.box 39 (.d (e_api_Entry x22))) (ot 7 (.ptr 1007 0 []))))
        (oc (lb hN 39 (.d (e_api_Entry x22)) (.d (e_api_Prefix x22.fPrefix)) tyS37 (ad (e_api_Prefix x22.fPrefix)) (ot 15 (.ptr 1007 0 [0])))
        (oc (OpJ.callVal (args := [(.d (e_api_Prefix x22.fPrefix))]) (caps := [(.ptr 0 0 [])]) hB fnOk54 [(0, 0)] (table_Covering_1_ac x22.fPrefix a1 r23 hr23) (by kernel_rfl) (L rfl) (by kernel_rfl) (by kernel_rfl) (OpdL.cons (ot 16 (.d (e_api_Prefix x22.fPrefix))) OpdL.nil))
        (OpJs.nil))))) (by rfl) (by rfl) ?_
      refine seqQ_n ?_
      refine AWp.ghost (mp [] [(1, (.func 54 [(.ptr 0 0 [])])), (5, (.sref 3005 5 0 s1.2.length)), (7, (.ptr 1007 0 [])), (8, (qe_api_Entry_5 a0)), (9, (i6 (a0.length : Int))), (10, (i6 s1.1)), (17, (bo r23))] [(0, some (.box 37 (.d (e_api_Prefix a1)))), (1007, some (.box 39 (.d (e_api_Entry x22)))), (3005, some (we_api_Entry_39_5 s1.2))] hB) ?_
      refine AWp.cut h (fun m26 : (List api_Entry) => ([(1, (.func 54 [(.ptr 0 0 [])])), (5, (.sref 3005 5 0 m26.length)), (8, (qe_api_Entry_5 a0)), (9, (i6 (a0.length : Int))), (10, (i6 s1.1))] : EL)) (fun m26 : (List api_Entry) => ([(0, some (.box 37 (.d (e_api_Prefix a1)))), (3005, some (we_api_Entry_39_5 m26))] : OL)) (fun m26 h E' O' hmat => ?_) (fun j27 hjj27 h => ?_)
      · refine blkQ_n ?_
        refine seqQ_n ?_
        refine AWp.ghost hmat ?_
        refine rg (c (add6 (L rfl) (q 10) (Opd.int .i64 (1))) rfl (c (mv hN (q 22)) rfl cn)) ?_
        obtain rfl := Option.some.inj h
        exact ⟨rfl, (Mat.trans (mp [] [(1, (.func 54 [(.ptr 0 0 [])])), (5, (.sref 3005 5 0 m26.length)), (8, (qe_api_Entry_5 a0)), (9, (i6 (a0.length : Int))), (10, (i6 (w64 (s1.1 + (1 : Int)))))] [(0, some (.box 37 (.d (e_api_Prefix a1)))), (3005, some (we_api_Entry_39_5 m26))] hB) (mp [] _ _ hB))⟩
      · refine AWp.cond rfl (fun hg28 => ?_) (fun hg28 => ?_)
        · replace h := ite_t hg28 h
          obtain ⟨hc29, h⟩ := chk_some h
          refine rg (c (mv hN (q 5)) rfl (c (lb hN 39 _ _ tyS39 (At.here _) (q 7)) rfl (c (OpJ.buildSlice Try.underlying23 tyS39 tyZD39 (by rfl) (by decide) (by decide) (Opds.cons (q 19) Opds.nil) (by kernel_rfl) (es := ([(e_api_Entry x22)] : List D)) (by rfl) (by rfl) (by kernel_rfl) (by simp) (L rfl)) rfl (cg (OpJ.append hB Try.underlying23 tyE39 (nm := 1021) (by decide) (es := s1.2.map e_api_Entry) (ys := ([x22] : List api_Entry).map e_api_Entry) (es' := (s1.2 ++ ([x22] : List api_Entry)).map e_api_Entry) (len := (s1.2 ++ ([x22] : List api_Entry)).length) (by simp) (by simp) (map_sz (f := e_api_Entry) (fun _ => rfl)) (by rw [List.length_map]; exact lim_mulN hc29 (by decide)) (by rw [List.length_map]; exact lim_leN hc29) (L rfl) (by simp) (q 18) (q 20)) rfl (c (OpJ.assign (L rfl) (q 21)) rfl cn))))) ?_
          exact hjj27 _ h _ _ (Mat.trans (mp [] [(1, (.func 54 [(.ptr 0 0 [])])), (5, (.sref 1021 5 0 ((s1.2 ++ ([x22] : List api_Entry)).length))), (8, (qe_api_Entry_5 a0)), (9, (i6 (a0.length : Int))), (10, (i6 s1.1))] [(0, some (.box 37 (.d (e_api_Prefix a1)))), (1021, some (we_api_Entry_39_5 (s1.2 ++ ([x22] : List api_Entry))))] hB) (mp [(3005, 1021)] _ _ hB))
        · replace h := ite_f hg28 h
          refine AWp.skip ?_
          exact hjj27 _ h _ _ (mp [] _ _ hB)
    · replace h := ite_f hg21 h
      refine AWp.exit ?_
      refine seqQ_e ?_
      obtain rfl := Option.some.inj h
      exact ⟨(fun hc => by cases hc), rfl, (mp [] _ _ hB)⟩
  · obtain ⟨rfl, hmat⟩ := hR
    refine blkQ_hit ?_
    refine seqQ_n ?_
    refine AWp.ghost hmat ?_
    refine sr (c (mv hN (q 5)) rfl (c (OpJ.assign (L rfl) (q 23)) rfl cn)) ?_
    refine gh [(4, _)] [(0, some _), (3005, some _)] hB rfl rfl (by rfl) ?_
    refine AWp.ret ?_
    obtain rfl := Option.some.inj h
    exact ⟨.inl rfl, _, _, (Mat.trans (Mat.freezeP (n := 3005) (e := 39) (sz := 5) (es := p20.map e_api_Entry) (Ts := [(4, (qe_api_Entry_5 p20))]) (Bs := []) (by rfl) (TwT.cons (x := (.sref 3005 5 0 p20.length)) (by rfl) (FrzL.all (by first | rfl | (simp; done) | (simp; omega))) TwT.nil) TwB.nil) (mp [] [(4, (qe_api_Entry_5 p20))] [(0, some (.box 37 (.d (e_api_Prefix a1))))] hB)), [(qe_api_Entry_5 p20)], (Res.tmp (by rfl) (by rfl) Res.nil), rfl, by rfl, by rfl, by rfl⟩

noncomputable def table_Covering (a0 : (List api_Entry)) (a1 : api_Prefix) : Option ((List api_Entry)) :=
  (table_filter_3 a0 a1).bind fun r1 =>
  some r1
set_option maxHeartbeats 4000000 in
set_option maxRecDepth 100000 in
theorem table_Covering_ac (a0 : (List api_Entry)) (a1 : api_Prefix) (r : (List api_Entry)) (h : table_Covering a0 a1 = some r) : AC Try.prog 19 [(.d (.list 5 (a0.map e_api_Entry))), (.d (e_api_Prefix a1))] [] (.d (.list 5 (r.map e_api_Entry))) [] := by
  refine AC.of_code2 Try.func19 rfl rfl (Nat.le_of_ble_eq_true (by rfl)) fun B hB hN => ?_
  delta table_Covering at h
  refine sr (cg (OpJ.box hB (nm := 1003) (by decide) (by simp) rfl (ltN hN rfl) (q 1)) rfl (c (OpJ.assign (ltN hN rfl) Opd.nils) rfl cn)) ?_
  refine gh [(0, _), (3, _)] [(1003, some _)] hB rfl rfl (by rfl) ?_
  refine AWp.seq ?_
  obtain ⟨r1, hr1, h⟩ := bindS h
  refine AWp.region (oc (mv hN (ot 0 (qe_api_Entry_5 a0)))
  (oc (OpJ.makeF (OpdL.cons (ot 3 (.ptr 1003 0 [])) OpdL.nil) rfl rfl (ltN hN rfl))
  (oc (OpJ.callFn hB fnOk45 (table_filter_3_ac a0 a1 r1 hr1) [(0, 1003)] (by kernel_rfl) (ltN hN rfl) (by kernel_rfl) (OpdL.cons (ot 5 (qe_api_Entry_5 a0)) (OpdL.cons (ot 6 (.func 54 [(.ptr 1003 0 [])])) OpdL.nil)))
  (oc (OpJ.assign (ltN hN rfl) (ot 7 (qe_api_Entry_5 r1)))
  (OpJs.nil))))) (by rfl) (by rfl) ?_
  refine seqQ_n ?_
  refine AWp.ghost (mp [] [(4, (qe_api_Entry_5 r1))] [] hB) ?_
  refine AWp.ret ?_
  obtain rfl := Option.some.inj h
  exact ⟨.inl rfl, _, _, (kp [(4, _)] [] hB rfl rfl (by rfl)), [(qe_api_Entry_5 r1)], (Res.tmp (by rfl) (by rfl) Res.nil), rfl, by rfl, by rfl, by rfl⟩

noncomputable def table_Covered_1 (a0 : api_Prefix) (a1 : api_Prefix) : Option (Bool) :=
  (prefix_Covers a1 a0).bind fun r1 =>
  some r1
set_option maxHeartbeats 4000000 in
set_option maxRecDepth 100000 in
theorem table_Covered_1_ac (a0 : api_Prefix) (a1 : api_Prefix) (r : Bool) (h : table_Covered_1 a0 a1 = some r) : AC Try.prog 59 [(.d (e_api_Prefix a0)), (.ptr 0 0 [])] [(0, (.box 37 (.d (e_api_Prefix a1))))] (.d (.bool r)) [(0, some (.box 37 (.d (e_api_Prefix a1))))] := by
  refine AC.of_code2 Try.func59 rfl rfl (Nat.le_of_ble_eq_true (by rfl)) fun B hB hN => ?_
  delta table_Covered_1 at h
  refine sr (cg (OpJ.box hB (nm := 1002) (by decide) (by simp) rfl (ltN hN rfl) (q 0)) rfl (c (OpJ.assign (ltN hN rfl) (Opd.bool false)) rfl cn)) ?_
  refine gh [(1, _), (2, _)] [(0, some _), (1002, some _)] hB rfl rfl (by rfl) ?_
  obtain ⟨r1, hr1, h⟩ := bindS h
  refine sr (c (lb hN 37 _ _ tyS37 (At.here _) (q 1)) rfl (c (lb hN 37 _ _ tyS37 (At.here _) (q 2)) rfl (cg (OpJ.callFn hB fnOk47 (prefix_Covers_ac a1 a0 r1 hr1) [] (by kernel_rfl) (ltN hN rfl) (by kernel_rfl) (OpdL.cons (q 4) (OpdL.cons (q 5) OpdL.nil))) rfl (c (OpJ.assign (ltN hN rfl) (q 6)) rfl cn)))) ?_
  refine gh [(3, _)] [(0, some _)] hB rfl rfl (by rfl) ?_
  refine AWp.ret ?_
  obtain rfl := Option.some.inj h
  exact ⟨.inl rfl, _, _, (kp [(3, _)] [(0, some _)] hB rfl rfl (by rfl)), [(bo r1)], (Res.tmp (by rfl) (by rfl) Res.nil), rfl, by rfl, by rfl, by rfl⟩


end Go.Proofs.Ytbkhigkknhlmhaa
