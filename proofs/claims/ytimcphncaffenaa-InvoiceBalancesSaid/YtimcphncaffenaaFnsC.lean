/- Printed by gen.py: the Go functions as plain functions, and that the code does what they say. -/
import Derived.Test.YtimcphncaffenaaChecked
import Derived.Test.YtimcphncaffenaaVcYB
import Derived.Test.YtimcphncaffenaaVcZ
import Derived.KernelRfl
import Derived.Test.YtimcphncaffenaaFnsB
import Derived.Test.YtimcphncaffenaaExt
import Derived.Test.YtimcphncaffenaaVcV
import Derived.Test.YtimcphncaffenaaVcQ
namespace Go.Proofs.Ytimcphncaffenaa
open Go Go.Vc
noncomputable def exchangepointref41_Consistent_L0 (a0 : api_Invoice) (s2 : Int × Int) : Option (((Unit) ⊕ (Int)) ⊕ (Int × Int)) :=
  (if (decide (s2.2 < (a0.fLines.length : Int))) = true then
  (idx a0.fLines s2.2).bind fun x28 =>
  jn (fun m32 : Bool =>
  (if m32 = true then
  some (.inl (.inl ()))
  else
  some (.inr ((w64 (s2.1 + x28.fAmount)), (w64 (s2.2 + (1 : Int))))))) (fun j33 =>
  (if ((decide (x28.fPort < (1 : Int))) || (decide ((999 : Int) < x28.fPort))) = true then
  j33 true
  else
  (if (decide ((0 : Int) < s2.2)) = true then
  (idx a0.fLines (w64 (s2.2 - (1 : Int)))).bind fun x37 =>
  j33 (((((decide (x28.fPort ≤ x37.fPort)) || (decide (x28.fUsed < (-1125899906842624 : Int)))) || (decide ((1125899906842624 : Int) < x28.fUsed))) || (decide (x28.fAmount < (-1125899906842624 : Int)))) || (decide ((1125899906842624 : Int) < x28.fAmount)))
  else
  j33 ((((decide (x28.fUsed < (-1125899906842624 : Int))) || (decide ((1125899906842624 : Int) < x28.fUsed))) || (decide (x28.fAmount < (-1125899906842624 : Int)))) || (decide ((1125899906842624 : Int) < x28.fAmount))))))
  else
  some (.inl (.inr s2.1)))
noncomputable def exchangepointref41_Consistent (a0 : api_Invoice) : Option (Bool) :=
  (if (((((((decide (a0.fMember < (1 : Int))) || (decide ((4294967295 : Int) < a0.fMember))) || (decide (a0.fMonth < (1 : Int)))) || (decide ((100000 : Int) < a0.fMonth))) || (decide (a0.fVersion < (1 : Int)))) || (decide ((1000 : Int) < a0.fVersion))) || (decide ((8 : Int) < (a0.fLines.length : Int)))) = true then
  some false
  else
  (loop (exchangepointref41_Consistent_L0 a0) ((0 : Int), (0 : Int))).bind fun x38 => match x38 with
  | (.inl _) =>
    some false
  | (.inr p26) =>
    some (p26 == a0.fTotal))
set_option maxHeartbeats 4000000 in
set_option maxRecDepth 100000 in
theorem exchangepointref41_Consistent_ac (a0 : api_Invoice) (r : Bool) (h : exchangepointref41_Consistent a0 = some r) : AC Try.prog 23 [(.d (e_api_Invoice a0))] [] (.d (.bool r)) [] := by
  refine AC.of_code2 Try.func23 rfl rfl (Nat.le_of_ble_eq_true (by rfl)) fun B hB hN => ?_
  have L {d : Nat} (h : Nat.blt d Try.f23.ntmps = true) : d < B.N := ltN hN h
  delta exchangepointref41_Consistent at h
  refine sr (cg (OpJ.box hB (nm := 1001) (by decide) (by simp) rfl (L rfl) (q 0)) rfl (c (OpJ.assign (L rfl) (Opd.bool false)) rfl cn)) ?_
  refine gh [(1, _)] [(1001, some _)] hB rfl rfl (by rfl) ?_
  refine AWp.seq ?_
  refine sr (c (ov (.ptr 1001 0 [0]) (fp hN Try.underlying45 0 tyS3 _ (q 1))) rfl (c (lb hN 45 _ _ tyS3 (ad _) (q 6)) rfl (c (OpJ.lss (L rfl) (q 7) (Opd.int .i64 (1))) rfl (c (mv hN (q 8)) rfl (c (oq hN 9 (ov (.ptr 1001 0 [0]) (fp hN Try.underlying45 0 tyS3 _ (q 1))) (OptL.keep (by rfl) OptL.nil) (GuardV.plain _)) rfl (c (oq hN 9 (lb hN 45 _ _ tyS3 (ad _) (q 10)) (OptL.opt OptL.nil) (GuardV.plain _)) rfl (c (oq hN 9 (OpJ.gtr (L rfl) (q 11) (Opd.int .i64 (4294967295))) (OptL.opt OptL.nil) (GuardV.plain _)) rfl (c (OpJ.pickOr rfl (L rfl) (q 9) (q 12)) rfl (c (mv hN (q 13)) rfl (c (oq hN 14 (ov (.ptr 1001 1 [1]) (fp hN Try.underlying45 1 tyS3 _ (q 1))) (OptL.keep (by rfl) OptL.nil) (GuardV.plain _)) rfl (c (oq hN 14 (lb hN 45 _ _ tyS3 (ad _) (q 15)) (OptL.opt OptL.nil) (GuardV.plain _)) rfl (c (oq hN 14 (OpJ.lss (L rfl) (q 16) (Opd.int .i64 (1))) (OptL.opt OptL.nil) (GuardV.plain _)) rfl (c (OpJ.pickOr rfl (L rfl) (q 14) (q 17)) rfl (c (mv hN (q 18)) rfl (c (oq hN 19 (ov (.ptr 1001 1 [1]) (fp hN Try.underlying45 1 tyS3 _ (q 1))) (OptL.keep (by rfl) OptL.nil) (GuardV.plain _)) rfl (c (oq hN 19 (lb hN 45 _ _ tyS3 (ad _) (q 20)) (OptL.opt OptL.nil) (GuardV.plain _)) rfl (c (oq hN 19 (OpJ.gtr (L rfl) (q 21) (Opd.int .i64 (100000))) (OptL.opt OptL.nil) (GuardV.plain _)) rfl (c (OpJ.pickOr rfl (L rfl) (q 19) (q 22)) rfl (c (mv hN (q 23)) rfl (c (oq hN 24 (ov (.ptr 1001 2 [2]) (fp hN Try.underlying45 2 tyS3 _ (q 1))) (OptL.keep (by rfl) OptL.nil) (GuardV.plain _)) rfl (c (oq hN 24 (lb hN 45 _ _ tyS3 (ad _) (q 25)) (OptL.opt OptL.nil) (GuardV.plain _)) rfl (c (oq hN 24 (OpJ.lss (L rfl) (q 26) (Opd.int .i64 (1))) (OptL.opt OptL.nil) (GuardV.plain _)) rfl (c (OpJ.pickOr rfl (L rfl) (q 24) (q 27)) rfl (c (mv hN (q 28)) rfl (c (oq hN 29 (ov (.ptr 1001 2 [2]) (fp hN Try.underlying45 2 tyS3 _ (q 1))) (OptL.keep (by rfl) OptL.nil) (GuardV.plain _)) rfl (c (oq hN 29 (lb hN 45 _ _ tyS3 (ad _) (q 30)) (OptL.opt OptL.nil) (GuardV.plain _)) rfl (c (oq hN 29 (OpJ.gtr (L rfl) (q 31) (Opd.int .i64 (1000))) (OptL.opt OptL.nil) (GuardV.plain _)) rfl (c (OpJ.pickOr rfl (L rfl) (q 29) (q 32)) rfl (c (mv hN (q 33)) rfl (c (oq hN 34 (ov (.ptr 1001 3 [3]) (fp hN Try.underlying45 3 tyS43 _ (q 1))) (OptL.keep (by rfl) OptL.nil) (GuardV.plain _)) rfl (c (oq hN 34 (lb hN 45 _ _ tyS43 (ad _) (q 35)) (OptL.opt OptL.nil) (GuardV.plain _)) rfl (c (oq hN 34 (OpJ.val (v' := (i6 (a0.fLines.length : Int))) (by simp) (OpJ.lenD Try.underlying43 (L rfl) (q 36))) (OptL.opt OptL.nil) (GuardV.plain _)) rfl (c (oq hN 34 (OpJ.gtr (L rfl) (q 37) (Opd.int .i64 (8))) (OptL.opt OptL.nil) (GuardV.plain _)) rfl (c (OpJ.pickOr rfl (L rfl) (q 34) (q 38)) rfl cn)))))))))))))))))))))))))))))))))) ?_
  refine gh [(1, _), (39, _)] [(1001, some _)] hB rfl rfl (by rfl) ?_
  refine AWp.cond rfl (fun hg1 => ?_) (fun hg1 => ?_)
  · replace h := ite_t hg1 h
    refine sr (c (OpJ.assign (L rfl) (Opd.bool false)) rfl cn) ?_
    refine gh [(2, _)] [] hB rfl rfl (by rfl) ?_
    refine AWp.ret ?_
    refine seqQ_r ?_
    obtain rfl := Option.some.inj h
    exact ⟨.inl rfl, _, _, (kp [(2, _)] [] hB rfl rfl (by rfl)), [(bo false)], (Res.tmp (by rfl) (by rfl) Res.nil), rfl, by rfl, by rfl, by rfl⟩
  · replace h := ite_f hg1 h
    refine AWp.skip ?_
    refine seqQ_n ?_
    refine sr (c (OpJ.assign (L rfl) (Opd.int .i64 (0))) rfl cn) ?_
    refine gh [(1, _), (3, _)] [(1001, some _)] hB rfl rfl (by rfl) ?_
    refine AWp.seq ?_
    refine sr (c (ov (.ptr 1001 3 [3]) (fp hN Try.underlying45 3 tyS43 _ (q 1))) rfl (c (lb hN 45 _ _ tyS43 (ad _) (q 40)) rfl (c (OpJ.val (v' := (i6 (a0.fLines.length : Int))) (by simp) (OpJ.lenD Try.underlying43 (L rfl) (q 41))) rfl (c (mv hN (Opd.int .i64 (0))) rfl cn)))) ?_
    refine gh [(1, _), (3, _), (41, _), (42, _), (43, _)] [(1001, some _)] hB rfl rfl (by rfl) ?_
    refine AWp.block ?_
    obtain ⟨x38, hx39, h⟩ := bindS h
    refine lg (exchangepointref41_Consistent_L0 a0) (fun s2 : Int × Int => ([(1, (.ptr 1001 0 [])), (3, (i6 s2.1)), (41, (qe_api_Line_3 a0.fLines)), (42, (i6 (a0.fLines.length : Int))), (43, (i6 s2.2))] : EL)) (fun s2 : Int × Int => ([(1001, some (.box 45 (.d (e_api_Invoice a0))))] : OL)) (fun (x : (Unit) ⊕ (Int)) e E' O' => match x with | (.inl _p) => e = .ret ∧ Mat B E' O' ([(2, (bo false))] : EL) ([] : OL) | (.inr p26) => e = .exit 0 ∧ Mat B E' O' ([(1, (.ptr 1001 0 [])), (3, (i6 p26))] : EL) ([(1001, some (.box 45 (.d (e_api_Invoice a0))))] : OL)) hx39 (mp [] _ _ hB) (fun s2 y h => ?_) (fun e E' O' hR => ?_)
    · unfold exchangepointref41_Consistent_L0 at h
      refine sr (c (OpJ.lss (L rfl) (q 43) (q 42)) rfl cn) ?_
      refine gh [(1, _), (3, _), (41, _), (42, _), (43, _), (44, _)] [(1001, some _)] hB rfl rfl (by rfl) ?_
      refine AWp.seq ?_
      refine AWp.cond rfl (fun hg27 => ?_) (fun hg27 => ?_)
      · replace h := ite_t hg27 h
        refine AWp.skip ?_
        refine seqQ_n ?_
        refine AWp.seq ?_
        refine AWp.block ?_
        obtain ⟨x28, hx28, h⟩ := bindS h
        refine sr (c (mv hN (q 43)) rfl (c (OpJ.indexD Try.underlying43 tyS51 (idx_some hx28).1 (get_map e_api_Line (idx_some hx28).2) (L rfl) (q 41) (q 43)) rfl (c (OpJ.loadD tyS51 (by rfl) (by rfl) (L rfl) (q 46)) rfl (cg (OpJ.alloc hB tyZ51 (nm := 1005) (by decide) (L rfl)) rfl (c (OpJ.assign (L rfl) (q 45)) rfl (cg (OpJ.storeB tyS51 (SetAt.here _ _) (by rfl) (by rfl) (by simp) rfl (q 5) (q 47)) rfl cn)))))) ?_
        refine gh [(1, _), (3, _), (4, _), (5, _), (41, _), (42, _), (43, _)] [(1001, some _), (1005, some _)] hB rfl rfl (by rfl) ?_
        refine AWp.seq ?_
        refine AWp.seq ?_
        refine AWp.cut h (fun m32 : Bool => ([(1, (.ptr 1001 0 [])), (3, (i6 s2.1)), (5, (.ptr 1005 0 [])), (41, (qe_api_Line_3 a0.fLines)), (42, (i6 (a0.fLines.length : Int))), (43, (i6 s2.2)), (91, (bo m32))] : EL)) (fun m32 : Bool => ([(1001, some (.box 45 (.d (e_api_Invoice a0)))), (1005, some (.box 51 (.d (e_api_Line x28))))] : OL)) (fun m32 h E' O' hmat => ?_) (fun j33 hjj33 h => ?_)
        · refine seqQ_n ?_
          refine AWp.ghost hmat ?_
          refine AWp.cond rfl (fun hg34 => ?_) (fun hg34 => ?_)
          · replace h := ite_t hg34 h
            refine sr (c (OpJ.assign (L rfl) (Opd.bool false)) rfl cn) ?_
            refine gh [(2, _)] [] hB rfl rfl (by rfl) ?_
            refine AWp.ret ?_
            refine seqQ_r ?_
            refine blkQ_r ?_
            refine seqQ_r ?_
            obtain rfl := Option.some.inj h
            exact ⟨(fun hc => by cases hc), rfl, (mp [] _ _ hB)⟩
          · replace h := ite_f hg34 h
            refine AWp.skip ?_
            refine seqQ_n ?_
            refine rg (c (mv hN (q 3)) rfl (c (ov (.ptr 1005 2 [2]) (fp hN Try.underlying51 2 tyS3 _ (q 5))) rfl (c (lb hN 51 _ _ tyS3 (ad _) (q 93)) rfl (c (add6 (L rfl) (q 92) (q 94)) rfl (c (OpJ.assign (L rfl) (q 95)) rfl cn))))) ?_
            refine blkQ_n ?_
            refine seqQ_n ?_
            refine gh [(1, _), (3, _), (41, _), (42, _), (43, _)] [(1001, some _)] hB rfl rfl (by rfl) ?_
            refine rg (c (add6 (L rfl) (q 43) (Opd.int .i64 (1))) rfl (c (mv hN (q 96)) rfl cn)) ?_
            obtain rfl := Option.some.inj h
            exact ⟨rfl, (Mat.trans (mp [] [(1, (.ptr 1001 0 [])), (3, (i6 (w64 (s2.1 + x28.fAmount)))), (41, (qe_api_Line_3 a0.fLines)), (42, (i6 (a0.fLines.length : Int))), (43, (i6 (w64 (s2.2 + (1 : Int)))))] [(1001, some (.box 45 (.d (e_api_Invoice a0))))] hB) (mp [] _ _ hB))⟩
        · rcases Bool.eq_false_or_eq_true ((decide (x28.fPort < (1 : Int))) || (decide ((999 : Int) < x28.fPort))) with hg35 | hg35
          · replace h := ite_t hg35 h
            refine dr (c (ov (.ptr 1005 0 [0]) (fp hN Try.underlying51 0 tyS3 _ (q 5))) rfl (c (lb hN 51 _ _ tyS3 (ad _) (q 48)) rfl (c (OpJ.lss (L rfl) (q 49) (Opd.int .i64 (1))) rfl (c (mv hN (q 50)) rfl (c (oq hN 51 (ov (.ptr 1005 0 [0]) (fp hN Try.underlying51 0 tyS3 _ (q 5))) (OptL.keep (by rfl) OptL.nil) (GuardV.plain _)) rfl (c (oq hN 51 (lb hN 51 _ _ tyS3 (ad _) (q 52)) (OptL.opt OptL.nil) (GuardV.plain _)) rfl (c (oq hN 51 (OpJ.gtr (L rfl) (q 53) (Opd.int .i64 (999))) (OptL.opt OptL.nil) (GuardV.plain _)) rfl (c (OpJ.pickOr rfl (L rfl) (q 51) (q 54)) rfl (c (OpJ.val (v' := .d (.bool true)) (by rw [hg35]) (mv hN (q 55))) rfl (cg (OpJ.skipU (g := 56) (L rfl) (by rfl)) rfl (cg (OpJ.skipU (g := 56) (L rfl) (by rfl)) rfl (cg (OpJ.skipU (g := 56) (L rfl) (by rfl)) rfl (cg (OpJ.skipV (g := 59) (L rfl) (by rfl)) rfl (cg (OpJ.skipV (g := 59) (L rfl) (by rfl)) rfl (cg (OpJ.skipV (g := 59) (L rfl) (by rfl)) rfl (cg (OpJ.skipV (g := 59) (L rfl) (by rfl)) rfl (cg (OpJ.skipV (g := 59) (L rfl) (by rfl)) rfl (cg (OpJ.skipV (g := 59) (L rfl) (by rfl)) rfl (cg (OpJ.skipV (g := 59) (L rfl) (by rfl)) rfl (cg (OpJ.skipV (g := 59) (L rfl) (by rfl)) rfl (cg (OpJ.skipV (g := 59) (L rfl) (by rfl)) rfl (cg (OpJ.skipV (g := 59) (L rfl) (by rfl)) rfl (cg (OpJ.skipU (g := 56) (L rfl) (by rfl)) rfl (c (OpJ.pickT (L rfl) (q 56) (Opd.bool true)) rfl (c (mv hN (q 71)) rfl (cg (OpJ.skipU (g := 72) (L rfl) (by rfl)) rfl (cg (OpJ.skipU (g := 72) (L rfl) (by rfl)) rfl (cg (OpJ.skipU (g := 72) (L rfl) (by rfl)) rfl (c (OpJ.pickT (L rfl) (q 72) (Opd.bool true)) rfl (c (mv hN (q 76)) rfl (cg (OpJ.skipU (g := 77) (L rfl) (by rfl)) rfl (cg (OpJ.skipU (g := 77) (L rfl) (by rfl)) rfl (cg (OpJ.skipU (g := 77) (L rfl) (by rfl)) rfl (c (OpJ.pickT (L rfl) (q 77) (Opd.bool true)) rfl (c (mv hN (q 81)) rfl (cg (OpJ.skipU (g := 82) (L rfl) (by rfl)) rfl (cg (OpJ.skipU (g := 82) (L rfl) (by rfl)) rfl (cg (OpJ.skipU (g := 82) (L rfl) (by rfl)) rfl (c (OpJ.pickT (L rfl) (q 82) (Opd.bool true)) rfl (c (mv hN (q 86)) rfl (cg (OpJ.skipU (g := 87) (L rfl) (by rfl)) rfl (cg (OpJ.skipU (g := 87) (L rfl) (by rfl)) rfl (cg (OpJ.skipU (g := 87) (L rfl) (by rfl)) rfl (c (OpJ.pickT (L rfl) (q 87) (Opd.bool true)) rfl cn)))))))))))))))))))))))))))))))))))))))))))) (by kernel_rfl) (by kernel_rfl) ?_
            exact hjj33 _ h _ _ (Mat.trans (mp [] [(1, (.ptr 1001 0 [])), (3, (i6 s2.1)), (5, (.ptr 1005 0 [])), (41, (qe_api_Line_3 a0.fLines)), (42, (i6 (a0.fLines.length : Int))), (43, (i6 s2.2)), (91, (bo true))] [(1001, some (.box 45 (.d (e_api_Invoice a0)))), (1005, some (.box 51 (.d (e_api_Line x28))))] hB) (mp [] _ _ hB))
          · replace h := ite_f hg35 h
            rcases Bool.eq_false_or_eq_true (decide ((0 : Int) < s2.2)) with hg36 | hg36
            · replace h := ite_t hg36 h
              obtain ⟨x37, hx37, h⟩ := bindS h
              refine dr (c (ov (.ptr 1005 0 [0]) (fp hN Try.underlying51 0 tyS3 _ (q 5))) rfl (c (lb hN 51 _ _ tyS3 (ad _) (q 48)) rfl (c (OpJ.lss (L rfl) (q 49) (Opd.int .i64 (1))) rfl (c (mv hN (q 50)) rfl (c (oq hN 51 (ov (.ptr 1005 0 [0]) (fp hN Try.underlying51 0 tyS3 _ (q 5))) (OptL.keep (by rfl) OptL.nil) (GuardV.plain _)) rfl (c (oq hN 51 (lb hN 51 _ _ tyS3 (ad _) (q 52)) (OptL.opt OptL.nil) (GuardV.plain _)) rfl (c (oq hN 51 (OpJ.gtr (L rfl) (q 53) (Opd.int .i64 (999))) (OptL.opt OptL.nil) (GuardV.plain _)) rfl (c (OpJ.pickOr rfl (L rfl) (q 51) (q 54)) rfl (c (OpJ.val (v' := .d (.bool false)) (by rw [hg35]) (mv hN (q 55))) rfl (c (OpJ.guarded (g := 56) (by rfl) (mv hN (q 4))) rfl (c (OpJ.guarded (g := 56) (by rfl) (OpJ.gtr (L rfl) (q 57) (Opd.int .i64 (0)))) rfl (c (OpJ.guarded (g := 56) (by rfl) (OpJ.val (v' := .d (.bool true)) (by rw [hg36]) (mv hN (q 58)))) rfl (c (OpJ.guarded (g := 59) (by rfl) (ov (.ptr 1001 3 [3]) (fp hN Try.underlying45 3 tyS43 _ (q 1)))) rfl (c (OpJ.guarded (g := 59) (by rfl) (lb hN 45 _ _ tyS43 (ad _) (q 60))) rfl (c (OpJ.guarded (g := 59) (by rfl) (mv hN (q 4))) rfl (c (OpJ.guarded (g := 59) (by rfl) (sub6 (L rfl) (q 62) (Opd.int .i64 (1)))) rfl (c (OpJ.guarded (g := 59) (by rfl) (OpJ.indexD Try.underlying43 tyS51 (idx_some hx37).1 (get_map e_api_Line (idx_some hx37).2) (L rfl) (q 61) (q 63))) rfl (c (OpJ.guarded (g := 59) (by rfl) (OpJ.fieldD Try.underlying51 (by rfl) (o := 0) (by rfl) tyS3 (by decide) (by rfl) (by rfl) (L rfl) (q 64))) rfl (c (OpJ.guarded (g := 59) (by rfl) (OpJ.loadD tyS3 (by rfl) (by rfl) (L rfl) (q 65))) rfl (c (OpJ.guarded (g := 59) (by rfl) (ov (.ptr 1005 0 [0]) (fp hN Try.underlying51 0 tyS3 _ (q 5)))) rfl (c (OpJ.guarded (g := 59) (by rfl) (lb hN 51 _ _ tyS3 (ad _) (q 67))) rfl (c (OpJ.guarded (g := 59) (by rfl) (OpJ.geq (L rfl) (q 66) (q 68))) rfl (c (OpJ.guarded (g := 56) (by rfl) (OpJ.pickT (L rfl) (q 59) (q 69))) rfl (c (OpJ.pickF (L rfl) (q 56) (q 70)) rfl (c (mv hN (q 71)) rfl (c (oq hN 72 (ov (.ptr 1005 1 [1]) (fp hN Try.underlying51 1 tyS3 _ (q 5))) (OptL.keep (by rfl) OptL.nil) (GuardV.plain _)) rfl (c (oq hN 72 (lb hN 51 _ _ tyS3 (ad _) (q 73)) (OptL.opt OptL.nil) (GuardV.plain _)) rfl (c (oq hN 72 (OpJ.lss (L rfl) (q 74) (Opd.int .i64 (-1125899906842624))) (OptL.opt OptL.nil) (GuardV.plain _)) rfl (c (OpJ.pickOr rfl (L rfl) (q 72) (q 75)) rfl (c (mv hN (q 76)) rfl (c (oq hN 77 (ov (.ptr 1005 1 [1]) (fp hN Try.underlying51 1 tyS3 _ (q 5))) (OptL.keep (by rfl) OptL.nil) (GuardV.plain _)) rfl (c (oq hN 77 (lb hN 51 _ _ tyS3 (ad _) (q 78)) (OptL.opt OptL.nil) (GuardV.plain _)) rfl (c (oq hN 77 (OpJ.gtr (L rfl) (q 79) (Opd.int .i64 (1125899906842624))) (OptL.opt OptL.nil) (GuardV.plain _)) rfl (c (OpJ.pickOr rfl (L rfl) (q 77) (q 80)) rfl (c (mv hN (q 81)) rfl (c (oq hN 82 (ov (.ptr 1005 2 [2]) (fp hN Try.underlying51 2 tyS3 _ (q 5))) (OptL.keep (by rfl) OptL.nil) (GuardV.plain _)) rfl (c (oq hN 82 (lb hN 51 _ _ tyS3 (ad _) (q 83)) (OptL.opt OptL.nil) (GuardV.plain _)) rfl (c (oq hN 82 (OpJ.lss (L rfl) (q 84) (Opd.int .i64 (-1125899906842624))) (OptL.opt OptL.nil) (GuardV.plain _)) rfl (c (OpJ.pickOr rfl (L rfl) (q 82) (q 85)) rfl (c (mv hN (q 86)) rfl (c (oq hN 87 (ov (.ptr 1005 2 [2]) (fp hN Try.underlying51 2 tyS3 _ (q 5))) (OptL.keep (by rfl) OptL.nil) (GuardV.plain _)) rfl (c (oq hN 87 (lb hN 51 _ _ tyS3 (ad _) (q 88)) (OptL.opt OptL.nil) (GuardV.plain _)) rfl (c (oq hN 87 (OpJ.gtr (L rfl) (q 89) (Opd.int .i64 (1125899906842624))) (OptL.opt OptL.nil) (GuardV.plain _)) rfl (c (OpJ.pickOr rfl (L rfl) (q 87) (q 90)) rfl cn)))))))))))))))))))))))))))))))))))))))))))) (by kernel_rfl) (by kernel_rfl) ?_
              exact hjj33 _ h _ _ (Mat.trans (mp [] [(1, (.ptr 1001 0 [])), (3, (i6 s2.1)), (5, (.ptr 1005 0 [])), (41, (qe_api_Line_3 a0.fLines)), (42, (i6 (a0.fLines.length : Int))), (43, (i6 s2.2)), (91, (bo (((((decide (x28.fPort ≤ x37.fPort)) || (decide (x28.fUsed < (-1125899906842624 : Int)))) || (decide ((1125899906842624 : Int) < x28.fUsed))) || (decide (x28.fAmount < (-1125899906842624 : Int)))) || (decide ((1125899906842624 : Int) < x28.fAmount)))))] [(1001, some (.box 45 (.d (e_api_Invoice a0)))), (1005, some (.box 51 (.d (e_api_Line x28))))] hB) (mp [] _ _ hB))
            · replace h := ite_f hg36 h
              refine dr (c (ov (.ptr 1005 0 [0]) (fp hN Try.underlying51 0 tyS3 _ (q 5))) rfl (c (lb hN 51 _ _ tyS3 (ad _) (q 48)) rfl (c (OpJ.lss (L rfl) (q 49) (Opd.int .i64 (1))) rfl (c (mv hN (q 50)) rfl (c (oq hN 51 (ov (.ptr 1005 0 [0]) (fp hN Try.underlying51 0 tyS3 _ (q 5))) (OptL.keep (by rfl) OptL.nil) (GuardV.plain _)) rfl (c (oq hN 51 (lb hN 51 _ _ tyS3 (ad _) (q 52)) (OptL.opt OptL.nil) (GuardV.plain _)) rfl (c (oq hN 51 (OpJ.gtr (L rfl) (q 53) (Opd.int .i64 (999))) (OptL.opt OptL.nil) (GuardV.plain _)) rfl (c (OpJ.pickOr rfl (L rfl) (q 51) (q 54)) rfl (c (OpJ.val (v' := .d (.bool false)) (by rw [hg35]) (mv hN (q 55))) rfl (c (OpJ.guarded (g := 56) (by rfl) (mv hN (q 4))) rfl (c (OpJ.guarded (g := 56) (by rfl) (OpJ.gtr (L rfl) (q 57) (Opd.int .i64 (0)))) rfl (c (OpJ.guarded (g := 56) (by rfl) (OpJ.val (v' := .d (.bool false)) (by rw [hg36]) (mv hN (q 58)))) rfl (cg (OpJ.skipU (g := 59) (L rfl) (by rfl)) rfl (cg (OpJ.skipU (g := 59) (L rfl) (by rfl)) rfl (cg (OpJ.skipU (g := 59) (L rfl) (by rfl)) rfl (cg (OpJ.skipU (g := 59) (L rfl) (by rfl)) rfl (cg (OpJ.skipU (g := 59) (L rfl) (by rfl)) rfl (cg (OpJ.skipU (g := 59) (L rfl) (by rfl)) rfl (cg (OpJ.skipU (g := 59) (L rfl) (by rfl)) rfl (cg (OpJ.skipU (g := 59) (L rfl) (by rfl)) rfl (cg (OpJ.skipU (g := 59) (L rfl) (by rfl)) rfl (cg (OpJ.skipU (g := 59) (L rfl) (by rfl)) rfl (c (OpJ.guarded (g := 56) (by rfl) (OpJ.pickF (L rfl) (q 59) (Opd.bool false))) rfl (c (OpJ.pickF (L rfl) (q 56) (q 70)) rfl (c (mv hN (q 71)) rfl (c (OpJ.guarded (g := 72) (by rfl) (ov (.ptr 1005 1 [1]) (fp hN Try.underlying51 1 tyS3 _ (q 5)))) rfl (c (OpJ.guarded (g := 72) (by rfl) (lb hN 51 _ _ tyS3 (ad _) (q 73))) rfl (c (OpJ.guarded (g := 72) (by rfl) (OpJ.lss (L rfl) (q 74) (Opd.int .i64 (-1125899906842624)))) rfl (c (OpJ.pickF (L rfl) (q 72) (q 75)) rfl (c (mv hN (q 76)) rfl (c (oq hN 77 (ov (.ptr 1005 1 [1]) (fp hN Try.underlying51 1 tyS3 _ (q 5))) (OptL.keep (by rfl) OptL.nil) (GuardV.plain _)) rfl (c (oq hN 77 (lb hN 51 _ _ tyS3 (ad _) (q 78)) (OptL.opt OptL.nil) (GuardV.plain _)) rfl (c (oq hN 77 (OpJ.gtr (L rfl) (q 79) (Opd.int .i64 (1125899906842624))) (OptL.opt OptL.nil) (GuardV.plain _)) rfl (c (OpJ.pickOr rfl (L rfl) (q 77) (q 80)) rfl (c (mv hN (q 81)) rfl (c (oq hN 82 (ov (.ptr 1005 2 [2]) (fp hN Try.underlying51 2 tyS3 _ (q 5))) (OptL.keep (by rfl) OptL.nil) (GuardV.plain _)) rfl (c (oq hN 82 (lb hN 51 _ _ tyS3 (ad _) (q 83)) (OptL.opt OptL.nil) (GuardV.plain _)) rfl (c (oq hN 82 (OpJ.lss (L rfl) (q 84) (Opd.int .i64 (-1125899906842624))) (OptL.opt OptL.nil) (GuardV.plain _)) rfl (c (OpJ.pickOr rfl (L rfl) (q 82) (q 85)) rfl (c (mv hN (q 86)) rfl (c (oq hN 87 (ov (.ptr 1005 2 [2]) (fp hN Try.underlying51 2 tyS3 _ (q 5))) (OptL.keep (by rfl) OptL.nil) (GuardV.plain _)) rfl (c (oq hN 87 (lb hN 51 _ _ tyS3 (ad _) (q 88)) (OptL.opt OptL.nil) (GuardV.plain _)) rfl (c (oq hN 87 (OpJ.gtr (L rfl) (q 89) (Opd.int .i64 (1125899906842624))) (OptL.opt OptL.nil) (GuardV.plain _)) rfl (c (OpJ.pickOr rfl (L rfl) (q 87) (q 90)) rfl cn)))))))))))))))))))))))))))))))))))))))))))) (by kernel_rfl) (by kernel_rfl) ?_
              exact hjj33 _ h _ _ (Mat.trans (mp [] [(1, (.ptr 1001 0 [])), (3, (i6 s2.1)), (5, (.ptr 1005 0 [])), (41, (qe_api_Line_3 a0.fLines)), (42, (i6 (a0.fLines.length : Int))), (43, (i6 s2.2)), (91, (bo ((((decide (x28.fUsed < (-1125899906842624 : Int))) || (decide ((1125899906842624 : Int) < x28.fUsed))) || (decide (x28.fAmount < (-1125899906842624 : Int)))) || (decide ((1125899906842624 : Int) < x28.fAmount)))))] [(1001, some (.box 45 (.d (e_api_Invoice a0)))), (1005, some (.box 51 (.d (e_api_Line x28))))] hB) (mp [] _ _ hB))
      · replace h := ite_f hg27 h
        refine AWp.exit ?_
        refine seqQ_e ?_
        obtain rfl := Option.some.inj h
        exact ⟨(fun hc => by cases hc), rfl, (mp [] _ _ hB)⟩
    · rcases x38 with _ | p26
      · obtain ⟨rfl, hmat⟩ := hR
        refine blkQ_r ?_
        refine seqQ_r ?_
        obtain rfl := Option.some.inj h
        exact ⟨.inl rfl, _, _, (Mat.trans hmat (mp [] [(2, (bo false))] [] hB)), [(bo false)], (Res.tmp (by rfl) (by rfl) Res.nil), rfl, by rfl, by rfl, by rfl⟩
      · obtain ⟨rfl, hmat⟩ := hR
        refine blkQ_hit ?_
        refine seqQ_n ?_
        refine AWp.ghost hmat ?_
        refine sr (c (mv hN (q 3)) rfl (c (ov (.ptr 1001 4 [4]) (fp hN Try.underlying45 4 tyS3 _ (q 1))) rfl (c (lb hN 45 _ _ tyS3 (ad _) (q 98)) rfl (c (OpJ.eqlI (L rfl) (q 97) (q 99)) rfl (c (OpJ.assign (L rfl) (q 100)) rfl cn))))) ?_
        refine gh [(2, _)] [] hB rfl rfl (by rfl) ?_
        refine AWp.ret ?_
        obtain rfl := Option.some.inj h
        exact ⟨.inl rfl, _, _, (kp [(2, _)] [] hB rfl rfl (by rfl)), [(bo (p26 == a0.fTotal))], (Res.tmp (by rfl) (by rfl) Res.nil), rfl, by rfl, by rfl, by rfl⟩

noncomputable def exchangepointref41_add_L0 (a0 : (List api_Line)) (a1 : api_Line) (s1 : Int) : Option (((Int)) ⊕ (Int)) :=
  jn (fun m19 : Bool =>
  (if m19 = true then
  some (.inr (w64 (s1 + (1 : Int))))
  else
  some (.inl s1))) (fun j20 =>
  (if (decide (s1 < (a0.length : Int))) = true then
  (idx a0 s1).bind fun x23 =>
  j20 (decide (x23.fPort < a1.fPort))
  else
  j20 false))
noncomputable def exchangepointref41_add (a0 : (List api_Line)) (a1 : api_Line) (a2 : Int) : Option ((List api_Line)) :=
  (loop (exchangepointref41_add_L0 a0 a1) (0 : Int)).bind fun p16 =>
  chk ((decide (0 ≤ p16) && decide (0 ≤ p16.toNat) && decide (p16.toNat ≤ a0.length))) <|
  chk (decide (((a0.take p16.toNat).drop 0).length ≤ LIM)) <|
  jn (fun m30 : Bool =>
  jn (fun m35 : Int × Int × Int =>
  chk (decide ((((a0.take p16.toNat).drop 0) ++ ([(api_Line.mk a1.fPort m35.2.1 m35.2.2)] : List api_Line)).length ≤ LIM)) <|
  chk ((decide (0 ≤ m35.1) && decide (m35.1.toNat ≤ a0.length) && decide (a0.length ≤ a0.length))) <|
  chk (decide (((((a0.take p16.toNat).drop 0) ++ ([(api_Line.mk a1.fPort m35.2.1 m35.2.2)] : List api_Line)) ++ ((a0.take a0.length).drop m35.1.toNat)).length ≤ LIM)) <|
  some ((((a0.take p16.toNat).drop 0) ++ ([(api_Line.mk a1.fPort m35.2.1 m35.2.2)] : List api_Line)) ++ ((a0.take a0.length).drop m35.1.toNat))) (fun j36 =>
  (if m30 = true then
  (idx a0 p16).bind fun x41 =>
  (idx a0 p16).bind fun x42 =>
  j36 ((w64 (p16 + (1 : Int))), (w64 ((w64 (a2 * a1.fUsed)) + x41.fUsed)), (w64 ((w64 (a2 * a1.fAmount)) + x42.fAmount)))
  else
  j36 (p16, (w64 (a2 * a1.fUsed)), (w64 (a2 * a1.fAmount)))))) (fun j31 =>
  (if (decide (p16 < (a0.length : Int))) = true then
  (idx a0 p16).bind fun x44 =>
  j31 (x44.fPort == a1.fPort)
  else
  j31 false))
set_option maxHeartbeats 4000000 in
set_option maxRecDepth 100000 in
theorem exchangepointref41_add_ac (a0 : (List api_Line)) (a1 : api_Line) (a2 : Int) (r : (List api_Line)) (h : exchangepointref41_add a0 a1 a2 = some r) : AC Try.prog 40 [(.d (.list 3 (a0.map e_api_Line))), (.d (e_api_Line a1)), (.d (.int .i64 a2))] [] (.d (.list 3 (r.map e_api_Line))) [] := by
  refine AC.of_code2 Try.func40 rfl rfl (Nat.le_of_ble_eq_true (by rfl)) fun B hB hN => ?_
  have L {d : Nat} (h : Nat.blt d Try.f40.ntmps = true) : d < B.N := ltN hN h
  delta exchangepointref41_add at h
  refine sr (cg (OpJ.box hB (nm := 1004) (by decide) (by simp) rfl (L rfl) (q 1)) rfl (c (OpJ.assign (L rfl) Opd.nils) rfl cn)) ?_
  refine gh [(0, _), (2, _), (4, _)] [(1004, some _)] hB rfl rfl (by rfl) ?_
  refine sr (c (OpJ.assign (L rfl) (Opd.int .i64 (0))) rfl cn) ?_
  refine gh [(0, _), (2, _), (4, _), (7, _)] [(1004, some _)] hB rfl rfl (by rfl) ?_
  refine AWp.seq ?_
  refine AWp.block ?_
  obtain ⟨p16, hx25, h⟩ := bindS h
  refine lg (exchangepointref41_add_L0 a0 a1) (fun s1 : Int => ([(0, (qe_api_Line_3 a0)), (2, (i6 a2)), (4, (.ptr 1004 0 [])), (7, (i6 s1))] : EL)) (fun s1 : Int => ([(1004, some (.box 51 (.d (e_api_Line a1))))] : OL)) (fun (p16 : (Int)) e E' O' => e = .exit 0 ∧ Mat B E' O' ([(0, (qe_api_Line_3 a0)), (2, (i6 a2)), (4, (.ptr 1004 0 [])), (7, (i6 p16))] : EL) ([(1004, some (.box 51 (.d (e_api_Line a1))))] : OL)) hx25 (mp [] _ _ hB) (fun s1 y h => ?_) (fun e E' O' hR => ?_)
  · unfold exchangepointref41_add_L0 at h
    refine AWp.seq ?_
    refine AWp.seq ?_
    refine AWp.cut h (fun m19 : Bool => ([(0, (qe_api_Line_3 a0)), (2, (i6 a2)), (4, (.ptr 1004 0 [])), (7, (i6 s1)), (23, (bo m19))] : EL)) (fun m19 : Bool => ([(1004, some (.box 51 (.d (e_api_Line a1))))] : OL)) (fun m19 h E' O' hmat => ?_) (fun j20 hjj20 h => ?_)
    · refine seqQ_n ?_
      refine AWp.ghost hmat ?_
      refine AWp.cond rfl (fun hg21 => ?_) (fun hg21 => ?_)
      · replace h := ite_t hg21 h
        refine AWp.skip ?_
        refine seqQ_n ?_
        refine AWp.block ?_
        refine rg (c (mv hN (q 7)) rfl (c (add6 (L rfl) (q 24) (Opd.int .i64 (1))) rfl (c (OpJ.assign (L rfl) (q 25)) rfl cn))) ?_
        refine blkQ_n ?_
        obtain rfl := Option.some.inj h
        exact ⟨rfl, (Mat.trans (mp [] [(0, (qe_api_Line_3 a0)), (2, (i6 a2)), (4, (.ptr 1004 0 [])), (7, (i6 (w64 (s1 + (1 : Int)))))] [(1004, some (.box 51 (.d (e_api_Line a1))))] hB) (mp [] _ _ hB))⟩
      · replace h := ite_f hg21 h
        refine AWp.exit ?_
        refine seqQ_e ?_
        obtain rfl := Option.some.inj h
        exact ⟨(fun hc => by cases hc), rfl, (mp [] _ _ hB)⟩
    · rcases Bool.eq_false_or_eq_true (decide (s1 < (a0.length : Int))) with hg22 | hg22
      · replace h := ite_t hg22 h
        obtain ⟨x23, hx23, h⟩ := bindS h
        refine dr (c (mv hN (q 7)) rfl (c (mv hN (q 0)) rfl (c (OpJ.val (v' := (i6 (a0.length : Int))) (by simp) (OpJ.lenD Try.underlying43 (L rfl) (q 11))) rfl (c (OpJ.lss (L rfl) (q 10) (q 12)) rfl (c (OpJ.val (v' := .d (.bool true)) (by rw [hg22]) (mv hN (q 13))) rfl (c (OpJ.guarded (g := 14) (by rfl) (mv hN (q 0))) rfl (c (OpJ.guarded (g := 14) (by rfl) (mv hN (q 7))) rfl (c (OpJ.guarded (g := 14) (by rfl) (OpJ.indexD Try.underlying43 tyS51 (idx_some hx23).1 (get_map e_api_Line (idx_some hx23).2) (L rfl) (q 15) (q 16))) rfl (c (OpJ.guarded (g := 14) (by rfl) (OpJ.fieldD Try.underlying51 (by rfl) (o := 0) (by rfl) tyS3 (by decide) (by rfl) (by rfl) (L rfl) (q 17))) rfl (c (OpJ.guarded (g := 14) (by rfl) (OpJ.loadD tyS3 (by rfl) (by rfl) (L rfl) (q 18))) rfl (c (OpJ.guarded (g := 14) (by rfl) (ov (.ptr 1004 0 [0]) (fp hN Try.underlying51 0 tyS3 _ (q 4)))) rfl (c (OpJ.guarded (g := 14) (by rfl) (lb hN 51 _ _ tyS3 (ad _) (q 20))) rfl (c (OpJ.guarded (g := 14) (by rfl) (OpJ.lss (L rfl) (q 19) (q 21))) rfl (c (OpJ.pickT (L rfl) (q 14) (q 22)) rfl cn)))))))))))))) (by kernel_rfl) (by kernel_rfl) ?_
        exact hjj20 _ h _ _ (Mat.trans (mp [] [(0, (qe_api_Line_3 a0)), (2, (i6 a2)), (4, (.ptr 1004 0 [])), (7, (i6 s1)), (23, (bo (decide (x23.fPort < a1.fPort))))] [(1004, some (.box 51 (.d (e_api_Line a1))))] hB) (mp [] _ _ hB))
      · replace h := ite_f hg22 h
        refine dr (c (mv hN (q 7)) rfl (c (mv hN (q 0)) rfl (c (OpJ.val (v' := (i6 (a0.length : Int))) (by simp) (OpJ.lenD Try.underlying43 (L rfl) (q 11))) rfl (c (OpJ.lss (L rfl) (q 10) (q 12)) rfl (c (OpJ.val (v' := .d (.bool false)) (by rw [hg22]) (mv hN (q 13))) rfl (cg (OpJ.skipU (g := 14) (L rfl) (by rfl)) rfl (cg (OpJ.skipU (g := 14) (L rfl) (by rfl)) rfl (cg (OpJ.skipU (g := 14) (L rfl) (by rfl)) rfl (cg (OpJ.skipU (g := 14) (L rfl) (by rfl)) rfl (cg (OpJ.skipU (g := 14) (L rfl) (by rfl)) rfl (cg (OpJ.skipU (g := 14) (L rfl) (by rfl)) rfl (cg (OpJ.skipU (g := 14) (L rfl) (by rfl)) rfl (cg (OpJ.skipU (g := 14) (L rfl) (by rfl)) rfl (c (OpJ.pickF (L rfl) (q 14) (Opd.bool false)) rfl cn)))))))))))))) (by kernel_rfl) (by kernel_rfl) ?_
        exact hjj20 _ h _ _ (Mat.trans (mp [] [(0, (qe_api_Line_3 a0)), (2, (i6 a2)), (4, (.ptr 1004 0 [])), (7, (i6 s1)), (23, (bo false))] [(1004, some (.box 51 (.d (e_api_Line a1))))] hB) (mp [] _ _ hB))
  · obtain ⟨rfl, hmat⟩ := hR
    refine blkQ_hit ?_
    refine seqQ_n ?_
    refine AWp.ghost hmat ?_
    obtain ⟨hc26, h⟩ := chk_some h
    obtain ⟨hc27, h⟩ := chk_some h
    refine sr (c (mv hN (q 0)) rfl (c (mv hN (q 7)) rfl (c (OpJ.cutD Try.underlying43 tyS51 (es' := ((a0.take p16.toNat).drop 0).map e_api_Line) (l := 0) (h := p16.toNat) (.inl ⟨rfl, rfl, rfl⟩) (.inr ⟨_, _, _, rfl, (ot 27 (i6 p16)), (of_decide_eq_true (and_l2 (and_l2 hc26))), rfl⟩) (of_decide_eq_true (and_r2 (and_l2 hc26))) (by first | (simp; done) | simpa using (of_decide_eq_true (and_r2 hc26))) (by first | rw [List.map_drop, List.map_take] | simp [List.map_take, List.map_drop]) (L rfl) (q 26)) rfl (cg (OpJ.appendN hB Try.underlying43 tyE51 (nm := 1029) (by decide) (ys := ((a0.take p16.toNat).drop 0).map e_api_Line) (len := ((a0.take p16.toNat).drop 0).length) (by simp) (map_sz (f := e_api_Line) (fun _ => rfl)) (by rw [List.length_map]; exact lim_mulN hc27 (by decide)) (by rw [List.length_map]; exact lim_leN hc27) (L rfl) Opd.nils (q 28)) rfl (c (OpJ.assign (L rfl) (q 29)) rfl cn))))) ?_
    refine gh [(0, _), (2, _), (4, _), (7, _), (8, _)] [(1004, some _), (1029, some _)] hB rfl rfl (by rfl) ?_
    refine sr (c (ov (.ptr 1004 0 [0]) (fp hN Try.underlying51 0 tyS3 _ (q 4))) rfl (c (lb hN 51 _ _ tyS3 (ad _) (q 30)) rfl (c (mv hN (q 2)) rfl (c (ov (.ptr 1004 1 [1]) (fp hN Try.underlying51 1 tyS3 _ (q 4))) rfl (c (lb hN 51 _ _ tyS3 (ad _) (q 33)) rfl (c (mul6 (L rfl) (q 32) (q 34)) rfl (c (mv hN (q 2)) rfl (c (ov (.ptr 1004 2 [2]) (fp hN Try.underlying51 2 tyS3 _ (q 4))) rfl (c (lb hN 51 _ _ tyS3 (ad _) (q 37)) rfl (c (mul6 (L rfl) (q 36) (q 38)) rfl (c (OpJ.coe (v := (.st [(i6 a1.fPort), (i6 (w64 (a2 * a1.fUsed))), (i6 (w64 (a2 * a1.fAmount)))])) (y := (.st [(.int .i64 a1.fPort), (.int .i64 (w64 (a2 * a1.fUsed))), (.int .i64 (w64 (a2 * a1.fAmount)))])) (Co.st (CoL.cons (Co.d _) (CoL.cons (Co.d _) (CoL.cons (Co.d _) CoL.nil)))) rfl (OpJ.build (places := [(0, 1), (1, 1), (2, 1)]) ⟨Try.underlying51, fun w => by kernel_rfl⟩ tyZS51 (Opds.cons (q 31) (Opds.cons (q 35) (Opds.cons (q 39) Opds.nil))) (by kernel_rfl) (r := (.st [(i6 a1.fPort), (i6 (w64 (a2 * a1.fUsed))), (i6 (w64 (a2 * a1.fAmount)))])) (by rfl) (L rfl))) rfl (cg (OpJ.alloc hB tyZ51 (nm := 1009) (by decide) (L rfl)) rfl (cg (OpJ.storeB tyS51 (SetAt.here _ _) (by rfl) (by rfl) (by simp) rfl (q 9) (q 40)) rfl cn))))))))))))) ?_
    refine gh [(0, _), (4, _), (7, _), (8, _), (9, _)] [(1004, some _), (1009, some _), (1029, some _)] hB rfl rfl (by rfl) ?_
    refine AWp.seq ?_
    refine AWp.seq ?_
    refine AWp.cut h (fun m30 : Bool => ([(0, (qe_api_Line_3 a0)), (7, (i6 p16)), (8, (.sref 1029 3 0 (((a0.take p16.toNat).drop 0).length))), (9, (.ptr 1009 0 [])), (54, (bo m30))] : EL)) (fun m30 : Bool => ([(1009, some (.box 51 (.d (.st [(.int .i64 a1.fPort), (.int .i64 (w64 (a2 * a1.fUsed))), (.int .i64 (w64 (a2 * a1.fAmount)))])))), (1029, some (we_api_Line_51_3 ((a0.take p16.toNat).drop 0)))] : OL)) (fun m30 h E' O' hmat => ?_) (fun j31 hjj31 h => ?_)
    · refine seqQ_n ?_
      refine AWp.ghost hmat ?_
      refine AWp.cut h (fun m35 : Int × Int × Int => ([(0, (qe_api_Line_3 a0)), (7, (i6 m35.1)), (8, (.sref 1029 3 0 (((a0.take p16.toNat).drop 0).length))), (9, (.ptr 1009 0 []))] : EL)) (fun m35 : Int × Int × Int => ([(1009, some (.box 51 (.d (.st [(.int .i64 a1.fPort), (.int .i64 m35.2.1), (.int .i64 m35.2.2)])))), (1029, some (we_api_Line_51_3 ((a0.take p16.toNat).drop 0)))] : OL)) (fun m35 h E' O' hmat => ?_) (fun j36 hjj36 h => ?_)
      · refine seqQ_n ?_
        refine AWp.ghost hmat ?_
        obtain ⟨hc37, h⟩ := chk_some h
        obtain ⟨hc38, h⟩ := chk_some h
        obtain ⟨hc39, h⟩ := chk_some h
        refine sd (c (mv hN (q 8)) rfl (c (lb hN 51 _ _ tyS51 (At.here _) (q 9)) rfl (c (OpJ.buildSlice Try.underlying43 tyS51 tyZD51 (by rfl) (by decide) (by decide) (Opds.cons (q 76) Opds.nil) (by kernel_rfl) (es := ([(.st [(.int .i64 a1.fPort), (.int .i64 m35.2.1), (.int .i64 m35.2.2)])] : List D)) (by rfl) (by rfl) (by kernel_rfl) (by simp) (L rfl)) rfl (cg (OpJ.append hB Try.underlying43 tyE51 (nm := 1078) (by decide) (es := ((a0.take p16.toNat).drop 0).map e_api_Line) (ys := ([(api_Line.mk a1.fPort m35.2.1 m35.2.2)] : List api_Line).map e_api_Line) (es' := (((a0.take p16.toNat).drop 0) ++ ([(api_Line.mk a1.fPort m35.2.1 m35.2.2)] : List api_Line)).map e_api_Line) (len := (((a0.take p16.toNat).drop 0) ++ ([(api_Line.mk a1.fPort m35.2.1 m35.2.2)] : List api_Line)).length) (by simp) (by simp) (map_sz (f := e_api_Line) (fun _ => rfl)) (by rw [List.length_map]; exact lim_mulN hc37 (by decide)) (by rw [List.length_map]; exact lim_leN hc37) (L rfl) (by simp) (q 75) (q 77)) rfl (c (mv hN (q 0)) rfl (c (mv hN (q 7)) rfl (c (OpJ.cutD Try.underlying43 tyS51 (es' := ((a0.take a0.length).drop m35.1.toNat).map e_api_Line) (l := m35.1.toNat) (h := a0.length) (.inr ⟨_, _, _, rfl, (ot 80 (i6 m35.1)), (of_decide_eq_true (and_l2 (and_l2 hc38))), rfl⟩) (.inl ⟨rfl, by simp, rfl⟩) (of_decide_eq_true (and_r2 (and_l2 hc38))) (by first | (simp; done) | simpa using (of_decide_eq_true (and_r2 hc38))) (by first | rw [List.map_drop, List.map_take] | simp [List.map_take, List.map_drop]) (L rfl) (q 79)) rfl (cg (OpJ.append hB Try.underlying43 tyE51 (nm := 1082) (by decide) (es := (((a0.take p16.toNat).drop 0) ++ ([(api_Line.mk a1.fPort m35.2.1 m35.2.2)] : List api_Line)).map e_api_Line) (ys := ((a0.take a0.length).drop m35.1.toNat).map e_api_Line) (es' := ((((a0.take p16.toNat).drop 0) ++ ([(api_Line.mk a1.fPort m35.2.1 m35.2.2)] : List api_Line)) ++ ((a0.take a0.length).drop m35.1.toNat)).map e_api_Line) (len := ((((a0.take p16.toNat).drop 0) ++ ([(api_Line.mk a1.fPort m35.2.1 m35.2.2)] : List api_Line)) ++ ((a0.take a0.length).drop m35.1.toNat)).length) (by simp) (by simp) (map_sz (f := e_api_Line) (fun _ => rfl)) (by rw [List.length_map]; exact lim_mulN hc39 (by decide)) (by rw [List.length_map]; exact lim_leN hc39) (L rfl) (by simp) (q 78) (q 81)) rfl (c (OpJ.assign (L rfl) (q 82)) rfl cn))))))))) (by kernel_rfl) (by kernel_rfl) ?_
        refine gh [(6, _)] [(1082, some _)] hB rfl rfl (by rfl) ?_
        refine AWp.ret ?_
        obtain rfl := Option.some.inj h
        exact ⟨.inl rfl, _, _, (Mat.trans (Mat.freezeP (n := 1082) (e := 51) (sz := 3) (es := ((((a0.take p16.toNat).drop 0) ++ ([(api_Line.mk a1.fPort m35.2.1 m35.2.2)] : List api_Line)) ++ ((a0.take a0.length).drop m35.1.toNat)).map e_api_Line) (Ts := [(6, (qe_api_Line_3 ((((a0.take p16.toNat).drop 0) ++ ([(api_Line.mk a1.fPort m35.2.1 m35.2.2)] : List api_Line)) ++ ((a0.take a0.length).drop m35.1.toNat))))]) (Bs := []) (by rfl) (TwT.cons (x := (.sref 1082 3 0 (((((a0.take p16.toNat).drop 0) ++ ([(api_Line.mk a1.fPort m35.2.1 m35.2.2)] : List api_Line)) ++ ((a0.take a0.length).drop m35.1.toNat)).length))) (by rfl) (FrzL.all (by first | rfl | (simp; done) | (simp; omega))) TwT.nil) TwB.nil) (mp [] [(6, (qe_api_Line_3 ((((a0.take p16.toNat).drop 0) ++ ([(api_Line.mk a1.fPort m35.2.1 m35.2.2)] : List api_Line)) ++ ((a0.take a0.length).drop m35.1.toNat))))] [] hB)), [(qe_api_Line_3 ((((a0.take p16.toNat).drop 0) ++ ([(api_Line.mk a1.fPort m35.2.1 m35.2.2)] : List api_Line)) ++ ((a0.take a0.length).drop m35.1.toNat)))], (Res.tmp (by rfl) (by rfl) Res.nil), rfl, by rfl, by rfl, by rfl⟩
      · refine AWp.cond rfl (fun hg40 => ?_) (fun hg40 => ?_)
        · replace h := ite_t hg40 h
          obtain ⟨x41, hx41, h⟩ := bindS h
          refine sd (c (ov (.ptr 1009 1 [1]) (fp hN Try.underlying51 1 tyS3 _ (q 9))) rfl (c (lb hN 51 _ _ tyS3 (ad _) (q 55)) rfl (c (mv hN (q 0)) rfl (c (mv hN (q 7)) rfl (c (OpJ.indexD Try.underlying43 tyS51 (idx_some hx41).1 (get_map e_api_Line (idx_some hx41).2) (L rfl) (q 57) (q 58)) rfl (c (OpJ.fieldD Try.underlying51 (by rfl) (o := 1) (by rfl) tyS3 (by decide) (by rfl) (by rfl) (L rfl) (q 59)) rfl (c (OpJ.loadD tyS3 (by rfl) (by rfl) (L rfl) (q 60)) rfl (c (add6 (L rfl) (q 56) (q 61)) rfl (c (ov (.ptr 1009 1 [1]) (fp hN Try.underlying51 1 tyS3 _ (q 9))) rfl (cg (OpJ.storeB tyS3 (SetAt.dst1 (by rfl) (by rfl) (SetAt.here _ _) (by rfl) (by rfl) (by first | rfl | omega)) (by rfl) (by rfl) (by simp) rfl (q 63) (q 62)) rfl cn)))))))))) (by kernel_rfl) (by kernel_rfl) ?_
          refine gh [(0, _), (7, _), (8, _), (9, _)] [(1009, some _), (1029, some _)] hB rfl rfl (by rfl) ?_
          obtain ⟨x42, hx42, h⟩ := bindS h
          refine sd (c (ov (.ptr 1009 2 [2]) (fp hN Try.underlying51 2 tyS3 _ (q 9))) rfl (c (lb hN 51 _ _ tyS3 (ad _) (q 64)) rfl (c (mv hN (q 0)) rfl (c (mv hN (q 7)) rfl (c (OpJ.indexD Try.underlying43 tyS51 (idx_some hx42).1 (get_map e_api_Line (idx_some hx42).2) (L rfl) (q 66) (q 67)) rfl (c (OpJ.fieldD Try.underlying51 (by rfl) (o := 2) (by rfl) tyS3 (by decide) (by rfl) (by rfl) (L rfl) (q 68)) rfl (c (OpJ.loadD tyS3 (by rfl) (by rfl) (L rfl) (q 69)) rfl (c (add6 (L rfl) (q 65) (q 70)) rfl (c (ov (.ptr 1009 2 [2]) (fp hN Try.underlying51 2 tyS3 _ (q 9))) rfl (cg (OpJ.storeB tyS3 (SetAt.dst1 (by rfl) (by rfl) (SetAt.here _ _) (by rfl) (by rfl) (by first | rfl | omega)) (by rfl) (by rfl) (by simp) rfl (q 72) (q 71)) rfl cn)))))))))) (by kernel_rfl) (by kernel_rfl) ?_
          refine gh [(0, _), (7, _), (8, _), (9, _)] [(1009, some _), (1029, some _)] hB rfl rfl (by rfl) ?_
          refine rg (c (mv hN (q 7)) rfl (c (add6 (L rfl) (q 73) (Opd.int .i64 (1))) rfl (c (OpJ.assign (L rfl) (q 74)) rfl cn))) ?_
          exact hjj36 _ h _ _ (Mat.trans (mp [] [(0, (qe_api_Line_3 a0)), (7, (i6 (w64 (p16 + (1 : Int))))), (8, (.sref 1029 3 0 (((a0.take p16.toNat).drop 0).length))), (9, (.ptr 1009 0 []))] [(1009, some (.box 51 (.d (.st [(.int .i64 a1.fPort), (.int .i64 (w64 ((w64 (a2 * a1.fUsed)) + x41.fUsed))), (.int .i64 (w64 ((w64 (a2 * a1.fAmount)) + x42.fAmount)))])))), (1029, some (we_api_Line_51_3 ((a0.take p16.toNat).drop 0)))] hB) (mp [] _ _ hB))
        · replace h := ite_f hg40 h
          refine AWp.skip ?_
          exact hjj36 _ h _ _ (mp [] _ _ hB)
    · rcases Bool.eq_false_or_eq_true (decide (p16 < (a0.length : Int))) with hg43 | hg43
      · replace h := ite_t hg43 h
        obtain ⟨x44, hx44, h⟩ := bindS h
        refine dr (c (mv hN (q 7)) rfl (c (mv hN (q 0)) rfl (c (OpJ.val (v' := (i6 (a0.length : Int))) (by simp) (OpJ.lenD Try.underlying43 (L rfl) (q 42))) rfl (c (OpJ.lss (L rfl) (q 41) (q 43)) rfl (c (OpJ.val (v' := .d (.bool true)) (by rw [hg43]) (mv hN (q 44))) rfl (c (OpJ.guarded (g := 45) (by rfl) (mv hN (q 0))) rfl (c (OpJ.guarded (g := 45) (by rfl) (mv hN (q 7))) rfl (c (OpJ.guarded (g := 45) (by rfl) (OpJ.indexD Try.underlying43 tyS51 (idx_some hx44).1 (get_map e_api_Line (idx_some hx44).2) (L rfl) (q 46) (q 47))) rfl (c (OpJ.guarded (g := 45) (by rfl) (OpJ.fieldD Try.underlying51 (by rfl) (o := 0) (by rfl) tyS3 (by decide) (by rfl) (by rfl) (L rfl) (q 48))) rfl (c (OpJ.guarded (g := 45) (by rfl) (OpJ.loadD tyS3 (by rfl) (by rfl) (L rfl) (q 49))) rfl (c (OpJ.guarded (g := 45) (by rfl) (ov (.ptr 1004 0 [0]) (fp hN Try.underlying51 0 tyS3 _ (q 4)))) rfl (c (OpJ.guarded (g := 45) (by rfl) (lb hN 51 _ _ tyS3 (ad _) (q 51))) rfl (c (OpJ.guarded (g := 45) (by rfl) (OpJ.eqlI (L rfl) (q 50) (q 52))) rfl (c (OpJ.pickT (L rfl) (q 45) (q 53)) rfl cn)))))))))))))) (by kernel_rfl) (by kernel_rfl) ?_
        exact hjj31 _ h _ _ (Mat.trans (mp [] [(0, (qe_api_Line_3 a0)), (7, (i6 p16)), (8, (.sref 1029 3 0 (((a0.take p16.toNat).drop 0).length))), (9, (.ptr 1009 0 [])), (54, (bo (x44.fPort == a1.fPort)))] [(1009, some (.box 51 (.d (.st [(.int .i64 a1.fPort), (.int .i64 (w64 (a2 * a1.fUsed))), (.int .i64 (w64 (a2 * a1.fAmount)))])))), (1029, some (we_api_Line_51_3 ((a0.take p16.toNat).drop 0)))] hB) (mp [] _ _ hB))
      · replace h := ite_f hg43 h
        refine dr (c (mv hN (q 7)) rfl (c (mv hN (q 0)) rfl (c (OpJ.val (v' := (i6 (a0.length : Int))) (by simp) (OpJ.lenD Try.underlying43 (L rfl) (q 42))) rfl (c (OpJ.lss (L rfl) (q 41) (q 43)) rfl (c (OpJ.val (v' := .d (.bool false)) (by rw [hg43]) (mv hN (q 44))) rfl (cg (OpJ.skipU (g := 45) (L rfl) (by rfl)) rfl (cg (OpJ.skipU (g := 45) (L rfl) (by rfl)) rfl (cg (OpJ.skipU (g := 45) (L rfl) (by rfl)) rfl (cg (OpJ.skipU (g := 45) (L rfl) (by rfl)) rfl (cg (OpJ.skipU (g := 45) (L rfl) (by rfl)) rfl (cg (OpJ.skipU (g := 45) (L rfl) (by rfl)) rfl (cg (OpJ.skipU (g := 45) (L rfl) (by rfl)) rfl (cg (OpJ.skipU (g := 45) (L rfl) (by rfl)) rfl (c (OpJ.pickF (L rfl) (q 45) (Opd.bool false)) rfl cn)))))))))))))) (by kernel_rfl) (by kernel_rfl) ?_
        exact hjj31 _ h _ _ (Mat.trans (mp [] [(0, (qe_api_Line_3 a0)), (7, (i6 p16)), (8, (.sref 1029 3 0 (((a0.take p16.toNat).drop 0).length))), (9, (.ptr 1009 0 [])), (54, (bo false))] [(1009, some (.box 51 (.d (.st [(.int .i64 a1.fPort), (.int .i64 (w64 (a2 * a1.fUsed))), (.int .i64 (w64 (a2 * a1.fAmount)))])))), (1029, some (we_api_Line_51_3 ((a0.take p16.toNat).drop 0)))] hB) (mp [] _ _ hB))

noncomputable def exchangepointref41_Sum_L0 (a0 : (List api_Invoice)) (s2 : Int) : Option (((Unit) ⊕ (Unit)) ⊕ (Int)) :=
  (if (decide (s2 < (a0.length : Int))) = true then
  (idx a0 s2).bind fun x14 =>
  (exchangepointref41_Consistent x14).bind fun r15 =>
  (if (!r15) = true then
  some (.inl (.inl ()))
  else
  some (.inr (w64 (s2 + (1 : Int)))))
  else
  some (.inl (.inr ())))
noncomputable def exchangepointref41_Sum_L1 (a0 : (List api_Invoice)) (x19 : api_Invoice) (x20 : api_Invoice) (s21 : Int) : Option (((Unit) ⊕ (Unit)) ⊕ (Int)) :=
  (if (decide (s21 < (a0.length : Int))) = true then
  (idx a0 s21).bind fun x31 =>
  (if (((x31.fVersion != (w64 (s21 + (1 : Int)))) || (x31.fMember != x19.fMember)) || (x31.fMonth != x20.fMonth)) = true then
  some (.inl (.inl ()))
  else
  some (.inr (w64 (s21 + (1 : Int)))))
  else
  some (.inl (.inr ())))
noncomputable def exchangepointref41_Sum_L3 (x70 : api_Invoice) (s71 : Int × (List api_Line)) : Option ((((List api_Line))) ⊕ (Int × (List api_Line))) :=
  (if (decide (s71.1 < (x70.fLines.length : Int))) = true then
  (idx x70.fLines s71.1).bind fun x80 =>
  (exchangepointref41_add s71.2 x80 (1 : Int)).bind fun r81 =>
  some (.inr ((w64 (s71.1 + (1 : Int))), r81))
  else
  some (.inl s71.2))
noncomputable def exchangepointref41_Sum_L2 (a0 : (List api_Invoice)) (s35 : Int × Int × (List api_Line) × Int) : Option (((Int × (List api_Line) × Int)) ⊕ (Int × Int × (List api_Line) × Int)) :=
  (if (decide (s35.1 < (a0.length : Int))) = true then
  (idx a0 s35.1).bind fun x70 =>
  (loop (exchangepointref41_Sum_L3 x70) ((0 : Int), s35.2.2.1)).bind fun p78 =>
  some (.inr ((w64 (s35.1 + (1 : Int))), x70.fVersion, p78, (w64 (s35.2.2.2 + x70.fTotal))))
  else
  some (.inl (s35.2.1, s35.2.2.1, s35.2.2.2)))
noncomputable def exchangepointref41_Sum (a0 : (List api_Invoice)) : Option (api_Invoice × Int) :=
  (if (((a0.length : Int) == (0 : Int)) || (decide ((1000 : Int) < (a0.length : Int)))) = true then
  some ((api_Invoice.mk (0 : Int) (0 : Int) (0 : Int) ([] : List api_Line) (0 : Int)), (1 : Int))
  else
  (loop (exchangepointref41_Sum_L0 a0) (0 : Int)).bind fun x17 => match x17 with
  | (.inl _) =>
    some ((api_Invoice.mk (0 : Int) (0 : Int) (0 : Int) ([] : List api_Line) (0 : Int)), (1 : Int))
  | (.inr _) =>
    (idx a0 (0 : Int)).bind fun x19 =>
    (idx a0 (0 : Int)).bind fun x20 =>
    (loop (exchangepointref41_Sum_L1 a0 x19 x20) (0 : Int)).bind fun x33 => match x33 with
    | (.inl _) =>
      some ((api_Invoice.mk (0 : Int) (0 : Int) (0 : Int) ([] : List api_Line) (0 : Int)), (35 : Int))
    | (.inr _) =>
      (loop (exchangepointref41_Sum_L2 a0) ((0 : Int), (0 : Int), ([] : List api_Line), (0 : Int))).bind fun p68 =>
      (exchangepointref41_Consistent (api_Invoice.mk x19.fMember x20.fMonth p68.1 p68.2.1 p68.2.2)).bind fun r86 =>
      (if (!r86) = true then
      some ((api_Invoice.mk (0 : Int) (0 : Int) (0 : Int) ([] : List api_Line) (0 : Int)), (3 : Int))
      else
      some ((api_Invoice.mk x19.fMember x20.fMonth p68.1 p68.2.1 p68.2.2), (0 : Int))))
set_option maxHeartbeats 4000000 in
set_option maxRecDepth 100000 in
theorem exchangepointref41_Sum_ac (a0 : (List api_Invoice)) (r : api_Invoice × Int) (h : exchangepointref41_Sum a0 = some r) : AC Try.prog 20 [(.d (.list 5 (a0.map e_api_Invoice)))] [] (.tup [(.d (e_api_Invoice r.1)), (.d (.int .i64 r.2))]) [] := by
  refine AC.of_code2 Try.func20 rfl rfl (Nat.le_of_ble_eq_true (by rfl)) fun B hB hN => ?_
  have L {d : Nat} (h : Nat.blt d Try.f20.ntmps = true) : d < B.N := ltN hN h
  delta exchangepointref41_Sum at h
  refine sr (cg (OpJ.alloc hB tyZ45 (nm := 1002) (by decide) (L rfl)) rfl (c (OpJ.assign (L rfl) (Opd.int .i64 (0))) rfl cn)) ?_
  refine gh [(0, _), (2, _)] [(1002, some _)] hB rfl rfl (by rfl) ?_
  refine AWp.seq ?_
  refine sr (c (mv hN (q 0)) rfl (c (OpJ.val (v' := (i6 (a0.length : Int))) (by simp) (OpJ.lenD Try.underlying53 (L rfl) (q 13))) rfl (c (OpJ.eqlI (L rfl) (q 14) (Opd.int .i64 (0))) rfl (c (mv hN (q 15)) rfl (c (oq hN 16 (mv hN (q 0)) (OptL.keep (by rfl) OptL.nil) (GuardV.plain _)) rfl (c (oq hN 16 (OpJ.val (v' := (i6 (a0.length : Int))) (by simp) (OpJ.lenD Try.underlying53 (L rfl) (q 17))) (OptL.opt OptL.nil) (GuardV.plain _)) rfl (c (oq hN 16 (OpJ.gtr (L rfl) (q 18) (Opd.int .i64 (1000))) (OptL.opt OptL.nil) (GuardV.plain _)) rfl (c (OpJ.pickOr rfl (L rfl) (q 16) (q 19)) rfl cn)))))))) ?_
  refine gh [(0, _), (2, _), (20, _)] [(1002, some _)] hB rfl rfl (by rfl) ?_
  refine AWp.cond rfl (fun hg1 => ?_) (fun hg1 => ?_)
  · replace h := ite_t hg1 h
    refine sr (c (OpJ.build (places := [(0, 1), (1, 1), (2, 1), (3, 1), (4, 1)]) ⟨Try.underlying45, fun w => by kernel_rfl⟩ tyZS45 Opds.nil (by kernel_rfl) (r := (.st [(i6 0), (i6 0), (i6 0), .nils, (i6 0)])) (by rfl) (L rfl)) rfl (cg (OpJ.storeB tyS45 (SetAt.here _ _) (by rfl) (by rfl) (by simp) rfl (q 2) (q 21)) rfl (c (OpJ.assign (L rfl) (Opd.int .i64 (1))) rfl cn))) ?_
    refine gh [(2, _), (3, _)] [(1002, some _)] hB rfl rfl (by rfl) ?_
    refine AWp.ret ?_
    refine seqQ_r ?_
    obtain rfl := Option.some.inj h
    exact ⟨.inl rfl, _, _, (Mat.trans (Mat.coeP (Ts := []) (Bs := [(1002, some (.box 45 (.d (.st [(.int .i64 0), (.int .i64 0), (.int .i64 0), (.list 3 (([] : List api_Line).map e_api_Line)), (.int .i64 0)]))))]) TwT.nil (TwB.cons (x := (.st [(i6 0), (i6 0), (i6 0), .nils, (i6 0)])) (by rfl) (Tw.leaf ⟨_, (Co.st (CoL.cons (Co.d _) (CoL.cons (Co.d _) (CoL.cons (Co.d _) (CoL.cons (Co.nils 3) (CoL.cons (Co.d _) CoL.nil)))))), rfl⟩) TwB.nil)) (mp [] [(2, (.ptr 1002 0 [])), (3, (i6 1))] [(1002, some (.box 45 (.d (.st [(.int .i64 0), (.int .i64 0), (.int .i64 0), (.list 3 (([] : List api_Line).map e_api_Line)), (.int .i64 0)]))))] hB)), [(.d (.st [(.int .i64 0), (.int .i64 0), (.int .i64 0), (.list 3 (([] : List api_Line).map e_api_Line)), (.int .i64 0)])), (i6 1)], (Res.cell (c := (.d (.st [(.int .i64 0), (.int .i64 0), (.int .i64 0), (.list 3 (([] : List api_Line).map e_api_Line)), (.int .i64 0)]))) (by rfl) (by rfl) tyS45 (by rfl) (by rfl) (by rfl) (Res.tmp (by rfl) (by rfl) Res.nil)), rfl, by rfl, by rfl, by rfl⟩
  · replace h := ite_f hg1 h
    refine AWp.skip ?_
    refine seqQ_n ?_
    refine AWp.seq ?_
    refine sr (c (mv hN (q 0)) rfl (c (OpJ.val (v' := (i6 (a0.length : Int))) (by simp) (OpJ.lenD Try.underlying53 (L rfl) (q 22))) rfl (c (mv hN (Opd.int .i64 (0))) rfl cn))) ?_
    refine gh [(0, _), (2, _), (22, _), (23, _), (24, _)] [(1002, some _)] hB rfl rfl (by rfl) ?_
    refine AWp.block ?_
    obtain ⟨x17, hx18, h⟩ := bindS h
    refine lg (exchangepointref41_Sum_L0 a0) (fun s2 : Int => ([(0, (qe_api_Invoice_5 a0)), (2, (.ptr 1002 0 [])), (22, (qe_api_Invoice_5 a0)), (23, (i6 (a0.length : Int))), (24, (i6 s2))] : EL)) (fun s2 : Int => ([(1002, some (.box 45 (.st [(i6 0), (i6 0), (i6 0), .nils, (i6 0)])))] : OL)) (fun (x : (Unit) ⊕ (Unit)) e E' O' => match x with | (.inl _p) => e = .ret ∧ Mat B E' O' ([(2, (.ptr 1002 0 [])), (3, (i6 1))] : EL) ([(1002, some (.box 45 (.st [(i6 0), (i6 0), (i6 0), .nils, (i6 0)])))] : OL) | (.inr _p) => e = .exit 0 ∧ Mat B E' O' ([(0, (qe_api_Invoice_5 a0)), (2, (.ptr 1002 0 []))] : EL) ([(1002, some (.box 45 (.st [(i6 0), (i6 0), (i6 0), .nils, (i6 0)])))] : OL)) hx18 (mp [] _ _ hB) (fun s2 y h => ?_) (fun e E' O' hR => ?_)
    · unfold exchangepointref41_Sum_L0 at h
      refine sr (c (OpJ.lss (L rfl) (q 24) (q 23)) rfl cn) ?_
      refine gh [(0, _), (2, _), (22, _), (23, _), (24, _), (25, _)] [(1002, some _)] hB rfl rfl (by rfl) ?_
      refine AWp.seq ?_
      refine AWp.cond rfl (fun hg13 => ?_) (fun hg13 => ?_)
      · replace h := ite_t hg13 h
        refine AWp.skip ?_
        refine seqQ_n ?_
        refine AWp.seq ?_
        refine AWp.block ?_
        obtain ⟨x14, hx14, h⟩ := bindS h
        refine sr (c (OpJ.indexD Try.underlying53 tyS45 (idx_some hx14).1 (get_map e_api_Invoice (idx_some hx14).2) (L rfl) (q 22) (q 24)) rfl (c (OpJ.loadD tyS45 (by rfl) (by rfl) (L rfl) (q 26)) rfl (cg (OpJ.alloc hB tyZ45 (nm := 1005) (by decide) (L rfl)) rfl (cg (OpJ.storeB tyS45 (SetAt.here _ _) (by rfl) (by rfl) (by simp) rfl (q 5) (q 27)) rfl cn)))) ?_
        refine gh [(0, _), (2, _), (5, _), (22, _), (23, _), (24, _)] [(1002, some _), (1005, some _)] hB rfl rfl (by rfl) ?_
        obtain ⟨r15, hr15, h⟩ := bindS h
        refine sr (c (lb hN 45 _ _ tyS45 (At.here _) (q 5)) rfl (cg (OpJ.callFn hB fnOk23 (exchangepointref41_Consistent_ac x14 r15 hr15) [] (by kernel_rfl) (L rfl) (by kernel_rfl) (OpdL.cons (q 28) OpdL.nil)) rfl (c (OpJ.not (L rfl) (q 29)) rfl cn))) ?_
        refine gh [(0, _), (2, _), (22, _), (23, _), (24, _), (30, _)] [(1002, some _)] hB rfl rfl (by rfl) ?_
        refine AWp.cond rfl (fun hg16 => ?_) (fun hg16 => ?_)
        · replace h := ite_t hg16 h
          refine sr (c (OpJ.build (places := [(0, 1), (1, 1), (2, 1), (3, 1), (4, 1)]) ⟨Try.underlying45, fun w => by kernel_rfl⟩ tyZS45 Opds.nil (by kernel_rfl) (r := (.st [(i6 0), (i6 0), (i6 0), .nils, (i6 0)])) (by rfl) (L rfl)) rfl (cg (OpJ.storeB tyS45 (SetAt.here _ _) (by rfl) (by rfl) (by simp) rfl (q 2) (q 31)) rfl (c (OpJ.assign (L rfl) (Opd.int .i64 (1))) rfl cn))) ?_
          refine gh [(2, _), (3, _)] [(1002, some _)] hB rfl rfl (by rfl) ?_
          refine AWp.ret ?_
          refine blkQ_r ?_
          refine seqQ_r ?_
          obtain rfl := Option.some.inj h
          exact ⟨(fun hc => by cases hc), rfl, (mp [] _ _ hB)⟩
        · replace h := ite_f hg16 h
          refine AWp.skip ?_
          refine blkQ_n ?_
          refine seqQ_n ?_
          refine rg (c (add6 (L rfl) (q 24) (Opd.int .i64 (1))) rfl (c (mv hN (q 32)) rfl cn)) ?_
          obtain rfl := Option.some.inj h
          exact ⟨rfl, (Mat.trans (mp [] [(0, (qe_api_Invoice_5 a0)), (2, (.ptr 1002 0 [])), (22, (qe_api_Invoice_5 a0)), (23, (i6 (a0.length : Int))), (24, (i6 (w64 (s2 + (1 : Int)))))] [(1002, some (.box 45 (.st [(i6 0), (i6 0), (i6 0), .nils, (i6 0)])))] hB) (mp [] _ _ hB))⟩
      · replace h := ite_f hg13 h
        refine AWp.exit ?_
        refine seqQ_e ?_
        obtain rfl := Option.some.inj h
        exact ⟨(fun hc => by cases hc), rfl, (mp [] _ _ hB)⟩
    · rcases x17 with _ | _
      · obtain ⟨rfl, hmat⟩ := hR
        refine blkQ_r ?_
        refine seqQ_r ?_
        obtain rfl := Option.some.inj h
        exact ⟨.inl rfl, _, _, (Mat.trans hmat (Mat.trans (Mat.coeP (Ts := []) (Bs := [(1002, some (.box 45 (.d (.st [(.int .i64 0), (.int .i64 0), (.int .i64 0), (.list 3 (([] : List api_Line).map e_api_Line)), (.int .i64 0)]))))]) TwT.nil (TwB.cons (x := (.st [(i6 0), (i6 0), (i6 0), .nils, (i6 0)])) (by rfl) (Tw.leaf ⟨_, (Co.st (CoL.cons (Co.d _) (CoL.cons (Co.d _) (CoL.cons (Co.d _) (CoL.cons (Co.nils 3) (CoL.cons (Co.d _) CoL.nil)))))), rfl⟩) TwB.nil)) (mp [] [(2, (.ptr 1002 0 [])), (3, (i6 1))] [(1002, some (.box 45 (.d (.st [(.int .i64 0), (.int .i64 0), (.int .i64 0), (.list 3 (([] : List api_Line).map e_api_Line)), (.int .i64 0)]))))] hB))), [(.d (.st [(.int .i64 0), (.int .i64 0), (.int .i64 0), (.list 3 (([] : List api_Line).map e_api_Line)), (.int .i64 0)])), (i6 1)], (Res.cell (c := (.d (.st [(.int .i64 0), (.int .i64 0), (.int .i64 0), (.list 3 (([] : List api_Line).map e_api_Line)), (.int .i64 0)]))) (by rfl) (by rfl) tyS45 (by rfl) (by rfl) (by rfl) (Res.tmp (by rfl) (by rfl) Res.nil)), rfl, by rfl, by rfl, by rfl⟩
      · obtain ⟨rfl, hmat⟩ := hR
        refine blkQ_hit ?_
        refine seqQ_n ?_
        refine AWp.ghost hmat ?_
        obtain ⟨x19, hx19, h⟩ := bindS h
        obtain ⟨x20, hx20, h⟩ := bindS h
        refine sd (c (mv hN (q 0)) rfl (c (OpJ.indexD Try.underlying53 tyS45 (idx_some hx19).1 (get_map e_api_Invoice (idx_some hx19).2) (L rfl) (q 33) (Opd.int .i64 (0))) rfl (c (OpJ.fieldD Try.underlying45 (by rfl) (o := 0) (by rfl) tyS3 (by decide) (by rfl) (by rfl) (L rfl) (q 34)) rfl (c (OpJ.loadD tyS3 (by rfl) (by rfl) (L rfl) (q 35)) rfl (c (mv hN (q 0)) rfl (c (OpJ.indexD Try.underlying53 tyS45 (idx_some hx20).1 (get_map e_api_Invoice (idx_some hx20).2) (L rfl) (q 37) (Opd.int .i64 (0))) rfl (c (OpJ.fieldD Try.underlying45 (by rfl) (o := 1) (by rfl) tyS3 (by decide) (by rfl) (by rfl) (L rfl) (q 38)) rfl (c (OpJ.loadD tyS3 (by rfl) (by rfl) (L rfl) (q 39)) rfl (c (OpJ.build (places := [(0, 1), (1, 1), (2, 1), (3, 1), (4, 1)]) ⟨Try.underlying45, fun w => by kernel_rfl⟩ tyZS45 (Opds.cons (q 36) (Opds.cons (q 40) Opds.nil)) (by kernel_rfl) (r := (.st [(i6 x19.fMember), (i6 x20.fMonth), (i6 0), .nils, (i6 0)])) (by rfl) (L rfl)) rfl (cg (OpJ.alloc hB tyZ45 (nm := 1006) (by decide) (L rfl)) rfl (cg (OpJ.storeB tyS45 (SetAt.here _ _) (by rfl) (by rfl) (by simp) rfl (q 6) (q 41)) rfl cn))))))))))) (by kernel_rfl) (by kernel_rfl) ?_
        refine gh [(0, _), (2, _), (6, _)] [(1002, some _), (1006, some _)] hB rfl rfl (by rfl) ?_
        refine AWp.seq ?_
        refine sr (c (mv hN (q 0)) rfl (c (OpJ.val (v' := (i6 (a0.length : Int))) (by simp) (OpJ.lenD Try.underlying53 (L rfl) (q 42))) rfl (c (mv hN (Opd.int .i64 (0))) rfl cn))) ?_
        refine gh [(0, _), (2, _), (6, _), (42, _), (43, _), (44, _)] [(1002, some _), (1006, some _)] hB rfl rfl (by rfl) ?_
        refine AWp.block ?_
        obtain ⟨x33, hx34, h⟩ := bindS h
        refine lg (exchangepointref41_Sum_L1 a0 x19 x20) (fun s21 : Int => ([(0, (qe_api_Invoice_5 a0)), (2, (.ptr 1002 0 [])), (6, (.ptr 1006 0 [])), (42, (qe_api_Invoice_5 a0)), (43, (i6 (a0.length : Int))), (44, (i6 s21))] : EL)) (fun s21 : Int => ([(1002, some (.box 45 (.st [(i6 0), (i6 0), (i6 0), .nils, (i6 0)]))), (1006, some (.box 45 (.st [(i6 x19.fMember), (i6 x20.fMonth), (i6 0), .nils, (i6 0)])))] : OL)) (fun (x : (Unit) ⊕ (Unit)) e E' O' => match x with | (.inl _p) => e = .ret ∧ Mat B E' O' ([(2, (.ptr 1002 0 [])), (3, (i6 (35 : Int)))] : EL) ([(1002, some (.box 45 (.st [(i6 0), (i6 0), (i6 0), .nils, (i6 0)])))] : OL) | (.inr _p) => e = .exit 2 ∧ Mat B E' O' ([(0, (qe_api_Invoice_5 a0)), (2, (.ptr 1002 0 [])), (6, (.ptr 1006 0 []))] : EL) ([(1002, some (.box 45 (.st [(i6 0), (i6 0), (i6 0), .nils, (i6 0)]))), (1006, some (.box 45 (.st [(i6 x19.fMember), (i6 x20.fMonth), (i6 0), .nils, (i6 0)])))] : OL)) hx34 (mp [] _ _ hB) (fun s21 y h => ?_) (fun e E' O' hR => ?_)
        · unfold exchangepointref41_Sum_L1 at h
          refine sr (c (OpJ.lss (L rfl) (q 44) (q 43)) rfl cn) ?_
          refine gh [(0, _), (2, _), (6, _), (42, _), (43, _), (44, _), (45, _)] [(1002, some _), (1006, some _)] hB rfl rfl (by rfl) ?_
          refine AWp.seq ?_
          refine AWp.cond rfl (fun hg30 => ?_) (fun hg30 => ?_)
          · replace h := ite_t hg30 h
            refine AWp.skip ?_
            refine seqQ_n ?_
            refine AWp.seq ?_
            refine AWp.block ?_
            obtain ⟨x31, hx31, h⟩ := bindS h
            refine sr (c (mv hN (q 44)) rfl (c (OpJ.indexD Try.underlying53 tyS45 (idx_some hx31).1 (get_map e_api_Invoice (idx_some hx31).2) (L rfl) (q 42) (q 44)) rfl (c (OpJ.loadD tyS45 (by rfl) (by rfl) (L rfl) (q 47)) rfl (cg (OpJ.alloc hB tyZ45 (nm := 1008) (by decide) (L rfl)) rfl (c (OpJ.assign (L rfl) (q 46)) rfl (cg (OpJ.storeB tyS45 (SetAt.here _ _) (by rfl) (by rfl) (by simp) rfl (q 8) (q 48)) rfl cn)))))) ?_
            refine gh [(0, _), (2, _), (6, _), (7, _), (8, _), (42, _), (43, _), (44, _)] [(1002, some _), (1006, some _), (1008, some _)] hB rfl rfl (by rfl) ?_
            refine sr (c (ov (.ptr 1008 2 [2]) (fp hN Try.underlying45 2 tyS3 _ (q 8))) rfl (c (lb hN 45 _ _ tyS3 (ad _) (q 49)) rfl (c (mv hN (q 7)) rfl (c (add6 (L rfl) (q 51) (Opd.int .i64 (1))) rfl (c (OpJ.neqI (L rfl) (q 50) (q 52)) rfl (c (mv hN (q 53)) rfl (c (oq hN 54 (ov (.ptr 1008 0 [0]) (fp hN Try.underlying45 0 tyS3 _ (q 8))) (OptL.keep (by rfl) OptL.nil) (GuardV.plain _)) rfl (c (oq hN 54 (lb hN 45 _ _ tyS3 (ad _) (q 55)) (OptL.opt OptL.nil) (GuardV.plain _)) rfl (c (oq hN 54 (ov (.ptr 1006 0 [0]) (fp hN Try.underlying45 0 tyS3 _ (q 6))) (OptL.keep (by rfl) OptL.nil) (GuardV.plain _)) rfl (c (oq hN 54 (lb hN 45 _ (i6 x19.fMember) tyS3 (At.st1 (f := (i6 x19.fMember)) (by rfl) (by rfl) (At.here _) (by first | rfl | omega)) (q 57)) (OptL.opt OptL.nil) (GuardV.plain _)) rfl (c (oq hN 54 (OpJ.neqI (L rfl) (q 56) (q 58)) (OptL.opt (OptL.opt OptL.nil)) (GuardV.plain _)) rfl (c (OpJ.pickOr rfl (L rfl) (q 54) (q 59)) rfl (c (mv hN (q 60)) rfl (c (oq hN 61 (ov (.ptr 1008 1 [1]) (fp hN Try.underlying45 1 tyS3 _ (q 8))) (OptL.keep (by rfl) OptL.nil) (GuardV.plain _)) rfl (c (oq hN 61 (lb hN 45 _ _ tyS3 (ad _) (q 62)) (OptL.opt OptL.nil) (GuardV.plain _)) rfl (c (oq hN 61 (ov (.ptr 1006 1 [1]) (fp hN Try.underlying45 1 tyS3 _ (q 6))) (OptL.keep (by rfl) OptL.nil) (GuardV.plain _)) rfl (c (oq hN 61 (lb hN 45 _ (i6 x20.fMonth) tyS3 (At.st1 (f := (i6 x20.fMonth)) (by rfl) (by rfl) (At.here _) (by first | rfl | omega)) (q 64)) (OptL.opt OptL.nil) (GuardV.plain _)) rfl (c (oq hN 61 (OpJ.neqI (L rfl) (q 63) (q 65)) (OptL.opt (OptL.opt OptL.nil)) (GuardV.plain _)) rfl (c (OpJ.pickOr rfl (L rfl) (q 61) (q 66)) rfl cn))))))))))))))))))) ?_
            refine gh [(0, _), (2, _), (6, _), (42, _), (43, _), (44, _), (67, _)] [(1002, some _), (1006, some _)] hB rfl rfl (by rfl) ?_
            refine AWp.cond rfl (fun hg32 => ?_) (fun hg32 => ?_)
            · replace h := ite_t hg32 h
              refine sr (c (OpJ.build (places := [(0, 1), (1, 1), (2, 1), (3, 1), (4, 1)]) ⟨Try.underlying45, fun w => by kernel_rfl⟩ tyZS45 Opds.nil (by kernel_rfl) (r := (.st [(i6 0), (i6 0), (i6 0), .nils, (i6 0)])) (by rfl) (L rfl)) rfl (cg (OpJ.storeB tyS45 (SetAt.here _ _) (by rfl) (by rfl) (by simp) rfl (q 2) (q 68)) rfl (c (OpJ.assign (L rfl) (Opd.int .i64 (35))) rfl cn))) ?_
              refine gh [(2, _), (3, _)] [(1002, some _)] hB rfl rfl (by rfl) ?_
              refine AWp.ret ?_
              refine blkQ_r ?_
              refine seqQ_r ?_
              obtain rfl := Option.some.inj h
              exact ⟨(fun hc => by cases hc), rfl, (mp [] _ _ hB)⟩
            · replace h := ite_f hg32 h
              refine AWp.skip ?_
              refine blkQ_n ?_
              refine seqQ_n ?_
              refine rg (c (add6 (L rfl) (q 44) (Opd.int .i64 (1))) rfl (c (mv hN (q 69)) rfl cn)) ?_
              obtain rfl := Option.some.inj h
              exact ⟨rfl, (Mat.trans (mp [] [(0, (qe_api_Invoice_5 a0)), (2, (.ptr 1002 0 [])), (6, (.ptr 1006 0 [])), (42, (qe_api_Invoice_5 a0)), (43, (i6 (a0.length : Int))), (44, (i6 (w64 (s21 + (1 : Int)))))] [(1002, some (.box 45 (.st [(i6 0), (i6 0), (i6 0), .nils, (i6 0)]))), (1006, some (.box 45 (.st [(i6 x19.fMember), (i6 x20.fMonth), (i6 0), .nils, (i6 0)])))] hB) (mp [] _ _ hB))⟩
          · replace h := ite_f hg30 h
            refine AWp.exit ?_
            refine seqQ_e ?_
            obtain rfl := Option.some.inj h
            exact ⟨(fun hc => by cases hc), rfl, (mp [] _ _ hB)⟩
        · rcases x33 with _ | _
          · obtain ⟨rfl, hmat⟩ := hR
            refine blkQ_r ?_
            refine seqQ_r ?_
            obtain rfl := Option.some.inj h
            exact ⟨.inl rfl, _, _, (Mat.trans hmat (Mat.trans (Mat.coeP (Ts := []) (Bs := [(1002, some (.box 45 (.d (.st [(.int .i64 0), (.int .i64 0), (.int .i64 0), (.list 3 (([] : List api_Line).map e_api_Line)), (.int .i64 0)]))))]) TwT.nil (TwB.cons (x := (.st [(i6 0), (i6 0), (i6 0), .nils, (i6 0)])) (by rfl) (Tw.leaf ⟨_, (Co.st (CoL.cons (Co.d _) (CoL.cons (Co.d _) (CoL.cons (Co.d _) (CoL.cons (Co.nils 3) (CoL.cons (Co.d _) CoL.nil)))))), rfl⟩) TwB.nil)) (mp [] [(2, (.ptr 1002 0 [])), (3, (i6 (35 : Int)))] [(1002, some (.box 45 (.d (.st [(.int .i64 0), (.int .i64 0), (.int .i64 0), (.list 3 (([] : List api_Line).map e_api_Line)), (.int .i64 0)]))))] hB))), [(.d (.st [(.int .i64 0), (.int .i64 0), (.int .i64 0), (.list 3 (([] : List api_Line).map e_api_Line)), (.int .i64 0)])), (i6 (35 : Int))], (Res.cell (c := (.d (.st [(.int .i64 0), (.int .i64 0), (.int .i64 0), (.list 3 (([] : List api_Line).map e_api_Line)), (.int .i64 0)]))) (by rfl) (by rfl) tyS45 (by rfl) (by rfl) (by rfl) (Res.tmp (by rfl) (by rfl) Res.nil)), rfl, by rfl, by rfl, by rfl⟩
          · obtain ⟨rfl, hmat⟩ := hR
            refine blkQ_hit ?_
            refine seqQ_n ?_
            refine AWp.ghost hmat ?_
            refine AWp.seq ?_
            refine sr (c (mv hN (q 0)) rfl (c (OpJ.val (v' := (i6 (a0.length : Int))) (by simp) (OpJ.lenD Try.underlying53 (L rfl) (q 70))) rfl (c (mv hN (Opd.int .i64 (0))) rfl cn))) ?_
            refine gh [(2, _), (6, _), (70, _), (71, _), (72, _)] [(1002, some _), (1006, some _)] hB rfl rfl (by rfl) ?_
            refine AWp.block ?_
            obtain ⟨p68, hx85, h⟩ := bindS h
            refine lg (exchangepointref41_Sum_L2 a0) (fun s35 : Int × Int × (List api_Line) × Int => ([(2, (.ptr 1002 0 [])), (6, (.ptr 1006 0 [])), (70, (qe_api_Invoice_5 a0)), (71, (i6 (a0.length : Int))), (72, (i6 s35.1))] : EL)) (fun s35 : Int × Int × (List api_Line) × Int => ([(1002, some (.box 45 (.st [(i6 0), (i6 0), (i6 0), .nils, (i6 0)]))), (1006, some (.box 45 (.st [(i6 x19.fMember), (i6 x20.fMonth), (i6 s35.2.1), (qe_api_Line_3 s35.2.2.1), (i6 s35.2.2.2)])))] : OL)) (fun (p68 : (Int × (List api_Line) × Int)) e E' O' => e = .exit 4 ∧ Mat B E' O' ([(2, (.ptr 1002 0 [])), (6, (.ptr 1006 0 []))] : EL) ([(1002, some (.box 45 (.st [(i6 0), (i6 0), (i6 0), .nils, (i6 0)]))), (1006, some (.box 45 (.st [(i6 x19.fMember), (i6 x20.fMonth), (i6 p68.1), (qe_api_Line_3 p68.2.1), (i6 p68.2.2)])))] : OL)) hx85 (Mat.trans (Mat.coeP (Ts := []) (Bs := [(1006, some (.box 45 (.st [(i6 x19.fMember), (i6 x20.fMonth), (i6 0), (qe_api_Line_3 ([] : List api_Line)), (i6 0)])))]) TwT.nil (TwB.cons (x := (.st [(i6 x19.fMember), (i6 x20.fMonth), (i6 0), .nils, (i6 0)])) (by rfl) (Tw.st (TwL.cons (Tw.same _) (TwL.cons (Tw.same _) (TwL.cons (Tw.same _) (TwL.cons (Tw.leaf ⟨_, (Co.nils 3), rfl⟩) (TwL.cons (Tw.same _) TwL.nil)))))) TwB.nil)) (mp [] _ _ hB)) (fun s35 y h => ?_) (fun e E' O' hR => ?_)
            · unfold exchangepointref41_Sum_L2 at h
              refine sr (c (OpJ.lss (L rfl) (q 72) (q 71)) rfl cn) ?_
              refine gh [(2, _), (6, _), (70, _), (71, _), (72, _), (73, _)] [(1002, some _), (1006, some _)] hB rfl rfl (by rfl) ?_
              refine AWp.seq ?_
              refine AWp.cond rfl (fun hg69 => ?_) (fun hg69 => ?_)
              · replace h := ite_t hg69 h
                refine AWp.skip ?_
                refine seqQ_n ?_
                refine AWp.seq ?_
                refine AWp.block ?_
                obtain ⟨x70, hx70, h⟩ := bindS h
                refine sr (c (OpJ.indexD Try.underlying53 tyS45 (idx_some hx70).1 (get_map e_api_Invoice (idx_some hx70).2) (L rfl) (q 70) (q 72)) rfl (c (OpJ.loadD tyS45 (by rfl) (by rfl) (L rfl) (q 74)) rfl (cg (OpJ.alloc hB tyZ45 (nm := 1010) (by decide) (L rfl)) rfl (cg (OpJ.storeB tyS45 (SetAt.here _ _) (by rfl) (by rfl) (by simp) rfl (q 10) (q 75)) rfl cn)))) ?_
                refine gh [(2, _), (6, _), (10, _), (70, _), (71, _), (72, _)] [(1002, some _), (1006, some _), (1010, some _)] hB rfl rfl (by rfl) ?_
                refine AWp.seq ?_
                refine sr (c (ov (.ptr 1010 3 [3]) (fp hN Try.underlying45 3 tyS43 _ (q 10))) rfl (c (lb hN 45 _ _ tyS43 (ad _) (q 76)) rfl (c (OpJ.val (v' := (i6 (x70.fLines.length : Int))) (by simp) (OpJ.lenD Try.underlying43 (L rfl) (q 77))) rfl (c (mv hN (Opd.int .i64 (0))) rfl cn)))) ?_
                refine gh [(2, _), (6, _), (10, _), (70, _), (71, _), (72, _), (77, _), (78, _), (79, _)] [(1002, some _), (1006, some _), (1010, some _)] hB rfl rfl (by rfl) ?_
                refine AWp.block ?_
                obtain ⟨p78, hx83, h⟩ := bindS h
                refine lg (exchangepointref41_Sum_L3 x70) (fun s71 : Int × (List api_Line) => ([(2, (.ptr 1002 0 [])), (6, (.ptr 1006 0 [])), (10, (.ptr 1010 0 [])), (70, (qe_api_Invoice_5 a0)), (71, (i6 (a0.length : Int))), (72, (i6 s35.1)), (77, (qe_api_Line_3 x70.fLines)), (78, (i6 (x70.fLines.length : Int))), (79, (i6 s71.1))] : EL)) (fun s71 : Int × (List api_Line) => ([(1002, some (.box 45 (.st [(i6 0), (i6 0), (i6 0), .nils, (i6 0)]))), (1006, some (.box 45 (.st [(i6 x19.fMember), (i6 x20.fMonth), (i6 s35.2.1), (qe_api_Line_3 s71.2), (i6 s35.2.2.2)]))), (1010, some (.box 45 (.d (e_api_Invoice x70))))] : OL)) (fun (p78 : ((List api_Line))) e E' O' => e = .exit 6 ∧ Mat B E' O' ([(2, (.ptr 1002 0 [])), (6, (.ptr 1006 0 [])), (10, (.ptr 1010 0 [])), (70, (qe_api_Invoice_5 a0)), (71, (i6 (a0.length : Int))), (72, (i6 s35.1))] : EL) ([(1002, some (.box 45 (.st [(i6 0), (i6 0), (i6 0), .nils, (i6 0)]))), (1006, some (.box 45 (.st [(i6 x19.fMember), (i6 x20.fMonth), (i6 s35.2.1), (qe_api_Line_3 p78), (i6 s35.2.2.2)]))), (1010, some (.box 45 (.d (e_api_Invoice x70))))] : OL)) hx83 (mp [] _ _ hB) (fun s71 y h => ?_) (fun e E' O' hR => ?_)
                · unfold exchangepointref41_Sum_L3 at h
                  refine sr (c (OpJ.lss (L rfl) (q 79) (q 78)) rfl cn) ?_
                  refine gh [(2, _), (6, _), (10, _), (70, _), (71, _), (72, _), (77, _), (78, _), (79, _), (80, _)] [(1002, some _), (1006, some _), (1010, some _)] hB rfl rfl (by rfl) ?_
                  refine AWp.seq ?_
                  refine AWp.cond rfl (fun hg79 => ?_) (fun hg79 => ?_)
                  · replace h := ite_t hg79 h
                    refine AWp.skip ?_
                    refine seqQ_n ?_
                    refine AWp.seq ?_
                    refine AWp.block ?_
                    obtain ⟨x80, hx80, h⟩ := bindS h
                    refine sr (c (OpJ.indexD Try.underlying43 tyS51 (idx_some hx80).1 (get_map e_api_Line (idx_some hx80).2) (L rfl) (q 77) (q 79)) rfl (c (OpJ.loadD tyS51 (by rfl) (by rfl) (L rfl) (q 81)) rfl (cg (OpJ.alloc hB tyZ51 (nm := 1012) (by decide) (L rfl)) rfl (cg (OpJ.storeB tyS51 (SetAt.here _ _) (by rfl) (by rfl) (by simp) rfl (q 12) (q 82)) rfl cn)))) ?_
                    refine gh [(2, _), (6, _), (10, _), (12, _), (70, _), (71, _), (72, _), (77, _), (78, _), (79, _)] [(1002, some _), (1006, some _), (1010, some _), (1012, some _)] hB rfl rfl (by rfl) ?_
                    obtain ⟨r81, hr81, h⟩ := bindS h
                    refine rg (c (ov (.ptr 1006 3 [3]) (fp hN Try.underlying45 3 tyS43 _ (q 6))) rfl (c (lb hN 45 _ (qe_api_Line_3 s71.2) tyS43 (At.st1 (f := (qe_api_Line_3 s71.2)) (by rfl) (by rfl) (At.here _) (by first | rfl | omega)) (q 83)) rfl (c (lb hN 51 _ _ tyS51 (At.here _) (q 12)) rfl (cg (OpJ.callFn hB fnOk40 (exchangepointref41_add_ac s71.2 x80 (1 : Int) r81 hr81) [] (by kernel_rfl) (L rfl) (by kernel_rfl) (OpdL.cons (q 84) (OpdL.cons (q 85) (OpdL.cons (Opd.int .i64 (1)) OpdL.nil)))) rfl (c (ov (.ptr 1006 3 [3]) (fp hN Try.underlying45 3 tyS43 _ (q 6))) rfl (cg (OpJ.storeB (c' := (.st [(i6 x19.fMember), (i6 x20.fMonth), (i6 s35.2.1), (qe_api_Line_3 r81), (i6 s35.2.2.2)])) tyS43 (SetAt.st1 (f := (qe_api_Line_3 s71.2)) (by rfl) (by rfl) (SetAt.here _ _) (by rfl) (by rfl) (by first | rfl | omega)) (by rfl) (by rfl) (by simp) rfl (q 87) (q 86)) rfl cn)))))) ?_
                    refine blkQ_n ?_
                    refine seqQ_n ?_
                    refine gh [(2, _), (6, _), (10, _), (70, _), (71, _), (72, _), (77, _), (78, _), (79, _)] [(1002, some _), (1006, some _), (1010, some _)] hB rfl rfl (by rfl) ?_
                    refine rg (c (add6 (L rfl) (q 79) (Opd.int .i64 (1))) rfl (c (mv hN (q 88)) rfl cn)) ?_
                    obtain rfl := Option.some.inj h
                    exact ⟨rfl, (Mat.trans (mp [] [(2, (.ptr 1002 0 [])), (6, (.ptr 1006 0 [])), (10, (.ptr 1010 0 [])), (70, (qe_api_Invoice_5 a0)), (71, (i6 (a0.length : Int))), (72, (i6 s35.1)), (77, (qe_api_Line_3 x70.fLines)), (78, (i6 (x70.fLines.length : Int))), (79, (i6 (w64 (s71.1 + (1 : Int)))))] [(1002, some (.box 45 (.st [(i6 0), (i6 0), (i6 0), .nils, (i6 0)]))), (1006, some (.box 45 (.st [(i6 x19.fMember), (i6 x20.fMonth), (i6 s35.2.1), (qe_api_Line_3 r81), (i6 s35.2.2.2)]))), (1010, some (.box 45 (.d (e_api_Invoice x70))))] hB) (mp [] _ _ hB))⟩
                  · replace h := ite_f hg79 h
                    refine AWp.exit ?_
                    refine seqQ_e ?_
                    obtain rfl := Option.some.inj h
                    exact ⟨(fun hc => by cases hc), rfl, (mp [] _ _ hB)⟩
                · obtain ⟨rfl, hmat⟩ := hR
                  refine blkQ_hit ?_
                  refine seqQ_n ?_
                  refine AWp.ghost hmat ?_
                  refine sr (c (ov (.ptr 1010 2 [2]) (fp hN Try.underlying45 2 tyS3 _ (q 10))) rfl (c (lb hN 45 _ _ tyS3 (ad _) (q 89)) rfl (c (ov (.ptr 1006 2 [2]) (fp hN Try.underlying45 2 tyS3 _ (q 6))) rfl (cg (OpJ.storeB (c' := (.st [(i6 x19.fMember), (i6 x20.fMonth), (i6 x70.fVersion), (qe_api_Line_3 p78), (i6 s35.2.2.2)])) tyS3 (SetAt.st1 (f := (i6 s35.2.1)) (by rfl) (by rfl) (SetAt.here _ _) (by rfl) (by rfl) (by first | rfl | omega)) (by rfl) (by rfl) (by simp) rfl (q 91) (q 90)) rfl cn)))) ?_
                  refine gh [(2, _), (6, _), (10, _), (70, _), (71, _), (72, _)] [(1002, some _), (1006, some _), (1010, some _)] hB rfl rfl (by rfl) ?_
                  refine rg (c (ov (.ptr 1006 4 [4]) (fp hN Try.underlying45 4 tyS3 _ (q 6))) rfl (c (lb hN 45 _ (i6 s35.2.2.2) tyS3 (At.st1 (f := (i6 s35.2.2.2)) (by rfl) (by rfl) (At.here _) (by first | rfl | omega)) (q 92)) rfl (c (ov (.ptr 1010 4 [4]) (fp hN Try.underlying45 4 tyS3 _ (q 10))) rfl (c (lb hN 45 _ _ tyS3 (ad _) (q 94)) rfl (c (add6 (L rfl) (q 93) (q 95)) rfl (c (ov (.ptr 1006 4 [4]) (fp hN Try.underlying45 4 tyS3 _ (q 6))) rfl (cg (OpJ.storeB (c' := (.st [(i6 x19.fMember), (i6 x20.fMonth), (i6 x70.fVersion), (qe_api_Line_3 p78), (i6 (w64 (s35.2.2.2 + x70.fTotal)))])) tyS3 (SetAt.st1 (f := (i6 s35.2.2.2)) (by rfl) (by rfl) (SetAt.here _ _) (by rfl) (by rfl) (by first | rfl | omega)) (by rfl) (by rfl) (by simp) rfl (q 97) (q 96)) rfl cn))))))) ?_
                  refine blkQ_n ?_
                  refine seqQ_n ?_
                  refine gh [(2, _), (6, _), (70, _), (71, _), (72, _)] [(1002, some _), (1006, some _)] hB rfl rfl (by rfl) ?_
                  refine rg (c (add6 (L rfl) (q 72) (Opd.int .i64 (1))) rfl (c (mv hN (q 98)) rfl cn)) ?_
                  obtain rfl := Option.some.inj h
                  exact ⟨rfl, (Mat.trans (mp [] [(2, (.ptr 1002 0 [])), (6, (.ptr 1006 0 [])), (70, (qe_api_Invoice_5 a0)), (71, (i6 (a0.length : Int))), (72, (i6 (w64 (s35.1 + (1 : Int)))))] [(1002, some (.box 45 (.st [(i6 0), (i6 0), (i6 0), .nils, (i6 0)]))), (1006, some (.box 45 (.st [(i6 x19.fMember), (i6 x20.fMonth), (i6 x70.fVersion), (qe_api_Line_3 p78), (i6 (w64 (s35.2.2.2 + x70.fTotal)))])))] hB) (mp [] _ _ hB))⟩
              · replace h := ite_f hg69 h
                refine AWp.exit ?_
                refine seqQ_e ?_
                obtain rfl := Option.some.inj h
                exact ⟨(fun hc => by cases hc), rfl, (mp [] _ _ hB)⟩
            · obtain ⟨rfl, hmat⟩ := hR
              refine blkQ_hit ?_
              refine seqQ_n ?_
              refine AWp.ghost hmat ?_
              refine AWp.seq ?_
              obtain ⟨r86, hr86, h⟩ := bindS h
              refine sr (c (lb hN 45 _ _ tyS45 (At.here _) (q 6)) rfl (cg (OpJ.callFn hB fnOk23 (exchangepointref41_Consistent_ac (api_Invoice.mk x19.fMember x20.fMonth p68.1 p68.2.1 p68.2.2) r86 hr86) [] (by kernel_rfl) (L rfl) (by kernel_rfl) (OpdL.cons (Opd.tw (q 99) (Tw.leaf ⟨_, (Co.st (CoL.cons (Co.d _) (CoL.cons (Co.d _) (CoL.cons (Co.d _) (CoL.cons (Co.d _) (CoL.cons (Co.d _) CoL.nil)))))), rfl⟩)) OpdL.nil)) rfl (c (OpJ.not (L rfl) (q 100)) rfl cn))) ?_
              refine gh [(2, _), (6, _), (101, _)] [(1002, some _), (1006, some _)] hB rfl rfl (by rfl) ?_
              refine AWp.cond rfl (fun hg87 => ?_) (fun hg87 => ?_)
              · replace h := ite_t hg87 h
                refine sr (c (OpJ.build (places := [(0, 1), (1, 1), (2, 1), (3, 1), (4, 1)]) ⟨Try.underlying45, fun w => by kernel_rfl⟩ tyZS45 Opds.nil (by kernel_rfl) (r := (.st [(i6 0), (i6 0), (i6 0), .nils, (i6 0)])) (by rfl) (L rfl)) rfl (cg (OpJ.storeB tyS45 (SetAt.here _ _) (by rfl) (by rfl) (by simp) rfl (q 2) (q 102)) rfl (c (OpJ.assign (L rfl) (Opd.int .i64 (3))) rfl cn))) ?_
                refine gh [(2, _), (3, _)] [(1002, some _)] hB rfl rfl (by rfl) ?_
                refine AWp.ret ?_
                refine seqQ_r ?_
                obtain rfl := Option.some.inj h
                exact ⟨.inl rfl, _, _, (Mat.trans (Mat.coeP (Ts := []) (Bs := [(1002, some (.box 45 (.d (.st [(.int .i64 0), (.int .i64 0), (.int .i64 0), (.list 3 (([] : List api_Line).map e_api_Line)), (.int .i64 0)]))))]) TwT.nil (TwB.cons (x := (.st [(i6 0), (i6 0), (i6 0), .nils, (i6 0)])) (by rfl) (Tw.leaf ⟨_, (Co.st (CoL.cons (Co.d _) (CoL.cons (Co.d _) (CoL.cons (Co.d _) (CoL.cons (Co.nils 3) (CoL.cons (Co.d _) CoL.nil)))))), rfl⟩) TwB.nil)) (mp [] [(2, (.ptr 1002 0 [])), (3, (i6 (3 : Int)))] [(1002, some (.box 45 (.d (.st [(.int .i64 0), (.int .i64 0), (.int .i64 0), (.list 3 (([] : List api_Line).map e_api_Line)), (.int .i64 0)]))))] hB)), [(.d (.st [(.int .i64 0), (.int .i64 0), (.int .i64 0), (.list 3 (([] : List api_Line).map e_api_Line)), (.int .i64 0)])), (i6 (3 : Int))], (Res.cell (c := (.d (.st [(.int .i64 0), (.int .i64 0), (.int .i64 0), (.list 3 (([] : List api_Line).map e_api_Line)), (.int .i64 0)]))) (by rfl) (by rfl) tyS45 (by rfl) (by rfl) (by rfl) (Res.tmp (by rfl) (by rfl) Res.nil)), rfl, by rfl, by rfl, by rfl⟩
              · replace h := ite_f hg87 h
                refine AWp.skip ?_
                refine seqQ_n ?_
                refine sr (c (lb hN 45 _ _ tyS45 (At.here _) (q 6)) rfl (cg (OpJ.storeB tyS45 (SetAt.here _ _) (by rfl) (by rfl) (by simp) rfl (q 2) (q 103)) rfl (c (OpJ.assign (L rfl) (Opd.int .i64 (0))) rfl cn))) ?_
                refine gh [(2, _), (3, _)] [(1002, some _)] hB rfl rfl (by rfl) ?_
                refine AWp.ret ?_
                obtain rfl := Option.some.inj h
                exact ⟨.inl rfl, _, _, (Mat.trans (Mat.coeP (Ts := []) (Bs := [(1002, some (.box 45 (.d (.st [(.int .i64 x19.fMember), (.int .i64 x20.fMonth), (.int .i64 p68.1), (.list 3 (p68.2.1.map e_api_Line)), (.int .i64 p68.2.2)]))))]) TwT.nil (TwB.cons (x := (.st [(i6 x19.fMember), (i6 x20.fMonth), (i6 p68.1), (qe_api_Line_3 p68.2.1), (i6 p68.2.2)])) (by rfl) (Tw.leaf ⟨_, (Co.st (CoL.cons (Co.d _) (CoL.cons (Co.d _) (CoL.cons (Co.d _) (CoL.cons (Co.d _) (CoL.cons (Co.d _) CoL.nil)))))), rfl⟩) TwB.nil)) (mp [] [(2, (.ptr 1002 0 [])), (3, (i6 0))] [(1002, some (.box 45 (.d (.st [(.int .i64 x19.fMember), (.int .i64 x20.fMonth), (.int .i64 p68.1), (.list 3 (p68.2.1.map e_api_Line)), (.int .i64 p68.2.2)]))))] hB)), [(.d (.st [(.int .i64 x19.fMember), (.int .i64 x20.fMonth), (.int .i64 p68.1), (.list 3 (p68.2.1.map e_api_Line)), (.int .i64 p68.2.2)])), (i6 0)], (Res.cell (c := (.d (.st [(.int .i64 x19.fMember), (.int .i64 x20.fMonth), (.int .i64 p68.1), (.list 3 (p68.2.1.map e_api_Line)), (.int .i64 p68.2.2)]))) (by rfl) (by rfl) tyS45 (by rfl) (by rfl) (by rfl) (Res.tmp (by rfl) (by rfl) Res.nil)), rfl, by rfl, by rfl, by rfl⟩

noncomputable def exchangepointref41_Correct_L0 (r1 : api_Invoice × Int) (s6 : (List api_Line) × Int) : Option ((((List api_Line))) ⊕ ((List api_Line) × Int)) :=
  (if (decide (s6.2 < (r1.1.fLines.length : Int))) = true then
  (idx r1.1.fLines s6.2).bind fun x15 =>
  (exchangepointref41_add s6.1 x15 (-1 : Int)).bind fun r16 =>
  some (.inr (r16, (w64 (s6.2 + (1 : Int)))))
  else
  some (.inl s6.1))
noncomputable def exchangepointref41_Correct_L1 (p13 : (List api_Line)) (s19 : Int × Int × (List api_Line)) : Option (((Int × (List api_Line))) ⊕ (Int × Int × (List api_Line))) :=
  (if (decide (s19.1 < (p13.length : Int))) = true then
  (idx p13 s19.1).bind fun x38 =>
  jn (fun m41 : Int × (List api_Line) =>
  some (.inr ((w64 (s19.1 + (1 : Int))), m41.1, m41.2))) (fun j42 =>
  (if ((x38.fUsed != (0 : Int)) || (x38.fAmount != (0 : Int))) = true then
  chk (decide ((s19.2.2 ++ ([x38] : List api_Line)).length ≤ LIM)) <|
  j42 ((w64 (s19.2.1 + x38.fAmount)), (s19.2.2 ++ ([x38] : List api_Line)))
  else
  j42 (s19.2.1, s19.2.2)))
  else
  some (.inl (s19.2.1, s19.2.2)))
noncomputable def exchangepointref41_Correct (a0 : (List api_Invoice)) (a1 : api_Member) (a2 : api_Tariff) (a3 : (List api_Series)) : Option (api_Invoice × Int) :=
  (exchangepointref41_Sum a0).bind fun r1 =>
  (if (r1.2 != (0 : Int)) = true then
  some ((api_Invoice.mk (0 : Int) (0 : Int) (0 : Int) ([] : List api_Line) (0 : Int)), r1.2)
  else
  (if (a1.fASN != r1.1.fMember) = true then
  some ((api_Invoice.mk (0 : Int) (0 : Int) (0 : Int) ([] : List api_Line) (0 : Int)), (32 : Int))
  else
  (exchangepointref41_Make a1 r1.1.fMonth a2 a3).bind fun r4 =>
  (if (r4.2 != (0 : Int)) = true then
  some ((api_Invoice.mk (0 : Int) (0 : Int) (0 : Int) ([] : List api_Line) (0 : Int)), r4.2)
  else
  (loop (exchangepointref41_Correct_L0 r1) (r4.1.fLines, (0 : Int))).bind fun p13 =>
  (loop (exchangepointref41_Correct_L1 p13) ((0 : Int), (0 : Int), ([] : List api_Line))).bind fun p36 =>
  (if ((p36.2.length : Int) == (0 : Int)) = true then
  some ((api_Invoice.mk (0 : Int) (0 : Int) (0 : Int) ([] : List api_Line) (0 : Int)), (7 : Int))
  else
  (exchangepointref41_Consistent (api_Invoice.mk r1.1.fMember r1.1.fMonth (w64 (r1.1.fVersion + (1 : Int))) p36.2 p36.1)).bind fun r48 =>
  (if (!r48) = true then
  some ((api_Invoice.mk (0 : Int) (0 : Int) (0 : Int) ([] : List api_Line) (0 : Int)), (3 : Int))
  else
  some ((api_Invoice.mk r1.1.fMember r1.1.fMonth (w64 (r1.1.fVersion + (1 : Int))) p36.2 p36.1), (0 : Int)))))))
set_option maxHeartbeats 4000000 in
set_option maxRecDepth 100000 in
theorem exchangepointref41_Correct_ac (a0 : (List api_Invoice)) (a1 : api_Member) (a2 : api_Tariff) (a3 : (List api_Series)) (r : api_Invoice × Int) (h : exchangepointref41_Correct a0 a1 a2 a3 = some r) : AC Try.prog 18 [(.d (.list 5 (a0.map e_api_Invoice))), (.d (e_api_Member a1)), (.d (e_api_Tariff a2)), (.d (.list 4 (a3.map e_api_Series)))] [] (.tup [(.d (e_api_Invoice r.1)), (.d (.int .i64 r.2))]) [] := by
  refine AC.of_code2 Try.func18 rfl rfl (Nat.le_of_ble_eq_true (by rfl)) fun B hB hN => ?_
  have L {d : Nat} (h : Nat.blt d Try.f18.ntmps = true) : d < B.N := ltN hN h
  delta exchangepointref41_Correct at h
  refine sr (cg (OpJ.box hB (nm := 1005) (by decide) (by simp) rfl (L rfl) (q 1)) rfl (cg (OpJ.box hB (nm := 1006) (by decide) (by simp) rfl (L rfl) (q 2)) rfl (cg (OpJ.alloc hB tyZ45 (nm := 1008) (by decide) (L rfl)) rfl (c (OpJ.assign (L rfl) (Opd.int .i64 (0))) rfl cn)))) ?_
  refine gh [(0, _), (3, _), (5, _), (6, _), (8, _)] [(1005, some _), (1006, some _), (1008, some _)] hB rfl rfl (by rfl) ?_
  obtain ⟨r1, hr1, h⟩ := bindS h
  refine sr (c (mv hN (q 0)) rfl (cg (OpJ.callFn hB fnOk20 (exchangepointref41_Sum_ac a0 r1 hr1) [] (by kernel_rfl) (L rfl) (by kernel_rfl) (OpdL.cons (q 20) OpdL.nil)) rfl (c (mv hN (q 21)) rfl (c (OpJ.extract (by rfl) rfl (L rfl) (q 19)) rfl (c (OpJ.extract (by rfl) rfl (L rfl) (q 19)) rfl (cg (OpJ.alloc hB tyZ45 (nm := 1010) (by decide) (L rfl)) rfl (cg (OpJ.storeB tyS45 (SetAt.here _ _) (by rfl) (by rfl) (by simp) rfl (q 10) (q 22)) rfl (c (OpJ.assign (L rfl) (q 23)) rfl cn)))))))) ?_
  refine gh [(3, _), (5, _), (6, _), (8, _), (10, _), (11, _)] [(1005, some _), (1006, some _), (1008, some _), (1010, some _)] hB rfl rfl (by rfl) ?_
  refine AWp.seq ?_
  refine sr (c (mv hN (q 11)) rfl (c (OpJ.neqI (L rfl) (q 24) (Opd.int .i64 (0))) rfl cn)) ?_
  refine gh [(3, _), (5, _), (6, _), (8, _), (10, _), (11, _), (25, _)] [(1005, some _), (1006, some _), (1008, some _), (1010, some _)] hB rfl rfl (by rfl) ?_
  refine AWp.cond rfl (fun hg2 => ?_) (fun hg2 => ?_)
  · replace h := ite_t hg2 h
    refine sr (c (OpJ.build (places := [(0, 1), (1, 1), (2, 1), (3, 1), (4, 1)]) ⟨Try.underlying45, fun w => by kernel_rfl⟩ tyZS45 Opds.nil (by kernel_rfl) (r := (.st [(i6 0), (i6 0), (i6 0), .nils, (i6 0)])) (by rfl) (L rfl)) rfl (c (mv hN (q 11)) rfl (cg (OpJ.storeB tyS45 (SetAt.here _ _) (by rfl) (by rfl) (by simp) rfl (q 8) (q 26)) rfl (c (OpJ.assign (L rfl) (q 27)) rfl cn)))) ?_
    refine gh [(8, _), (9, _)] [(1008, some _)] hB rfl rfl (by rfl) ?_
    refine AWp.ret ?_
    refine seqQ_r ?_
    obtain rfl := Option.some.inj h
    exact ⟨.inl rfl, _, _, (Mat.trans (Mat.coeP (Ts := []) (Bs := [(1008, some (.box 45 (.d (.st [(.int .i64 0), (.int .i64 0), (.int .i64 0), (.list 3 (([] : List api_Line).map e_api_Line)), (.int .i64 0)]))))]) TwT.nil (TwB.cons (x := (.st [(i6 0), (i6 0), (i6 0), .nils, (i6 0)])) (by rfl) (Tw.leaf ⟨_, (Co.st (CoL.cons (Co.d _) (CoL.cons (Co.d _) (CoL.cons (Co.d _) (CoL.cons (Co.nils 3) (CoL.cons (Co.d _) CoL.nil)))))), rfl⟩) TwB.nil)) (mp [] [(8, (.ptr 1008 0 [])), (9, (i6 r1.2))] [(1008, some (.box 45 (.d (.st [(.int .i64 0), (.int .i64 0), (.int .i64 0), (.list 3 (([] : List api_Line).map e_api_Line)), (.int .i64 0)]))))] hB)), [(.d (.st [(.int .i64 0), (.int .i64 0), (.int .i64 0), (.list 3 (([] : List api_Line).map e_api_Line)), (.int .i64 0)])), (i6 r1.2)], (Res.cell (c := (.d (.st [(.int .i64 0), (.int .i64 0), (.int .i64 0), (.list 3 (([] : List api_Line).map e_api_Line)), (.int .i64 0)]))) (by rfl) (by rfl) tyS45 (by rfl) (by rfl) (by rfl) (Res.tmp (by rfl) (by rfl) Res.nil)), rfl, by rfl, by rfl, by rfl⟩
  · replace h := ite_f hg2 h
    refine AWp.skip ?_
    refine seqQ_n ?_
    refine AWp.seq ?_
    refine sr (c (ov (.ptr 1005 0 [0]) (fp hN Try.underlying24 0 tyS3 _ (q 5))) rfl (c (lb hN 24 _ _ tyS3 (ad _) (q 28)) rfl (c (ov (.ptr 1010 0 [0]) (fp hN Try.underlying45 0 tyS3 _ (q 10))) rfl (c (lb hN 45 _ _ tyS3 (ad _) (q 30)) rfl (c (OpJ.neqI (L rfl) (q 29) (q 31)) rfl cn))))) ?_
    refine gh [(3, _), (5, _), (6, _), (8, _), (10, _), (32, _)] [(1005, some _), (1006, some _), (1008, some _), (1010, some _)] hB rfl rfl (by rfl) ?_
    refine AWp.cond rfl (fun hg3 => ?_) (fun hg3 => ?_)
    · replace h := ite_t hg3 h
      refine sr (c (OpJ.build (places := [(0, 1), (1, 1), (2, 1), (3, 1), (4, 1)]) ⟨Try.underlying45, fun w => by kernel_rfl⟩ tyZS45 Opds.nil (by kernel_rfl) (r := (.st [(i6 0), (i6 0), (i6 0), .nils, (i6 0)])) (by rfl) (L rfl)) rfl (cg (OpJ.storeB tyS45 (SetAt.here _ _) (by rfl) (by rfl) (by simp) rfl (q 8) (q 33)) rfl (c (OpJ.assign (L rfl) (Opd.int .i64 (32))) rfl cn))) ?_
      refine gh [(8, _), (9, _)] [(1008, some _)] hB rfl rfl (by rfl) ?_
      refine AWp.ret ?_
      refine seqQ_r ?_
      obtain rfl := Option.some.inj h
      exact ⟨.inl rfl, _, _, (Mat.trans (Mat.coeP (Ts := []) (Bs := [(1008, some (.box 45 (.d (.st [(.int .i64 0), (.int .i64 0), (.int .i64 0), (.list 3 (([] : List api_Line).map e_api_Line)), (.int .i64 0)]))))]) TwT.nil (TwB.cons (x := (.st [(i6 0), (i6 0), (i6 0), .nils, (i6 0)])) (by rfl) (Tw.leaf ⟨_, (Co.st (CoL.cons (Co.d _) (CoL.cons (Co.d _) (CoL.cons (Co.d _) (CoL.cons (Co.nils 3) (CoL.cons (Co.d _) CoL.nil)))))), rfl⟩) TwB.nil)) (mp [] [(8, (.ptr 1008 0 [])), (9, (i6 (32 : Int)))] [(1008, some (.box 45 (.d (.st [(.int .i64 0), (.int .i64 0), (.int .i64 0), (.list 3 (([] : List api_Line).map e_api_Line)), (.int .i64 0)]))))] hB)), [(.d (.st [(.int .i64 0), (.int .i64 0), (.int .i64 0), (.list 3 (([] : List api_Line).map e_api_Line)), (.int .i64 0)])), (i6 (32 : Int))], (Res.cell (c := (.d (.st [(.int .i64 0), (.int .i64 0), (.int .i64 0), (.list 3 (([] : List api_Line).map e_api_Line)), (.int .i64 0)]))) (by rfl) (by rfl) tyS45 (by rfl) (by rfl) (by rfl) (Res.tmp (by rfl) (by rfl) Res.nil)), rfl, by rfl, by rfl, by rfl⟩
    · replace h := ite_f hg3 h
      refine AWp.skip ?_
      refine seqQ_n ?_
      obtain ⟨r4, hr4, h⟩ := bindS h
      refine sr (c (lb hN 24 _ _ tyS24 (At.here _) (q 5)) rfl (c (ov (.ptr 1010 1 [1]) (fp hN Try.underlying45 1 tyS3 _ (q 10))) rfl (c (lb hN 45 _ _ tyS3 (ad _) (q 36)) rfl (c (lb hN 27 _ _ tyS27 (At.here _) (q 6)) rfl (c (mv hN (q 3)) rfl (cg (OpJ.callFn hB fnOk14 (exchangepointref41_Make_ac a1 r1.1.fMonth a2 a3 r4 hr4) [] (by kernel_rfl) (L rfl) (by kernel_rfl) (OpdL.cons (q 35) (OpdL.cons (q 37) (OpdL.cons (q 38) (OpdL.cons (q 39) OpdL.nil))))) rfl (c (mv hN (q 40)) rfl (c (OpJ.extract (by rfl) rfl (L rfl) (q 34)) rfl (c (OpJ.extract (by rfl) rfl (L rfl) (q 34)) rfl (cg (OpJ.alloc hB tyZ45 (nm := 1012) (by decide) (L rfl)) rfl (cg (OpJ.storeB tyS45 (SetAt.here _ _) (by rfl) (by rfl) (by simp) rfl (q 12) (q 41)) rfl (c (OpJ.assign (L rfl) (q 42)) rfl cn)))))))))))) ?_
      refine gh [(8, _), (10, _), (11, _), (12, _)] [(1008, some _), (1010, some _), (1012, some _)] hB rfl rfl (by rfl) ?_
      refine AWp.seq ?_
      refine sr (c (mv hN (q 11)) rfl (c (OpJ.neqI (L rfl) (q 43) (Opd.int .i64 (0))) rfl cn)) ?_
      refine gh [(8, _), (10, _), (11, _), (12, _), (44, _)] [(1008, some _), (1010, some _), (1012, some _)] hB rfl rfl (by rfl) ?_
      refine AWp.cond rfl (fun hg5 => ?_) (fun hg5 => ?_)
      · replace h := ite_t hg5 h
        refine sr (c (OpJ.build (places := [(0, 1), (1, 1), (2, 1), (3, 1), (4, 1)]) ⟨Try.underlying45, fun w => by kernel_rfl⟩ tyZS45 Opds.nil (by kernel_rfl) (r := (.st [(i6 0), (i6 0), (i6 0), .nils, (i6 0)])) (by rfl) (L rfl)) rfl (c (mv hN (q 11)) rfl (cg (OpJ.storeB tyS45 (SetAt.here _ _) (by rfl) (by rfl) (by simp) rfl (q 8) (q 45)) rfl (c (OpJ.assign (L rfl) (q 46)) rfl cn)))) ?_
        refine gh [(8, _), (9, _)] [(1008, some _)] hB rfl rfl (by rfl) ?_
        refine AWp.ret ?_
        refine seqQ_r ?_
        obtain rfl := Option.some.inj h
        exact ⟨.inl rfl, _, _, (Mat.trans (Mat.coeP (Ts := []) (Bs := [(1008, some (.box 45 (.d (.st [(.int .i64 0), (.int .i64 0), (.int .i64 0), (.list 3 (([] : List api_Line).map e_api_Line)), (.int .i64 0)]))))]) TwT.nil (TwB.cons (x := (.st [(i6 0), (i6 0), (i6 0), .nils, (i6 0)])) (by rfl) (Tw.leaf ⟨_, (Co.st (CoL.cons (Co.d _) (CoL.cons (Co.d _) (CoL.cons (Co.d _) (CoL.cons (Co.nils 3) (CoL.cons (Co.d _) CoL.nil)))))), rfl⟩) TwB.nil)) (mp [] [(8, (.ptr 1008 0 [])), (9, (i6 r4.2))] [(1008, some (.box 45 (.d (.st [(.int .i64 0), (.int .i64 0), (.int .i64 0), (.list 3 (([] : List api_Line).map e_api_Line)), (.int .i64 0)]))))] hB)), [(.d (.st [(.int .i64 0), (.int .i64 0), (.int .i64 0), (.list 3 (([] : List api_Line).map e_api_Line)), (.int .i64 0)])), (i6 r4.2)], (Res.cell (c := (.d (.st [(.int .i64 0), (.int .i64 0), (.int .i64 0), (.list 3 (([] : List api_Line).map e_api_Line)), (.int .i64 0)]))) (by rfl) (by rfl) tyS45 (by rfl) (by rfl) (by rfl) (Res.tmp (by rfl) (by rfl) Res.nil)), rfl, by rfl, by rfl, by rfl⟩
      · replace h := ite_f hg5 h
        refine AWp.skip ?_
        refine seqQ_n ?_
        refine sr (c (ov (.ptr 1012 3 [3]) (fp hN Try.underlying45 3 tyS43 _ (q 12))) rfl (c (lb hN 45 _ _ tyS43 (ad _) (q 47)) rfl (c (OpJ.assign (L rfl) (q 48)) rfl cn))) ?_
        refine gh [(8, _), (10, _), (13, _)] [(1008, some _), (1010, some _)] hB rfl rfl (by rfl) ?_
        refine AWp.seq ?_
        refine sr (c (ov (.ptr 1010 3 [3]) (fp hN Try.underlying45 3 tyS43 _ (q 10))) rfl (c (lb hN 45 _ _ tyS43 (ad _) (q 49)) rfl (c (OpJ.val (v' := (i6 (r1.1.fLines.length : Int))) (by simp) (OpJ.lenD Try.underlying43 (L rfl) (q 50))) rfl (c (mv hN (Opd.int .i64 (0))) rfl cn)))) ?_
        refine gh [(8, _), (10, _), (13, _), (50, _), (51, _), (52, _)] [(1008, some _), (1010, some _)] hB rfl rfl (by rfl) ?_
        refine AWp.block ?_
        obtain ⟨p13, hx18, h⟩ := bindS h
        refine lg (exchangepointref41_Correct_L0 r1) (fun s6 : (List api_Line) × Int => ([(8, (.ptr 1008 0 [])), (10, (.ptr 1010 0 [])), (13, (qe_api_Line_3 s6.1)), (50, (qe_api_Line_3 r1.1.fLines)), (51, (i6 (r1.1.fLines.length : Int))), (52, (i6 s6.2))] : EL)) (fun s6 : (List api_Line) × Int => ([(1008, some (.box 45 (.st [(i6 0), (i6 0), (i6 0), .nils, (i6 0)]))), (1010, some (.box 45 (.d (e_api_Invoice r1.1))))] : OL)) (fun (p13 : ((List api_Line))) e E' O' => e = .exit 0 ∧ Mat B E' O' ([(8, (.ptr 1008 0 [])), (10, (.ptr 1010 0 [])), (13, (qe_api_Line_3 p13))] : EL) ([(1008, some (.box 45 (.st [(i6 0), (i6 0), (i6 0), .nils, (i6 0)]))), (1010, some (.box 45 (.d (e_api_Invoice r1.1))))] : OL)) hx18 (mp [] _ _ hB) (fun s6 y h => ?_) (fun e E' O' hR => ?_)
        · unfold exchangepointref41_Correct_L0 at h
          refine sr (c (OpJ.lss (L rfl) (q 52) (q 51)) rfl cn) ?_
          refine gh [(8, _), (10, _), (13, _), (50, _), (51, _), (52, _), (53, _)] [(1008, some _), (1010, some _)] hB rfl rfl (by rfl) ?_
          refine AWp.seq ?_
          refine AWp.cond rfl (fun hg14 => ?_) (fun hg14 => ?_)
          · replace h := ite_t hg14 h
            refine AWp.skip ?_
            refine seqQ_n ?_
            refine AWp.seq ?_
            refine AWp.block ?_
            obtain ⟨x15, hx15, h⟩ := bindS h
            refine sr (c (OpJ.indexD Try.underlying43 tyS51 (idx_some hx15).1 (get_map e_api_Line (idx_some hx15).2) (L rfl) (q 50) (q 52)) rfl (c (OpJ.loadD tyS51 (by rfl) (by rfl) (L rfl) (q 54)) rfl (cg (OpJ.alloc hB tyZ51 (nm := 1015) (by decide) (L rfl)) rfl (cg (OpJ.storeB tyS51 (SetAt.here _ _) (by rfl) (by rfl) (by simp) rfl (q 15) (q 55)) rfl cn)))) ?_
            refine gh [(8, _), (10, _), (13, _), (15, _), (50, _), (51, _), (52, _)] [(1008, some _), (1010, some _), (1015, some _)] hB rfl rfl (by rfl) ?_
            obtain ⟨r16, hr16, h⟩ := bindS h
            refine rg (c (mv hN (q 13)) rfl (c (lb hN 51 _ _ tyS51 (At.here _) (q 15)) rfl (cg (OpJ.callFn hB fnOk40 (exchangepointref41_add_ac s6.1 x15 (-1 : Int) r16 hr16) [] (by kernel_rfl) (L rfl) (by kernel_rfl) (OpdL.cons (q 56) (OpdL.cons (q 57) (OpdL.cons (Opd.int .i64 (-1)) OpdL.nil)))) rfl (c (OpJ.assign (L rfl) (q 58)) rfl cn)))) ?_
            refine blkQ_n ?_
            refine seqQ_n ?_
            refine gh [(8, _), (10, _), (13, _), (50, _), (51, _), (52, _)] [(1008, some _), (1010, some _)] hB rfl rfl (by rfl) ?_
            refine rg (c (add6 (L rfl) (q 52) (Opd.int .i64 (1))) rfl (c (mv hN (q 59)) rfl cn)) ?_
            obtain rfl := Option.some.inj h
            exact ⟨rfl, (Mat.trans (mp [] [(8, (.ptr 1008 0 [])), (10, (.ptr 1010 0 [])), (13, (qe_api_Line_3 r16)), (50, (qe_api_Line_3 r1.1.fLines)), (51, (i6 (r1.1.fLines.length : Int))), (52, (i6 (w64 (s6.2 + (1 : Int)))))] [(1008, some (.box 45 (.st [(i6 0), (i6 0), (i6 0), .nils, (i6 0)]))), (1010, some (.box 45 (.d (e_api_Invoice r1.1))))] hB) (mp [] _ _ hB))⟩
          · replace h := ite_f hg14 h
            refine AWp.exit ?_
            refine seqQ_e ?_
            obtain rfl := Option.some.inj h
            exact ⟨(fun hc => by cases hc), rfl, (mp [] _ _ hB)⟩
        · obtain ⟨rfl, hmat⟩ := hR
          refine blkQ_hit ?_
          refine seqQ_n ?_
          refine AWp.ghost hmat ?_
          refine sr (c (ov (.ptr 1010 0 [0]) (fp hN Try.underlying45 0 tyS3 _ (q 10))) rfl (c (lb hN 45 _ _ tyS3 (ad _) (q 60)) rfl (c (ov (.ptr 1010 1 [1]) (fp hN Try.underlying45 1 tyS3 _ (q 10))) rfl (c (lb hN 45 _ _ tyS3 (ad _) (q 62)) rfl (c (ov (.ptr 1010 2 [2]) (fp hN Try.underlying45 2 tyS3 _ (q 10))) rfl (c (lb hN 45 _ _ tyS3 (ad _) (q 64)) rfl (c (add6 (L rfl) (q 65) (Opd.int .i64 (1))) rfl (c (OpJ.build (places := [(0, 1), (1, 1), (2, 1), (3, 1), (4, 1)]) ⟨Try.underlying45, fun w => by kernel_rfl⟩ tyZS45 (Opds.cons (q 61) (Opds.cons (q 63) (Opds.cons (q 66) Opds.nil))) (by kernel_rfl) (r := (.st [(i6 r1.1.fMember), (i6 r1.1.fMonth), (i6 (w64 (r1.1.fVersion + (1 : Int)))), .nils, (i6 0)])) (by rfl) (L rfl)) rfl (cg (OpJ.alloc hB tyZ45 (nm := 1016) (by decide) (L rfl)) rfl (cg (OpJ.storeB tyS45 (SetAt.here _ _) (by rfl) (by rfl) (by simp) rfl (q 16) (q 67)) rfl cn)))))))))) ?_
          refine gh [(8, _), (13, _), (16, _)] [(1008, some _), (1016, some _)] hB rfl rfl (by rfl) ?_
          refine AWp.seq ?_
          refine sr (c (mv hN (q 13)) rfl (c (OpJ.val (v' := (i6 (p13.length : Int))) (by simp) (OpJ.lenD Try.underlying43 (L rfl) (q 68))) rfl (c (mv hN (Opd.int .i64 (0))) rfl cn))) ?_
          refine gh [(8, _), (16, _), (68, _), (69, _), (70, _)] [(1008, some _), (1016, some _)] hB rfl rfl (by rfl) ?_
          refine AWp.block ?_
          obtain ⟨p36, hx46, h⟩ := bindS h
          refine lg (exchangepointref41_Correct_L1 p13) (fun s19 : Int × Int × (List api_Line) => ([(8, (.ptr 1008 0 [])), (16, (.ptr 1016 0 [])), (68, (qe_api_Line_3 p13)), (69, (i6 (p13.length : Int))), (70, (i6 s19.1))] : EL)) (fun s19 : Int × Int × (List api_Line) => ([(1008, some (.box 45 (.st [(i6 0), (i6 0), (i6 0), .nils, (i6 0)]))), (1016, some (.box 45 (.st [(i6 r1.1.fMember), (i6 r1.1.fMonth), (i6 (w64 (r1.1.fVersion + (1 : Int)))), (.sref 13163 3 0 s19.2.2.length), (i6 s19.2.1)]))), (13163, some (we_api_Line_51_3 s19.2.2))] : OL)) (fun (p36 : (Int × (List api_Line))) e E' O' => e = .exit 2 ∧ Mat B E' O' ([(8, (.ptr 1008 0 [])), (16, (.ptr 1016 0 []))] : EL) ([(1008, some (.box 45 (.st [(i6 0), (i6 0), (i6 0), .nils, (i6 0)]))), (1016, some (.box 45 (.st [(i6 r1.1.fMember), (i6 r1.1.fMonth), (i6 (w64 (r1.1.fVersion + (1 : Int)))), (.sref 13163 3 0 p36.2.length), (i6 p36.1)]))), (13163, some (we_api_Line_51_3 p36.2))] : OL)) hx46 (Mat.trans (Mat.beginP (n := 13163) (e := 51) (sz := 3) (Ts := []) (Bs := [(1016, some (.box 45 (.st [(i6 r1.1.fMember), (i6 r1.1.fMonth), (i6 (w64 (r1.1.fVersion + (1 : Int)))), (.sref 13163 3 0 0), (i6 0)])))]) hB (by decide) (by rfl) (by decide) TwT.nil (TwB.cons (x := (.st [(i6 r1.1.fMember), (i6 r1.1.fMonth), (i6 (w64 (r1.1.fVersion + (1 : Int)))), .nils, (i6 0)])) (by rfl) (Tw.st (TwL.cons (Tw.same _) (TwL.cons (Tw.same _) (TwL.cons (Tw.same _) (TwL.cons (Tw.leaf ⟨rfl, rfl⟩) (TwL.cons (Tw.same _) TwL.nil)))))) TwB.nil)) (mp [] _ _ hB)) (fun s19 y h => ?_) (fun e E' O' hR => ?_)
          · unfold exchangepointref41_Correct_L1 at h
            refine sr (c (OpJ.lss (L rfl) (q 70) (q 69)) rfl cn) ?_
            refine gh [(8, _), (16, _), (68, _), (69, _), (70, _), (71, _)] [(1008, some _), (1016, some _), (13163, some _)] hB rfl rfl (by rfl) ?_
            refine AWp.seq ?_
            refine AWp.cond rfl (fun hg37 => ?_) (fun hg37 => ?_)
            · replace h := ite_t hg37 h
              refine AWp.skip ?_
              refine seqQ_n ?_
              refine AWp.seq ?_
              refine AWp.block ?_
              obtain ⟨x38, hx38, h⟩ := bindS h
              refine sr (c (OpJ.indexD Try.underlying43 tyS51 (idx_some hx38).1 (get_map e_api_Line (idx_some hx38).2) (L rfl) (q 68) (q 70)) rfl (c (OpJ.loadD tyS51 (by rfl) (by rfl) (L rfl) (q 72)) rfl (cg (OpJ.alloc hB tyZ51 (nm := 1018) (by decide) (L rfl)) rfl (cg (OpJ.storeB tyS51 (SetAt.here _ _) (by rfl) (by rfl) (by simp) rfl (q 18) (q 73)) rfl cn)))) ?_
              refine gh [(8, _), (16, _), (18, _), (68, _), (69, _), (70, _)] [(1008, some _), (1016, some _), (1018, some _), (13163, some _)] hB rfl rfl (by rfl) ?_
              refine sr (c (ov (.ptr 1018 1 [1]) (fp hN Try.underlying51 1 tyS3 _ (q 18))) rfl (c (lb hN 51 _ _ tyS3 (ad _) (q 74)) rfl (c (OpJ.neqI (L rfl) (q 75) (Opd.int .i64 (0))) rfl (c (mv hN (q 76)) rfl (c (oq hN 77 (ov (.ptr 1018 2 [2]) (fp hN Try.underlying51 2 tyS3 _ (q 18))) (OptL.keep (by rfl) OptL.nil) (GuardV.plain _)) rfl (c (oq hN 77 (lb hN 51 _ _ tyS3 (ad _) (q 78)) (OptL.opt OptL.nil) (GuardV.plain _)) rfl (c (oq hN 77 (OpJ.neqI (L rfl) (q 79) (Opd.int .i64 (0))) (OptL.opt OptL.nil) (GuardV.plain _)) rfl (c (OpJ.pickOr rfl (L rfl) (q 77) (q 80)) rfl cn)))))))) ?_
              refine gh [(8, _), (16, _), (18, _), (68, _), (69, _), (70, _), (81, _)] [(1008, some _), (1016, some _), (1018, some _), (13163, some _)] hB rfl rfl (by rfl) ?_
              refine AWp.cut h (fun m41 : Int × (List api_Line) => ([(8, (.ptr 1008 0 [])), (16, (.ptr 1016 0 [])), (68, (qe_api_Line_3 p13)), (69, (i6 (p13.length : Int))), (70, (i6 s19.1))] : EL)) (fun m41 : Int × (List api_Line) => ([(1008, some (.box 45 (.st [(i6 0), (i6 0), (i6 0), .nils, (i6 0)]))), (1016, some (.box 45 (.st [(i6 r1.1.fMember), (i6 r1.1.fMonth), (i6 (w64 (r1.1.fVersion + (1 : Int)))), (.sref 13163 3 0 m41.2.length), (i6 m41.1)]))), (13163, some (we_api_Line_51_3 m41.2))] : OL)) (fun m41 h E' O' hmat => ?_) (fun j42 hjj42 h => ?_)
              · refine blkQ_n ?_
                refine seqQ_n ?_
                refine AWp.ghost hmat ?_
                refine rg (c (add6 (L rfl) (q 70) (Opd.int .i64 (1))) rfl (c (mv hN (q 94)) rfl cn)) ?_
                obtain rfl := Option.some.inj h
                exact ⟨rfl, (Mat.trans (mp [] [(8, (.ptr 1008 0 [])), (16, (.ptr 1016 0 [])), (68, (qe_api_Line_3 p13)), (69, (i6 (p13.length : Int))), (70, (i6 (w64 (s19.1 + (1 : Int)))))] [(1008, some (.box 45 (.st [(i6 0), (i6 0), (i6 0), .nils, (i6 0)]))), (1016, some (.box 45 (.st [(i6 r1.1.fMember), (i6 r1.1.fMonth), (i6 (w64 (r1.1.fVersion + (1 : Int)))), (.sref 13163 3 0 m41.2.length), (i6 m41.1)]))), (13163, some (we_api_Line_51_3 m41.2))] hB) (mp [] _ _ hB))⟩
              · refine AWp.cond rfl (fun hg43 => ?_) (fun hg43 => ?_)
                · replace h := ite_t hg43 h
                  obtain ⟨hc44, h⟩ := chk_some h
                  refine sr (c (ov (.ptr 1016 3 [3]) (fp hN Try.underlying45 3 tyS43 _ (q 16))) rfl (c (lb hN 45 _ (.sref 13163 3 0 s19.2.2.length) tyS43 (At.st1 (f := (.sref 13163 3 0 s19.2.2.length)) (by rfl) (by rfl) (At.here _) (by first | rfl | omega)) (q 82)) rfl (c (lb hN 51 _ _ tyS51 (At.here _) (q 18)) rfl (c (OpJ.buildSlice Try.underlying43 tyS51 tyZD51 (by rfl) (by decide) (by decide) (Opds.cons (q 84) Opds.nil) (by kernel_rfl) (es := ([(e_api_Line x38)] : List D)) (by rfl) (by rfl) (by kernel_rfl) (by simp) (L rfl)) rfl (cg (OpJ.append hB Try.underlying43 tyE51 (nm := 1086) (by decide) (es := s19.2.2.map e_api_Line) (ys := ([x38] : List api_Line).map e_api_Line) (es' := (s19.2.2 ++ ([x38] : List api_Line)).map e_api_Line) (len := (s19.2.2 ++ ([x38] : List api_Line)).length) (by simp) (by simp) (map_sz (f := e_api_Line) (fun _ => rfl)) (by rw [List.length_map]; exact lim_mulN hc44 (by decide)) (by rw [List.length_map]; exact lim_leN hc44) (L rfl) (by simp) (q 83) (q 85)) rfl (c (ov (.ptr 1016 3 [3]) (fp hN Try.underlying45 3 tyS43 _ (q 16))) rfl (cg (OpJ.storeB (c' := (.st [(i6 r1.1.fMember), (i6 r1.1.fMonth), (i6 (w64 (r1.1.fVersion + (1 : Int)))), (.sref 1086 3 0 ((s19.2.2 ++ ([x38] : List api_Line)).length)), (i6 s19.2.1)])) tyS43 (SetAt.st1 (f := (.sref 13163 3 0 s19.2.2.length)) (by rfl) (by rfl) (SetAt.here _ _) (by rfl) (by rfl) (by first | rfl | omega)) (by rfl) (by rfl) (by simp) rfl (q 87) (q 86)) rfl cn))))))) ?_
                  refine gh [(8, _), (16, _), (18, _), (68, _), (69, _), (70, _)] [(1008, some _), (1016, some _), (1018, some _), (1086, some _)] hB rfl rfl (by rfl) ?_
                  refine rg (c (ov (.ptr 1016 4 [4]) (fp hN Try.underlying45 4 tyS3 _ (q 16))) rfl (c (lb hN 45 _ (i6 s19.2.1) tyS3 (At.st1 (f := (i6 s19.2.1)) (by rfl) (by rfl) (At.here _) (by first | rfl | omega)) (q 88)) rfl (c (ov (.ptr 1018 2 [2]) (fp hN Try.underlying51 2 tyS3 _ (q 18))) rfl (c (lb hN 51 _ _ tyS3 (ad _) (q 90)) rfl (c (add6 (L rfl) (q 89) (q 91)) rfl (c (ov (.ptr 1016 4 [4]) (fp hN Try.underlying45 4 tyS3 _ (q 16))) rfl (cg (OpJ.storeB (c' := (.st [(i6 r1.1.fMember), (i6 r1.1.fMonth), (i6 (w64 (r1.1.fVersion + (1 : Int)))), (.sref 1086 3 0 ((s19.2.2 ++ ([x38] : List api_Line)).length)), (i6 (w64 (s19.2.1 + x38.fAmount)))])) tyS3 (SetAt.st1 (f := (i6 s19.2.1)) (by rfl) (by rfl) (SetAt.here _ _) (by rfl) (by rfl) (by first | rfl | omega)) (by rfl) (by rfl) (by simp) rfl (q 93) (q 92)) rfl cn))))))) ?_
                  exact hjj42 _ h _ _ (Mat.trans (mp [] [(8, (.ptr 1008 0 [])), (16, (.ptr 1016 0 [])), (68, (qe_api_Line_3 p13)), (69, (i6 (p13.length : Int))), (70, (i6 s19.1))] [(1008, some (.box 45 (.st [(i6 0), (i6 0), (i6 0), .nils, (i6 0)]))), (1016, some (.box 45 (.st [(i6 r1.1.fMember), (i6 r1.1.fMonth), (i6 (w64 (r1.1.fVersion + (1 : Int)))), (.sref 1086 3 0 ((s19.2.2 ++ ([x38] : List api_Line)).length)), (i6 (w64 (s19.2.1 + x38.fAmount)))]))), (1086, some (we_api_Line_51_3 (s19.2.2 ++ ([x38] : List api_Line))))] hB) (mp [(13163, 1086)] _ _ hB))
                · replace h := ite_f hg43 h
                  refine AWp.skip ?_
                  exact hjj42 _ h _ _ (mp [] _ _ hB)
            · replace h := ite_f hg37 h
              refine AWp.exit ?_
              refine seqQ_e ?_
              obtain rfl := Option.some.inj h
              exact ⟨(fun hc => by cases hc), rfl, (mp [] _ _ hB)⟩
          · obtain ⟨rfl, hmat⟩ := hR
            refine blkQ_hit ?_
            refine seqQ_n ?_
            refine AWp.ghost hmat ?_
            refine AWp.seq ?_
            refine sr (c (ov (.ptr 1016 3 [3]) (fp hN Try.underlying45 3 tyS43 _ (q 16))) rfl (c (lb hN 45 _ (.sref 13163 3 0 p36.2.length) tyS43 (At.st1 (f := (.sref 13163 3 0 p36.2.length)) (by rfl) (by rfl) (At.here _) (by first | rfl | omega)) (q 95)) rfl (c (OpJ.lenS Try.underlying43 (L rfl) (q 96)) rfl (c (OpJ.eqlI (L rfl) (q 97) (Opd.int .i64 (0))) rfl cn)))) ?_
            refine gh [(8, _), (16, _), (98, _)] [(1008, some _), (1016, some _), (13163, some _)] hB rfl rfl (by rfl) ?_
            refine AWp.cond rfl (fun hg47 => ?_) (fun hg47 => ?_)
            · replace h := ite_t hg47 h
              refine sr (c (OpJ.build (places := [(0, 1), (1, 1), (2, 1), (3, 1), (4, 1)]) ⟨Try.underlying45, fun w => by kernel_rfl⟩ tyZS45 Opds.nil (by kernel_rfl) (r := (.st [(i6 0), (i6 0), (i6 0), .nils, (i6 0)])) (by rfl) (L rfl)) rfl (cg (OpJ.storeB tyS45 (SetAt.here _ _) (by rfl) (by rfl) (by simp) rfl (q 8) (q 99)) rfl (c (OpJ.assign (L rfl) (Opd.int .i64 (7))) rfl cn))) ?_
              refine gh [(8, _), (9, _)] [(1008, some _)] hB rfl rfl (by rfl) ?_
              refine AWp.ret ?_
              refine seqQ_r ?_
              obtain rfl := Option.some.inj h
              exact ⟨.inl rfl, _, _, (Mat.trans (Mat.coeP (Ts := []) (Bs := [(1008, some (.box 45 (.d (.st [(.int .i64 0), (.int .i64 0), (.int .i64 0), (.list 3 (([] : List api_Line).map e_api_Line)), (.int .i64 0)]))))]) TwT.nil (TwB.cons (x := (.st [(i6 0), (i6 0), (i6 0), .nils, (i6 0)])) (by rfl) (Tw.leaf ⟨_, (Co.st (CoL.cons (Co.d _) (CoL.cons (Co.d _) (CoL.cons (Co.d _) (CoL.cons (Co.nils 3) (CoL.cons (Co.d _) CoL.nil)))))), rfl⟩) TwB.nil)) (mp [] [(8, (.ptr 1008 0 [])), (9, (i6 (7 : Int)))] [(1008, some (.box 45 (.d (.st [(.int .i64 0), (.int .i64 0), (.int .i64 0), (.list 3 (([] : List api_Line).map e_api_Line)), (.int .i64 0)]))))] hB)), [(.d (.st [(.int .i64 0), (.int .i64 0), (.int .i64 0), (.list 3 (([] : List api_Line).map e_api_Line)), (.int .i64 0)])), (i6 (7 : Int))], (Res.cell (c := (.d (.st [(.int .i64 0), (.int .i64 0), (.int .i64 0), (.list 3 (([] : List api_Line).map e_api_Line)), (.int .i64 0)]))) (by rfl) (by rfl) tyS45 (by rfl) (by rfl) (by rfl) (Res.tmp (by rfl) (by rfl) Res.nil)), rfl, by rfl, by rfl, by rfl⟩
            · replace h := ite_f hg47 h
              refine AWp.skip ?_
              refine seqQ_n ?_
              refine AWp.seq ?_
              refine AWp.seq ?_
              refine AWp.ghost (Mat.freezeP (n := 13163) (e := 51) (sz := 3) (es := p36.2.map e_api_Line) (Ts := []) (Bs := [(1016, some (.box 45 (.st [(i6 r1.1.fMember), (i6 r1.1.fMonth), (i6 (w64 (r1.1.fVersion + (1 : Int)))), (qe_api_Line_3 p36.2), (i6 p36.1)])))]) (by rfl) TwT.nil (TwB.cons (x := (.st [(i6 r1.1.fMember), (i6 r1.1.fMonth), (i6 (w64 (r1.1.fVersion + (1 : Int)))), (.sref 13163 3 0 p36.2.length), (i6 p36.1)])) (by rfl) (Tw.st (TwL.cons (Tw.same _) (TwL.cons (Tw.same _) (TwL.cons (Tw.same _) (TwL.cons (FrzL.all (by first | rfl | (simp; done) | (simp; omega))) (TwL.cons (Tw.same _) TwL.nil)))))) TwB.nil)) ?_
              obtain ⟨r48, hr48, h⟩ := bindS h
              refine rg (c (lb hN 45 _ _ tyS45 (At.here _) (q 16)) rfl (cg (OpJ.callFn hB fnOk23 (exchangepointref41_Consistent_ac (api_Invoice.mk r1.1.fMember r1.1.fMonth (w64 (r1.1.fVersion + (1 : Int))) p36.2 p36.1) r48 hr48) [] (by kernel_rfl) (L rfl) (by kernel_rfl) (OpdL.cons (Opd.tw (q 100) (Tw.leaf ⟨_, (Co.st (CoL.cons (Co.d _) (CoL.cons (Co.d _) (CoL.cons (Co.d _) (CoL.cons (Co.d _) (CoL.cons (Co.d _) CoL.nil)))))), rfl⟩)) OpdL.nil)) rfl (c (OpJ.not (L rfl) (q 101)) rfl cn))) ?_
              refine seqQ_n ?_
              refine gh [(8, _), (16, _), (102, _)] [(1008, some _), (1016, some _)] hB rfl rfl (by rfl) ?_
              refine AWp.cond rfl (fun hg49 => ?_) (fun hg49 => ?_)
              · replace h := ite_t hg49 h
                refine sr (c (OpJ.build (places := [(0, 1), (1, 1), (2, 1), (3, 1), (4, 1)]) ⟨Try.underlying45, fun w => by kernel_rfl⟩ tyZS45 Opds.nil (by kernel_rfl) (r := (.st [(i6 0), (i6 0), (i6 0), .nils, (i6 0)])) (by rfl) (L rfl)) rfl (cg (OpJ.storeB tyS45 (SetAt.here _ _) (by rfl) (by rfl) (by simp) rfl (q 8) (q 103)) rfl (c (OpJ.assign (L rfl) (Opd.int .i64 (3))) rfl cn))) ?_
                refine gh [(8, _), (9, _)] [(1008, some _)] hB rfl rfl (by rfl) ?_
                refine AWp.ret ?_
                refine seqQ_r ?_
                obtain rfl := Option.some.inj h
                exact ⟨.inl rfl, _, _, (Mat.trans (Mat.coeP (Ts := []) (Bs := [(1008, some (.box 45 (.d (.st [(.int .i64 0), (.int .i64 0), (.int .i64 0), (.list 3 (([] : List api_Line).map e_api_Line)), (.int .i64 0)]))))]) TwT.nil (TwB.cons (x := (.st [(i6 0), (i6 0), (i6 0), .nils, (i6 0)])) (by rfl) (Tw.leaf ⟨_, (Co.st (CoL.cons (Co.d _) (CoL.cons (Co.d _) (CoL.cons (Co.d _) (CoL.cons (Co.nils 3) (CoL.cons (Co.d _) CoL.nil)))))), rfl⟩) TwB.nil)) (mp [] [(8, (.ptr 1008 0 [])), (9, (i6 (3 : Int)))] [(1008, some (.box 45 (.d (.st [(.int .i64 0), (.int .i64 0), (.int .i64 0), (.list 3 (([] : List api_Line).map e_api_Line)), (.int .i64 0)]))))] hB)), [(.d (.st [(.int .i64 0), (.int .i64 0), (.int .i64 0), (.list 3 (([] : List api_Line).map e_api_Line)), (.int .i64 0)])), (i6 (3 : Int))], (Res.cell (c := (.d (.st [(.int .i64 0), (.int .i64 0), (.int .i64 0), (.list 3 (([] : List api_Line).map e_api_Line)), (.int .i64 0)]))) (by rfl) (by rfl) tyS45 (by rfl) (by rfl) (by rfl) (Res.tmp (by rfl) (by rfl) Res.nil)), rfl, by rfl, by rfl, by rfl⟩
              · replace h := ite_f hg49 h
                refine AWp.skip ?_
                refine seqQ_n ?_
                refine sr (c (lb hN 45 _ _ tyS45 (At.here _) (q 16)) rfl (cg (OpJ.storeB tyS45 (SetAt.here _ _) (by rfl) (by rfl) (by simp) rfl (q 8) (q 104)) rfl (c (OpJ.assign (L rfl) (Opd.int .i64 (0))) rfl cn))) ?_
                refine gh [(8, _), (9, _)] [(1008, some _)] hB rfl rfl (by rfl) ?_
                refine AWp.ret ?_
                obtain rfl := Option.some.inj h
                exact ⟨.inl rfl, _, _, (Mat.trans (Mat.coeP (Ts := []) (Bs := [(1008, some (.box 45 (.d (.st [(.int .i64 r1.1.fMember), (.int .i64 r1.1.fMonth), (.int .i64 (w64 (r1.1.fVersion + (1 : Int)))), (.list 3 (p36.2.map e_api_Line)), (.int .i64 p36.1)]))))]) TwT.nil (TwB.cons (x := (.st [(i6 r1.1.fMember), (i6 r1.1.fMonth), (i6 (w64 (r1.1.fVersion + (1 : Int)))), (qe_api_Line_3 p36.2), (i6 p36.1)])) (by rfl) (Tw.leaf ⟨_, (Co.st (CoL.cons (Co.d _) (CoL.cons (Co.d _) (CoL.cons (Co.d _) (CoL.cons (Co.d _) (CoL.cons (Co.d _) CoL.nil)))))), rfl⟩) TwB.nil)) (mp [] [(8, (.ptr 1008 0 [])), (9, (i6 0))] [(1008, some (.box 45 (.d (.st [(.int .i64 r1.1.fMember), (.int .i64 r1.1.fMonth), (.int .i64 (w64 (r1.1.fVersion + (1 : Int)))), (.list 3 (p36.2.map e_api_Line)), (.int .i64 p36.1)]))))] hB)), [(.d (.st [(.int .i64 r1.1.fMember), (.int .i64 r1.1.fMonth), (.int .i64 (w64 (r1.1.fVersion + (1 : Int)))), (.list 3 (p36.2.map e_api_Line)), (.int .i64 p36.1)])), (i6 0)], (Res.cell (c := (.d (.st [(.int .i64 r1.1.fMember), (.int .i64 r1.1.fMonth), (.int .i64 (w64 (r1.1.fVersion + (1 : Int)))), (.list 3 (p36.2.map e_api_Line)), (.int .i64 p36.1)]))) (by rfl) (by rfl) tyS45 (by rfl) (by rfl) (by rfl) (Res.tmp (by rfl) (by rfl) Res.nil)), rfl, by rfl, by rfl, by rfl⟩

noncomputable def invoice_consistent_1 (a0 : Int) : Option (Bool) :=
  some ((decide ((-1125899906842624 : Int) ≤ a0)) && (decide (a0 ≤ (1125899906842624 : Int))))
set_option maxHeartbeats 4000000 in
set_option maxRecDepth 100000 in
theorem invoice_consistent_1_ac (a0 : Int) (r : Bool) (h : invoice_consistent_1 a0 = some r) : AC Try.prog 56 [(.d (.int .i64 a0))] [] (.d (.bool r)) [] := by
  refine AC.of_code2 Try.func56 rfl rfl (Nat.le_of_ble_eq_true (by rfl)) fun B hB hN => ?_
  delta invoice_consistent_1 at h
  refine sr (c (OpJ.assign (ltN hN rfl) (Opd.bool false)) rfl cn) ?_
  refine gh [(0, _)] [] hB rfl rfl (by rfl) ?_
  refine sr (c (mv hN (q 0)) rfl (c (OpJ.geq (ltN hN rfl) (q 3) (Opd.int .i64 (-1125899906842624))) rfl (c (mv hN (q 4)) rfl (c (oq hN 5 (mv hN (q 0)) (OptL.keep (by rfl) OptL.nil) (GuardV.plain _)) rfl (c (oq hN 5 (OpJ.leq (ltN hN rfl) (q 6) (Opd.int .i64 (1125899906842624))) (OptL.opt OptL.nil) (GuardV.plain _)) rfl (c (OpJ.pickAnd rfl (ltN hN rfl) (q 5) (q 7)) rfl (c (OpJ.assign (ltN hN rfl) (q 8)) rfl cn))))))) ?_
  refine gh [(2, _)] [] hB rfl rfl (by rfl) ?_
  refine AWp.ret ?_
  obtain rfl := Option.some.inj h
  exact ⟨.inl rfl, _, _, (kp [(2, _)] [] hB rfl rfl (by rfl)), [(bo ((decide ((-1125899906842624 : Int) ≤ a0)) && (decide (a0 ≤ (1125899906842624 : Int)))))], (Res.tmp (by rfl) (by rfl) Res.nil), rfl, by rfl, by rfl, by rfl⟩

noncomputable def invoice_consistent_L0 (a0 : api_Invoice) (s8 : Int × Int) : Option (((Unit) ⊕ (Int)) ⊕ (Int × Int)) :=
  (if (decide (s8.2 < (a0.fLines.length : Int))) = true then
  (idx a0.fLines s8.2).bind fun x62 =>
  jn (fun m73 : Bool =>
  (if m73 = true then
  some (.inl (.inl ()))
  else
  some (.inr ((w64 (s8.1 + x62.fAmount)), (w64 (s8.2 + (1 : Int))))))) (fun j74 =>
  (if ((decide (x62.fPort < (1 : Int))) || (decide ((999 : Int) < x62.fPort))) = true then
  j74 true
  else
  (if (decide ((0 : Int) < s8.2)) = true then
  (idx a0.fLines (w64 (s8.2 - (1 : Int)))).bind fun x78 =>
  (if (decide (x62.fPort ≤ x78.fPort)) = true then
  j74 true
  else
  (invoice_consistent_1 x62.fUsed).bind fun r80 =>
  (if (!r80) = true then
  j74 true
  else
  (invoice_consistent_1 x62.fAmount).bind fun r82 =>
  j74 (!r82)))
  else
  (invoice_consistent_1 x62.fUsed).bind fun r83 =>
  (if (!r83) = true then
  j74 true
  else
  (invoice_consistent_1 x62.fAmount).bind fun r85 =>
  j74 (!r85)))))
  else
  some (.inl (.inr s8.1)))
noncomputable def invoice_consistent (a0 : api_Invoice) : Option (Bool) :=
  jn (fun m5 : Bool =>
  (if m5 = true then
  some false
  else
  (loop (invoice_consistent_L0 a0) ((0 : Int), (0 : Int))).bind fun x86 => match x86 with
  | (.inl _) =>
    some false
  | (.inr p60) =>
    some (p60 == a0.fTotal))) (fun j6 =>
  (invoice_member a0.fMember).bind fun r88 =>
  (if (!r88) = true then
  j6 true
  else
  (invoice_month a0.fMonth).bind fun r90 =>
  j6 ((((!r90) || (decide (a0.fVersion < (1 : Int)))) || (decide ((1000 : Int) < a0.fVersion))) || (decide ((8 : Int) < (a0.fLines.length : Int))))))
set_option maxHeartbeats 4000000 in
set_option maxRecDepth 100000 in
theorem invoice_consistent_ac (a0 : api_Invoice) (r : Bool) (h : invoice_consistent a0 = some r) : AC Try.prog 41 [(.d (e_api_Invoice a0))] [] (.d (.bool r)) [] := by
  refine AC.of_code2 Try.func41 rfl rfl (Nat.le_of_ble_eq_true (by rfl)) fun B hB hN => ?_
  have L {d : Nat} (h : Nat.blt d Try.f41.ntmps = true) : d < B.N := ltN hN h
  delta invoice_consistent at h
  refine sr (cg (OpJ.box hB (nm := 1001) (by decide) (by simp) rfl (L rfl) (q 0)) rfl (c (OpJ.assign (L rfl) (Opd.bool false)) rfl cn)) ?_
  refine gh [(1, _)] [(1001, some _)] hB rfl rfl (by rfl) ?_
  refine sr (c (OpJ.assign (L rfl) (Opd.func 56)) rfl cn) ?_
  refine gh [(1, _), (3, _)] [(1001, some _)] hB rfl rfl (by rfl) ?_
  refine AWp.seq ?_
  refine AWp.seq ?_
  refine AWp.cut h (fun m5 : Bool => ([(1, (.ptr 1001 0 [])), (3, (.func 56 [])), (32, (bo m5))] : EL)) (fun m5 : Bool => ([(1001, some (.box 45 (.d (e_api_Invoice a0))))] : OL)) (fun m5 h E' O' hmat => ?_) (fun j6 hjj6 h => ?_)
  · refine seqQ_n ?_
    refine AWp.ghost hmat ?_
    refine AWp.cond rfl (fun hg7 => ?_) (fun hg7 => ?_)
    · replace h := ite_t hg7 h
      refine sr (c (OpJ.assign (L rfl) (Opd.bool false)) rfl cn) ?_
      refine gh [(2, _)] [] hB rfl rfl (by rfl) ?_
      refine AWp.ret ?_
      refine seqQ_r ?_
      obtain rfl := Option.some.inj h
      exact ⟨.inl rfl, _, _, (kp [(2, _)] [] hB rfl rfl (by rfl)), [(bo false)], (Res.tmp (by rfl) (by rfl) Res.nil), rfl, by rfl, by rfl, by rfl⟩
    · replace h := ite_f hg7 h
      refine AWp.skip ?_
      refine seqQ_n ?_
      refine sr (c (OpJ.assign (L rfl) (Opd.int .i64 (0))) rfl cn) ?_
      refine gh [(1, _), (3, _), (4, _)] [(1001, some _)] hB rfl rfl (by rfl) ?_
      refine AWp.seq ?_
      refine sr (c (ov (.ptr 1001 3 [3]) (fp hN Try.underlying45 3 tyS43 _ (q 1))) rfl (c (lb hN 45 _ _ tyS43 (ad _) (q 33)) rfl (c (OpJ.val (v' := (i6 (a0.fLines.length : Int))) (by simp) (OpJ.lenD Try.underlying43 (L rfl) (q 34))) rfl (c (mv hN (Opd.int .i64 (0))) rfl cn)))) ?_
      refine gh [(1, _), (3, _), (4, _), (34, _), (35, _), (36, _)] [(1001, some _)] hB rfl rfl (by rfl) ?_
      refine AWp.block ?_
      obtain ⟨x86, hx87, h⟩ := bindS h
      refine lg (invoice_consistent_L0 a0) (fun s8 : Int × Int => ([(1, (.ptr 1001 0 [])), (3, (.func 56 [])), (4, (i6 s8.1)), (34, (qe_api_Line_3 a0.fLines)), (35, (i6 (a0.fLines.length : Int))), (36, (i6 s8.2))] : EL)) (fun s8 : Int × Int => ([(1001, some (.box 45 (.d (e_api_Invoice a0))))] : OL)) (fun (x : (Unit) ⊕ (Int)) e E' O' => match x with | (.inl _p) => e = .ret ∧ Mat B E' O' ([(2, (bo false))] : EL) ([] : OL) | (.inr p60) => e = .exit 0 ∧ Mat B E' O' ([(1, (.ptr 1001 0 [])), (4, (i6 p60))] : EL) ([(1001, some (.box 45 (.d (e_api_Invoice a0))))] : OL)) hx87 (mp [] _ _ hB) (fun s8 y h => ?_) (fun e E' O' hR => ?_)
      · unfold invoice_consistent_L0 at h
        refine sr (c (OpJ.lss (L rfl) (q 36) (q 35)) rfl cn) ?_
        refine gh [(1, _), (3, _), (4, _), (34, _), (35, _), (36, _), (37, _)] [(1001, some _)] hB rfl rfl (by rfl) ?_
        refine AWp.seq ?_
        refine AWp.cond rfl (fun hg61 => ?_) (fun hg61 => ?_)
        · replace h := ite_t hg61 h
          refine AWp.skip ?_
          refine seqQ_n ?_
          refine AWp.seq ?_
          refine AWp.block ?_
          obtain ⟨x62, hx62, h⟩ := bindS h
          refine sr (c (mv hN (q 36)) rfl (c (OpJ.indexD Try.underlying43 tyS51 (idx_some hx62).1 (get_map e_api_Line (idx_some hx62).2) (L rfl) (q 34) (q 36)) rfl (c (OpJ.loadD tyS51 (by rfl) (by rfl) (L rfl) (q 39)) rfl (cg (OpJ.alloc hB tyZ51 (nm := 1006) (by decide) (L rfl)) rfl (c (OpJ.assign (L rfl) (q 38)) rfl (cg (OpJ.storeB tyS51 (SetAt.here _ _) (by rfl) (by rfl) (by simp) rfl (q 6) (q 40)) rfl cn)))))) ?_
          refine gh [(1, _), (3, _), (4, _), (5, _), (6, _), (34, _), (35, _), (36, _)] [(1001, some _), (1006, some _)] hB rfl rfl (by rfl) ?_
          refine AWp.seq ?_
          refine AWp.seq ?_
          refine AWp.cut h (fun m73 : Bool => ([(1, (.ptr 1001 0 [])), (3, (.func 56 [])), (4, (i6 s8.1)), (6, (.ptr 1006 0 [])), (34, (qe_api_Line_3 a0.fLines)), (35, (i6 (a0.fLines.length : Int))), (36, (i6 s8.2)), (78, (bo m73))] : EL)) (fun m73 : Bool => ([(1001, some (.box 45 (.d (e_api_Invoice a0)))), (1006, some (.box 51 (.d (e_api_Line x62))))] : OL)) (fun m73 h E' O' hmat => ?_) (fun j74 hjj74 h => ?_)
          · refine seqQ_n ?_
            refine AWp.ghost hmat ?_
            refine AWp.cond rfl (fun hg75 => ?_) (fun hg75 => ?_)
            · replace h := ite_t hg75 h
              refine sr (c (OpJ.assign (L rfl) (Opd.bool false)) rfl cn) ?_
              refine gh [(2, _)] [] hB rfl rfl (by rfl) ?_
              refine AWp.ret ?_
              refine seqQ_r ?_
              refine blkQ_r ?_
              refine seqQ_r ?_
              obtain rfl := Option.some.inj h
              exact ⟨(fun hc => by cases hc), rfl, (mp [] _ _ hB)⟩
            · replace h := ite_f hg75 h
              refine AWp.skip ?_
              refine seqQ_n ?_
              refine rg (c (mv hN (q 4)) rfl (c (ov (.ptr 1006 2 [2]) (fp hN Try.underlying51 2 tyS3 _ (q 6))) rfl (c (lb hN 51 _ _ tyS3 (ad _) (q 80)) rfl (c (add6 (L rfl) (q 79) (q 81)) rfl (c (OpJ.assign (L rfl) (q 82)) rfl cn))))) ?_
              refine blkQ_n ?_
              refine seqQ_n ?_
              refine gh [(1, _), (3, _), (4, _), (34, _), (35, _), (36, _)] [(1001, some _)] hB rfl rfl (by rfl) ?_
              refine rg (c (add6 (L rfl) (q 36) (Opd.int .i64 (1))) rfl (c (mv hN (q 83)) rfl cn)) ?_
              obtain rfl := Option.some.inj h
              exact ⟨rfl, (Mat.trans (mp [] [(1, (.ptr 1001 0 [])), (3, (.func 56 [])), (4, (i6 (w64 (s8.1 + x62.fAmount)))), (34, (qe_api_Line_3 a0.fLines)), (35, (i6 (a0.fLines.length : Int))), (36, (i6 (w64 (s8.2 + (1 : Int)))))] [(1001, some (.box 45 (.d (e_api_Invoice a0))))] hB) (mp [] _ _ hB))⟩
          · rcases Bool.eq_false_or_eq_true ((decide (x62.fPort < (1 : Int))) || (decide ((999 : Int) < x62.fPort))) with hg76 | hg76
            · replace h := ite_t hg76 h
              refine dr (c (ov (.ptr 1006 0 [0]) (fp hN Try.underlying51 0 tyS3 _ (q 6))) rfl (c (lb hN 51 _ _ tyS3 (ad _) (q 41)) rfl (c (OpJ.lss (L rfl) (q 42) (Opd.int .i64 (1))) rfl (c (mv hN (q 43)) rfl (c (oq hN 44 (ov (.ptr 1006 0 [0]) (fp hN Try.underlying51 0 tyS3 _ (q 6))) (OptL.keep (by rfl) OptL.nil) (GuardV.plain _)) rfl (c (oq hN 44 (lb hN 51 _ _ tyS3 (ad _) (q 45)) (OptL.opt OptL.nil) (GuardV.plain _)) rfl (c (oq hN 44 (OpJ.gtr (L rfl) (q 46) (Opd.int .i64 (999))) (OptL.opt OptL.nil) (GuardV.plain _)) rfl (c (OpJ.pickOr rfl (L rfl) (q 44) (q 47)) rfl (c (OpJ.val (v' := .d (.bool true)) (by rw [hg76]) (mv hN (q 48))) rfl (cg (OpJ.skipU (g := 49) (L rfl) (by rfl)) rfl (cg (OpJ.skipU (g := 49) (L rfl) (by rfl)) rfl (cg (OpJ.skipU (g := 49) (L rfl) (by rfl)) rfl (cg (OpJ.skipV (g := 52) (L rfl) (by rfl)) rfl (cg (OpJ.skipV (g := 52) (L rfl) (by rfl)) rfl (cg (OpJ.skipV (g := 52) (L rfl) (by rfl)) rfl (cg (OpJ.skipV (g := 52) (L rfl) (by rfl)) rfl (cg (OpJ.skipV (g := 52) (L rfl) (by rfl)) rfl (cg (OpJ.skipV (g := 52) (L rfl) (by rfl)) rfl (cg (OpJ.skipV (g := 52) (L rfl) (by rfl)) rfl (cg (OpJ.skipV (g := 52) (L rfl) (by rfl)) rfl (cg (OpJ.skipV (g := 52) (L rfl) (by rfl)) rfl (cg (OpJ.skipV (g := 52) (L rfl) (by rfl)) rfl (cg (OpJ.skipU (g := 49) (L rfl) (by rfl)) rfl (c (OpJ.pickT (L rfl) (q 49) (Opd.bool true)) rfl (c (mv hN (q 64)) rfl (cg (OpJ.skipU (g := 65) (L rfl) (by rfl)) rfl (cg (OpJ.skipU (g := 65) (L rfl) (by rfl)) rfl (cg (OpJ.skipU (g := 65) (L rfl) (by rfl)) rfl (cg (OpJ.skipU (g := 65) (L rfl) (by rfl)) rfl (cg (OpJ.skipU (g := 65) (L rfl) (by rfl)) rfl (c (OpJ.pickT (L rfl) (q 65) (Opd.bool true)) rfl (c (mv hN (q 71)) rfl (cg (OpJ.skipU (g := 72) (L rfl) (by rfl)) rfl (cg (OpJ.skipU (g := 72) (L rfl) (by rfl)) rfl (cg (OpJ.skipU (g := 72) (L rfl) (by rfl)) rfl (cg (OpJ.skipU (g := 72) (L rfl) (by rfl)) rfl (cg (OpJ.skipU (g := 72) (L rfl) (by rfl)) rfl (c (OpJ.pickT (L rfl) (q 72) (Opd.bool true)) rfl cn)))))))))))))))))))))))))))))))))))))) (by kernel_rfl) (by kernel_rfl) ?_
              exact hjj74 _ h _ _ (Mat.trans (mp [] [(1, (.ptr 1001 0 [])), (3, (.func 56 [])), (4, (i6 s8.1)), (6, (.ptr 1006 0 [])), (34, (qe_api_Line_3 a0.fLines)), (35, (i6 (a0.fLines.length : Int))), (36, (i6 s8.2)), (78, (bo true))] [(1001, some (.box 45 (.d (e_api_Invoice a0)))), (1006, some (.box 51 (.d (e_api_Line x62))))] hB) (mp [] _ _ hB))
            · replace h := ite_f hg76 h
              rcases Bool.eq_false_or_eq_true (decide ((0 : Int) < s8.2)) with hg77 | hg77
              · replace h := ite_t hg77 h
                obtain ⟨x78, hx78, h⟩ := bindS h
                rcases Bool.eq_false_or_eq_true (decide (x62.fPort ≤ x78.fPort)) with hg79 | hg79
                · replace h := ite_t hg79 h
                  refine dr (c (ov (.ptr 1006 0 [0]) (fp hN Try.underlying51 0 tyS3 _ (q 6))) rfl (c (lb hN 51 _ _ tyS3 (ad _) (q 41)) rfl (c (OpJ.lss (L rfl) (q 42) (Opd.int .i64 (1))) rfl (c (mv hN (q 43)) rfl (c (oq hN 44 (ov (.ptr 1006 0 [0]) (fp hN Try.underlying51 0 tyS3 _ (q 6))) (OptL.keep (by rfl) OptL.nil) (GuardV.plain _)) rfl (c (oq hN 44 (lb hN 51 _ _ tyS3 (ad _) (q 45)) (OptL.opt OptL.nil) (GuardV.plain _)) rfl (c (oq hN 44 (OpJ.gtr (L rfl) (q 46) (Opd.int .i64 (999))) (OptL.opt OptL.nil) (GuardV.plain _)) rfl (c (OpJ.pickOr rfl (L rfl) (q 44) (q 47)) rfl (c (OpJ.val (v' := .d (.bool false)) (by rw [hg76]) (mv hN (q 48))) rfl (c (OpJ.guarded (g := 49) (by rfl) (mv hN (q 5))) rfl (c (OpJ.guarded (g := 49) (by rfl) (OpJ.gtr (L rfl) (q 50) (Opd.int .i64 (0)))) rfl (c (OpJ.guarded (g := 49) (by rfl) (OpJ.val (v' := .d (.bool true)) (by rw [hg77]) (mv hN (q 51)))) rfl (c (OpJ.guarded (g := 52) (by rfl) (ov (.ptr 1001 3 [3]) (fp hN Try.underlying45 3 tyS43 _ (q 1)))) rfl (c (OpJ.guarded (g := 52) (by rfl) (lb hN 45 _ _ tyS43 (ad _) (q 53))) rfl (c (OpJ.guarded (g := 52) (by rfl) (mv hN (q 5))) rfl (c (OpJ.guarded (g := 52) (by rfl) (sub6 (L rfl) (q 55) (Opd.int .i64 (1)))) rfl (c (OpJ.guarded (g := 52) (by rfl) (OpJ.indexD Try.underlying43 tyS51 (idx_some hx78).1 (get_map e_api_Line (idx_some hx78).2) (L rfl) (q 54) (q 56))) rfl (c (OpJ.guarded (g := 52) (by rfl) (OpJ.fieldD Try.underlying51 (by rfl) (o := 0) (by rfl) tyS3 (by decide) (by rfl) (by rfl) (L rfl) (q 57))) rfl (c (OpJ.guarded (g := 52) (by rfl) (OpJ.loadD tyS3 (by rfl) (by rfl) (L rfl) (q 58))) rfl (c (OpJ.guarded (g := 52) (by rfl) (ov (.ptr 1006 0 [0]) (fp hN Try.underlying51 0 tyS3 _ (q 6)))) rfl (c (OpJ.guarded (g := 52) (by rfl) (lb hN 51 _ _ tyS3 (ad _) (q 60))) rfl (c (OpJ.guarded (g := 52) (by rfl) (OpJ.geq (L rfl) (q 59) (q 61))) rfl (c (OpJ.guarded (g := 49) (by rfl) (OpJ.pickT (L rfl) (q 52) (q 62))) rfl (c (OpJ.pickF (L rfl) (q 49) (q 63)) rfl (c (OpJ.val (v' := .d (.bool true)) (by rw [hg79]) (mv hN (q 64))) rfl (cg (OpJ.skipU (g := 65) (L rfl) (by rfl)) rfl (cg (OpJ.skipU (g := 65) (L rfl) (by rfl)) rfl (cg (OpJ.skipU (g := 65) (L rfl) (by rfl)) rfl (cg (OpJ.skipU (g := 65) (L rfl) (by rfl)) rfl (cg (OpJ.skipU (g := 65) (L rfl) (by rfl)) rfl (c (OpJ.pickT (L rfl) (q 65) (Opd.bool true)) rfl (c (mv hN (q 71)) rfl (cg (OpJ.skipU (g := 72) (L rfl) (by rfl)) rfl (cg (OpJ.skipU (g := 72) (L rfl) (by rfl)) rfl (cg (OpJ.skipU (g := 72) (L rfl) (by rfl)) rfl (cg (OpJ.skipU (g := 72) (L rfl) (by rfl)) rfl (cg (OpJ.skipU (g := 72) (L rfl) (by rfl)) rfl (c (OpJ.pickT (L rfl) (q 72) (Opd.bool true)) rfl cn)))))))))))))))))))))))))))))))))))))) (by kernel_rfl) (by kernel_rfl) ?_
                  exact hjj74 _ h _ _ (Mat.trans (mp [] [(1, (.ptr 1001 0 [])), (3, (.func 56 [])), (4, (i6 s8.1)), (6, (.ptr 1006 0 [])), (34, (qe_api_Line_3 a0.fLines)), (35, (i6 (a0.fLines.length : Int))), (36, (i6 s8.2)), (78, (bo true))] [(1001, some (.box 45 (.d (e_api_Invoice a0)))), (1006, some (.box 51 (.d (e_api_Line x62))))] hB) (mp [] _ _ hB))
                · replace h := ite_f hg79 h
                  obtain ⟨r80, hr80, h⟩ := bindS h
                  rcases Bool.eq_false_or_eq_true (!r80) with hg81 | hg81
                  · replace h := ite_t hg81 h
                    refine dr (c (ov (.ptr 1006 0 [0]) (fp hN Try.underlying51 0 tyS3 _ (q 6))) rfl (c (lb hN 51 _ _ tyS3 (ad _) (q 41)) rfl (c (OpJ.lss (L rfl) (q 42) (Opd.int .i64 (1))) rfl (c (mv hN (q 43)) rfl (c (oq hN 44 (ov (.ptr 1006 0 [0]) (fp hN Try.underlying51 0 tyS3 _ (q 6))) (OptL.keep (by rfl) OptL.nil) (GuardV.plain _)) rfl (c (oq hN 44 (lb hN 51 _ _ tyS3 (ad _) (q 45)) (OptL.opt OptL.nil) (GuardV.plain _)) rfl (c (oq hN 44 (OpJ.gtr (L rfl) (q 46) (Opd.int .i64 (999))) (OptL.opt OptL.nil) (GuardV.plain _)) rfl (c (OpJ.pickOr rfl (L rfl) (q 44) (q 47)) rfl (c (OpJ.val (v' := .d (.bool false)) (by rw [hg76]) (mv hN (q 48))) rfl (c (OpJ.guarded (g := 49) (by rfl) (mv hN (q 5))) rfl (c (OpJ.guarded (g := 49) (by rfl) (OpJ.gtr (L rfl) (q 50) (Opd.int .i64 (0)))) rfl (c (OpJ.guarded (g := 49) (by rfl) (OpJ.val (v' := .d (.bool true)) (by rw [hg77]) (mv hN (q 51)))) rfl (c (OpJ.guarded (g := 52) (by rfl) (ov (.ptr 1001 3 [3]) (fp hN Try.underlying45 3 tyS43 _ (q 1)))) rfl (c (OpJ.guarded (g := 52) (by rfl) (lb hN 45 _ _ tyS43 (ad _) (q 53))) rfl (c (OpJ.guarded (g := 52) (by rfl) (mv hN (q 5))) rfl (c (OpJ.guarded (g := 52) (by rfl) (sub6 (L rfl) (q 55) (Opd.int .i64 (1)))) rfl (c (OpJ.guarded (g := 52) (by rfl) (OpJ.indexD Try.underlying43 tyS51 (idx_some hx78).1 (get_map e_api_Line (idx_some hx78).2) (L rfl) (q 54) (q 56))) rfl (c (OpJ.guarded (g := 52) (by rfl) (OpJ.fieldD Try.underlying51 (by rfl) (o := 0) (by rfl) tyS3 (by decide) (by rfl) (by rfl) (L rfl) (q 57))) rfl (c (OpJ.guarded (g := 52) (by rfl) (OpJ.loadD tyS3 (by rfl) (by rfl) (L rfl) (q 58))) rfl (c (OpJ.guarded (g := 52) (by rfl) (ov (.ptr 1006 0 [0]) (fp hN Try.underlying51 0 tyS3 _ (q 6)))) rfl (c (OpJ.guarded (g := 52) (by rfl) (lb hN 51 _ _ tyS3 (ad _) (q 60))) rfl (c (OpJ.guarded (g := 52) (by rfl) (OpJ.geq (L rfl) (q 59) (q 61))) rfl (c (OpJ.guarded (g := 49) (by rfl) (OpJ.pickT (L rfl) (q 52) (q 62))) rfl (c (OpJ.pickF (L rfl) (q 49) (q 63)) rfl (c (OpJ.val (v' := .d (.bool false)) (by rw [hg79]) (mv hN (q 64))) rfl (c (OpJ.guarded (g := 65) (by rfl) (mv hN (q 3))) rfl (c (OpJ.guarded (g := 65) (by rfl) (ov (.ptr 1006 1 [1]) (fp hN Try.underlying51 1 tyS3 _ (q 6)))) rfl (c (OpJ.guarded (g := 65) (by rfl) (lb hN 51 _ _ tyS3 (ad _) (q 67))) rfl (cg (OpJ.guarded (g := 65) (by rfl) (OpJ.callVal (args := [(i6 x62.fUsed)]) (caps := []) hB fnOk56 [] (invoice_consistent_1_ac x62.fUsed r80 hr80) (by kernel_rfl) (L rfl) (by kernel_rfl) (by kernel_rfl) (OpdL.cons (q 68) OpdL.nil))) rfl (c (OpJ.guarded (g := 65) (by rfl) (OpJ.not (L rfl) (q 69))) rfl (c (OpJ.pickF (L rfl) (q 65) (q 70)) rfl (c (OpJ.val (v' := .d (.bool true)) (by rw [hg81]) (mv hN (q 71))) rfl (cg (OpJ.skipU (g := 72) (L rfl) (by rfl)) rfl (cg (OpJ.skipU (g := 72) (L rfl) (by rfl)) rfl (cg (OpJ.skipU (g := 72) (L rfl) (by rfl)) rfl (cg (OpJ.skipU (g := 72) (L rfl) (by rfl)) rfl (cg (OpJ.skipU (g := 72) (L rfl) (by rfl)) rfl (c (OpJ.pickT (L rfl) (q 72) (Opd.bool true)) rfl cn)))))))))))))))))))))))))))))))))))))) (by kernel_rfl) (by kernel_rfl) ?_
                    exact hjj74 _ h _ _ (Mat.trans (mp [] [(1, (.ptr 1001 0 [])), (3, (.func 56 [])), (4, (i6 s8.1)), (6, (.ptr 1006 0 [])), (34, (qe_api_Line_3 a0.fLines)), (35, (i6 (a0.fLines.length : Int))), (36, (i6 s8.2)), (78, (bo true))] [(1001, some (.box 45 (.d (e_api_Invoice a0)))), (1006, some (.box 51 (.d (e_api_Line x62))))] hB) (mp [] _ _ hB))
                  · replace h := ite_f hg81 h
                    obtain ⟨r82, hr82, h⟩ := bindS h
                    refine dr (c (ov (.ptr 1006 0 [0]) (fp hN Try.underlying51 0 tyS3 _ (q 6))) rfl (c (lb hN 51 _ _ tyS3 (ad _) (q 41)) rfl (c (OpJ.lss (L rfl) (q 42) (Opd.int .i64 (1))) rfl (c (mv hN (q 43)) rfl (c (oq hN 44 (ov (.ptr 1006 0 [0]) (fp hN Try.underlying51 0 tyS3 _ (q 6))) (OptL.keep (by rfl) OptL.nil) (GuardV.plain _)) rfl (c (oq hN 44 (lb hN 51 _ _ tyS3 (ad _) (q 45)) (OptL.opt OptL.nil) (GuardV.plain _)) rfl (c (oq hN 44 (OpJ.gtr (L rfl) (q 46) (Opd.int .i64 (999))) (OptL.opt OptL.nil) (GuardV.plain _)) rfl (c (OpJ.pickOr rfl (L rfl) (q 44) (q 47)) rfl (c (OpJ.val (v' := .d (.bool false)) (by rw [hg76]) (mv hN (q 48))) rfl (c (OpJ.guarded (g := 49) (by rfl) (mv hN (q 5))) rfl (c (OpJ.guarded (g := 49) (by rfl) (OpJ.gtr (L rfl) (q 50) (Opd.int .i64 (0)))) rfl (c (OpJ.guarded (g := 49) (by rfl) (OpJ.val (v' := .d (.bool true)) (by rw [hg77]) (mv hN (q 51)))) rfl (c (OpJ.guarded (g := 52) (by rfl) (ov (.ptr 1001 3 [3]) (fp hN Try.underlying45 3 tyS43 _ (q 1)))) rfl (c (OpJ.guarded (g := 52) (by rfl) (lb hN 45 _ _ tyS43 (ad _) (q 53))) rfl (c (OpJ.guarded (g := 52) (by rfl) (mv hN (q 5))) rfl (c (OpJ.guarded (g := 52) (by rfl) (sub6 (L rfl) (q 55) (Opd.int .i64 (1)))) rfl (c (OpJ.guarded (g := 52) (by rfl) (OpJ.indexD Try.underlying43 tyS51 (idx_some hx78).1 (get_map e_api_Line (idx_some hx78).2) (L rfl) (q 54) (q 56))) rfl (c (OpJ.guarded (g := 52) (by rfl) (OpJ.fieldD Try.underlying51 (by rfl) (o := 0) (by rfl) tyS3 (by decide) (by rfl) (by rfl) (L rfl) (q 57))) rfl (c (OpJ.guarded (g := 52) (by rfl) (OpJ.loadD tyS3 (by rfl) (by rfl) (L rfl) (q 58))) rfl (c (OpJ.guarded (g := 52) (by rfl) (ov (.ptr 1006 0 [0]) (fp hN Try.underlying51 0 tyS3 _ (q 6)))) rfl (c (OpJ.guarded (g := 52) (by rfl) (lb hN 51 _ _ tyS3 (ad _) (q 60))) rfl (c (OpJ.guarded (g := 52) (by rfl) (OpJ.geq (L rfl) (q 59) (q 61))) rfl (c (OpJ.guarded (g := 49) (by rfl) (OpJ.pickT (L rfl) (q 52) (q 62))) rfl (c (OpJ.pickF (L rfl) (q 49) (q 63)) rfl (c (OpJ.val (v' := .d (.bool false)) (by rw [hg79]) (mv hN (q 64))) rfl (c (OpJ.guarded (g := 65) (by rfl) (mv hN (q 3))) rfl (c (OpJ.guarded (g := 65) (by rfl) (ov (.ptr 1006 1 [1]) (fp hN Try.underlying51 1 tyS3 _ (q 6)))) rfl (c (OpJ.guarded (g := 65) (by rfl) (lb hN 51 _ _ tyS3 (ad _) (q 67))) rfl (cg (OpJ.guarded (g := 65) (by rfl) (OpJ.callVal (args := [(i6 x62.fUsed)]) (caps := []) hB fnOk56 [] (invoice_consistent_1_ac x62.fUsed r80 hr80) (by kernel_rfl) (L rfl) (by kernel_rfl) (by kernel_rfl) (OpdL.cons (q 68) OpdL.nil))) rfl (c (OpJ.guarded (g := 65) (by rfl) (OpJ.not (L rfl) (q 69))) rfl (c (OpJ.pickF (L rfl) (q 65) (q 70)) rfl (c (OpJ.val (v' := .d (.bool false)) (by rw [hg81]) (mv hN (q 71))) rfl (c (OpJ.guarded (g := 72) (by rfl) (mv hN (q 3))) rfl (c (OpJ.guarded (g := 72) (by rfl) (ov (.ptr 1006 2 [2]) (fp hN Try.underlying51 2 tyS3 _ (q 6)))) rfl (c (OpJ.guarded (g := 72) (by rfl) (lb hN 51 _ _ tyS3 (ad _) (q 74))) rfl (cg (OpJ.guarded (g := 72) (by rfl) (OpJ.callVal (args := [(i6 x62.fAmount)]) (caps := []) hB fnOk56 [] (invoice_consistent_1_ac x62.fAmount r82 hr82) (by kernel_rfl) (L rfl) (by kernel_rfl) (by kernel_rfl) (OpdL.cons (q 75) OpdL.nil))) rfl (c (OpJ.guarded (g := 72) (by rfl) (OpJ.not (L rfl) (q 76))) rfl (c (OpJ.pickF (L rfl) (q 72) (q 77)) rfl cn)))))))))))))))))))))))))))))))))))))) (by kernel_rfl) (by kernel_rfl) ?_
                    exact hjj74 _ h _ _ (Mat.trans (mp [] [(1, (.ptr 1001 0 [])), (3, (.func 56 [])), (4, (i6 s8.1)), (6, (.ptr 1006 0 [])), (34, (qe_api_Line_3 a0.fLines)), (35, (i6 (a0.fLines.length : Int))), (36, (i6 s8.2)), (78, (bo (!r82)))] [(1001, some (.box 45 (.d (e_api_Invoice a0)))), (1006, some (.box 51 (.d (e_api_Line x62))))] hB) (mp [] _ _ hB))
              · replace h := ite_f hg77 h
                obtain ⟨r83, hr83, h⟩ := bindS h
                rcases Bool.eq_false_or_eq_true (!r83) with hg84 | hg84
                · replace h := ite_t hg84 h
                  refine dr (c (ov (.ptr 1006 0 [0]) (fp hN Try.underlying51 0 tyS3 _ (q 6))) rfl (c (lb hN 51 _ _ tyS3 (ad _) (q 41)) rfl (c (OpJ.lss (L rfl) (q 42) (Opd.int .i64 (1))) rfl (c (mv hN (q 43)) rfl (c (oq hN 44 (ov (.ptr 1006 0 [0]) (fp hN Try.underlying51 0 tyS3 _ (q 6))) (OptL.keep (by rfl) OptL.nil) (GuardV.plain _)) rfl (c (oq hN 44 (lb hN 51 _ _ tyS3 (ad _) (q 45)) (OptL.opt OptL.nil) (GuardV.plain _)) rfl (c (oq hN 44 (OpJ.gtr (L rfl) (q 46) (Opd.int .i64 (999))) (OptL.opt OptL.nil) (GuardV.plain _)) rfl (c (OpJ.pickOr rfl (L rfl) (q 44) (q 47)) rfl (c (OpJ.val (v' := .d (.bool false)) (by rw [hg76]) (mv hN (q 48))) rfl (c (OpJ.guarded (g := 49) (by rfl) (mv hN (q 5))) rfl (c (OpJ.guarded (g := 49) (by rfl) (OpJ.gtr (L rfl) (q 50) (Opd.int .i64 (0)))) rfl (c (OpJ.guarded (g := 49) (by rfl) (OpJ.val (v' := .d (.bool false)) (by rw [hg77]) (mv hN (q 51)))) rfl (cg (OpJ.skipU (g := 52) (L rfl) (by rfl)) rfl (cg (OpJ.skipU (g := 52) (L rfl) (by rfl)) rfl (cg (OpJ.skipU (g := 52) (L rfl) (by rfl)) rfl (cg (OpJ.skipU (g := 52) (L rfl) (by rfl)) rfl (cg (OpJ.skipU (g := 52) (L rfl) (by rfl)) rfl (cg (OpJ.skipU (g := 52) (L rfl) (by rfl)) rfl (cg (OpJ.skipU (g := 52) (L rfl) (by rfl)) rfl (cg (OpJ.skipU (g := 52) (L rfl) (by rfl)) rfl (cg (OpJ.skipU (g := 52) (L rfl) (by rfl)) rfl (cg (OpJ.skipU (g := 52) (L rfl) (by rfl)) rfl (c (OpJ.guarded (g := 49) (by rfl) (OpJ.pickF (L rfl) (q 52) (Opd.bool false))) rfl (c (OpJ.pickF (L rfl) (q 49) (q 63)) rfl (c (mv hN (q 64)) rfl (c (OpJ.guarded (g := 65) (by rfl) (mv hN (q 3))) rfl (c (OpJ.guarded (g := 65) (by rfl) (ov (.ptr 1006 1 [1]) (fp hN Try.underlying51 1 tyS3 _ (q 6)))) rfl (c (OpJ.guarded (g := 65) (by rfl) (lb hN 51 _ _ tyS3 (ad _) (q 67))) rfl (cg (OpJ.guarded (g := 65) (by rfl) (OpJ.callVal (args := [(i6 x62.fUsed)]) (caps := []) hB fnOk56 [] (invoice_consistent_1_ac x62.fUsed r83 hr83) (by kernel_rfl) (L rfl) (by kernel_rfl) (by kernel_rfl) (OpdL.cons (q 68) OpdL.nil))) rfl (c (OpJ.guarded (g := 65) (by rfl) (OpJ.not (L rfl) (q 69))) rfl (c (OpJ.pickF (L rfl) (q 65) (q 70)) rfl (c (OpJ.val (v' := .d (.bool true)) (by rw [hg84]) (mv hN (q 71))) rfl (cg (OpJ.skipU (g := 72) (L rfl) (by rfl)) rfl (cg (OpJ.skipU (g := 72) (L rfl) (by rfl)) rfl (cg (OpJ.skipU (g := 72) (L rfl) (by rfl)) rfl (cg (OpJ.skipU (g := 72) (L rfl) (by rfl)) rfl (cg (OpJ.skipU (g := 72) (L rfl) (by rfl)) rfl (c (OpJ.pickT (L rfl) (q 72) (Opd.bool true)) rfl cn)))))))))))))))))))))))))))))))))))))) (by kernel_rfl) (by kernel_rfl) ?_
                  exact hjj74 _ h _ _ (Mat.trans (mp [] [(1, (.ptr 1001 0 [])), (3, (.func 56 [])), (4, (i6 s8.1)), (6, (.ptr 1006 0 [])), (34, (qe_api_Line_3 a0.fLines)), (35, (i6 (a0.fLines.length : Int))), (36, (i6 s8.2)), (78, (bo true))] [(1001, some (.box 45 (.d (e_api_Invoice a0)))), (1006, some (.box 51 (.d (e_api_Line x62))))] hB) (mp [] _ _ hB))
                · replace h := ite_f hg84 h
                  obtain ⟨r85, hr85, h⟩ := bindS h
                  refine dr (c (ov (.ptr 1006 0 [0]) (fp hN Try.underlying51 0 tyS3 _ (q 6))) rfl (c (lb hN 51 _ _ tyS3 (ad _) (q 41)) rfl (c (OpJ.lss (L rfl) (q 42) (Opd.int .i64 (1))) rfl (c (mv hN (q 43)) rfl (c (oq hN 44 (ov (.ptr 1006 0 [0]) (fp hN Try.underlying51 0 tyS3 _ (q 6))) (OptL.keep (by rfl) OptL.nil) (GuardV.plain _)) rfl (c (oq hN 44 (lb hN 51 _ _ tyS3 (ad _) (q 45)) (OptL.opt OptL.nil) (GuardV.plain _)) rfl (c (oq hN 44 (OpJ.gtr (L rfl) (q 46) (Opd.int .i64 (999))) (OptL.opt OptL.nil) (GuardV.plain _)) rfl (c (OpJ.pickOr rfl (L rfl) (q 44) (q 47)) rfl (c (OpJ.val (v' := .d (.bool false)) (by rw [hg76]) (mv hN (q 48))) rfl (c (OpJ.guarded (g := 49) (by rfl) (mv hN (q 5))) rfl (c (OpJ.guarded (g := 49) (by rfl) (OpJ.gtr (L rfl) (q 50) (Opd.int .i64 (0)))) rfl (c (OpJ.guarded (g := 49) (by rfl) (OpJ.val (v' := .d (.bool false)) (by rw [hg77]) (mv hN (q 51)))) rfl (cg (OpJ.skipU (g := 52) (L rfl) (by rfl)) rfl (cg (OpJ.skipU (g := 52) (L rfl) (by rfl)) rfl (cg (OpJ.skipU (g := 52) (L rfl) (by rfl)) rfl (cg (OpJ.skipU (g := 52) (L rfl) (by rfl)) rfl (cg (OpJ.skipU (g := 52) (L rfl) (by rfl)) rfl (cg (OpJ.skipU (g := 52) (L rfl) (by rfl)) rfl (cg (OpJ.skipU (g := 52) (L rfl) (by rfl)) rfl (cg (OpJ.skipU (g := 52) (L rfl) (by rfl)) rfl (cg (OpJ.skipU (g := 52) (L rfl) (by rfl)) rfl (cg (OpJ.skipU (g := 52) (L rfl) (by rfl)) rfl (c (OpJ.guarded (g := 49) (by rfl) (OpJ.pickF (L rfl) (q 52) (Opd.bool false))) rfl (c (OpJ.pickF (L rfl) (q 49) (q 63)) rfl (c (mv hN (q 64)) rfl (c (OpJ.guarded (g := 65) (by rfl) (mv hN (q 3))) rfl (c (OpJ.guarded (g := 65) (by rfl) (ov (.ptr 1006 1 [1]) (fp hN Try.underlying51 1 tyS3 _ (q 6)))) rfl (c (OpJ.guarded (g := 65) (by rfl) (lb hN 51 _ _ tyS3 (ad _) (q 67))) rfl (cg (OpJ.guarded (g := 65) (by rfl) (OpJ.callVal (args := [(i6 x62.fUsed)]) (caps := []) hB fnOk56 [] (invoice_consistent_1_ac x62.fUsed r83 hr83) (by kernel_rfl) (L rfl) (by kernel_rfl) (by kernel_rfl) (OpdL.cons (q 68) OpdL.nil))) rfl (c (OpJ.guarded (g := 65) (by rfl) (OpJ.not (L rfl) (q 69))) rfl (c (OpJ.pickF (L rfl) (q 65) (q 70)) rfl (c (OpJ.val (v' := .d (.bool false)) (by rw [hg84]) (mv hN (q 71))) rfl (c (OpJ.guarded (g := 72) (by rfl) (mv hN (q 3))) rfl (c (OpJ.guarded (g := 72) (by rfl) (ov (.ptr 1006 2 [2]) (fp hN Try.underlying51 2 tyS3 _ (q 6)))) rfl (c (OpJ.guarded (g := 72) (by rfl) (lb hN 51 _ _ tyS3 (ad _) (q 74))) rfl (cg (OpJ.guarded (g := 72) (by rfl) (OpJ.callVal (args := [(i6 x62.fAmount)]) (caps := []) hB fnOk56 [] (invoice_consistent_1_ac x62.fAmount r85 hr85) (by kernel_rfl) (L rfl) (by kernel_rfl) (by kernel_rfl) (OpdL.cons (q 75) OpdL.nil))) rfl (c (OpJ.guarded (g := 72) (by rfl) (OpJ.not (L rfl) (q 76))) rfl (c (OpJ.pickF (L rfl) (q 72) (q 77)) rfl cn)))))))))))))))))))))))))))))))))))))) (by kernel_rfl) (by kernel_rfl) ?_
                  exact hjj74 _ h _ _ (Mat.trans (mp [] [(1, (.ptr 1001 0 [])), (3, (.func 56 [])), (4, (i6 s8.1)), (6, (.ptr 1006 0 [])), (34, (qe_api_Line_3 a0.fLines)), (35, (i6 (a0.fLines.length : Int))), (36, (i6 s8.2)), (78, (bo (!r85)))] [(1001, some (.box 45 (.d (e_api_Invoice a0)))), (1006, some (.box 51 (.d (e_api_Line x62))))] hB) (mp [] _ _ hB))
        · replace h := ite_f hg61 h
          refine AWp.exit ?_
          refine seqQ_e ?_
          obtain rfl := Option.some.inj h
          exact ⟨(fun hc => by cases hc), rfl, (mp [] _ _ hB)⟩
      · rcases x86 with _ | p60
        · obtain ⟨rfl, hmat⟩ := hR
          refine blkQ_r ?_
          refine seqQ_r ?_
          obtain rfl := Option.some.inj h
          exact ⟨.inl rfl, _, _, (Mat.trans hmat (mp [] [(2, (bo false))] [] hB)), [(bo false)], (Res.tmp (by rfl) (by rfl) Res.nil), rfl, by rfl, by rfl, by rfl⟩
        · obtain ⟨rfl, hmat⟩ := hR
          refine blkQ_hit ?_
          refine seqQ_n ?_
          refine AWp.ghost hmat ?_
          refine sr (c (mv hN (q 4)) rfl (c (ov (.ptr 1001 4 [4]) (fp hN Try.underlying45 4 tyS3 _ (q 1))) rfl (c (lb hN 45 _ _ tyS3 (ad _) (q 85)) rfl (c (OpJ.eqlI (L rfl) (q 84) (q 86)) rfl (c (OpJ.assign (L rfl) (q 87)) rfl cn))))) ?_
          refine gh [(2, _)] [] hB rfl rfl (by rfl) ?_
          refine AWp.ret ?_
          obtain rfl := Option.some.inj h
          exact ⟨.inl rfl, _, _, (kp [(2, _)] [] hB rfl rfl (by rfl)), [(bo (p60 == a0.fTotal))], (Res.tmp (by rfl) (by rfl) Res.nil), rfl, by rfl, by rfl, by rfl⟩
  · obtain ⟨r88, hr88, h⟩ := bindS h
    rcases Bool.eq_false_or_eq_true (!r88) with hg89 | hg89
    · replace h := ite_t hg89 h
      refine rg (c (ov (.ptr 1001 0 [0]) (fp hN Try.underlying45 0 tyS3 _ (q 1))) rfl (c (lb hN 45 _ _ tyS3 (ad _) (q 7)) rfl (cg (OpJ.callFn hB fnOk29 (invoice_member_ac a0.fMember r88 hr88) [] (by kernel_rfl) (L rfl) (by kernel_rfl) (OpdL.cons (q 8) OpdL.nil)) rfl (c (OpJ.not (L rfl) (q 9)) rfl (c (OpJ.val (v' := .d (.bool true)) (by rw [hg89]) (mv hN (q 10))) rfl (cg (OpJ.skipU (g := 11) (L rfl) (by rfl)) rfl (cg (OpJ.skipU (g := 11) (L rfl) (by rfl)) rfl (cg (OpJ.skipU (g := 11) (L rfl) (by rfl)) rfl (cg (OpJ.skipU (g := 11) (L rfl) (by rfl)) rfl (c (OpJ.pickT (L rfl) (q 11) (Opd.bool true)) rfl (c (mv hN (q 16)) rfl (cg (OpJ.skipU (g := 17) (L rfl) (by rfl)) rfl (cg (OpJ.skipU (g := 17) (L rfl) (by rfl)) rfl (cg (OpJ.skipU (g := 17) (L rfl) (by rfl)) rfl (c (OpJ.pickT (L rfl) (q 17) (Opd.bool true)) rfl (c (mv hN (q 21)) rfl (cg (OpJ.skipU (g := 22) (L rfl) (by rfl)) rfl (cg (OpJ.skipU (g := 22) (L rfl) (by rfl)) rfl (cg (OpJ.skipU (g := 22) (L rfl) (by rfl)) rfl (c (OpJ.pickT (L rfl) (q 22) (Opd.bool true)) rfl (c (mv hN (q 26)) rfl (cg (OpJ.skipU (g := 27) (L rfl) (by rfl)) rfl (cg (OpJ.skipU (g := 27) (L rfl) (by rfl)) rfl (cg (OpJ.skipU (g := 27) (L rfl) (by rfl)) rfl (cg (OpJ.skipU (g := 27) (L rfl) (by rfl)) rfl (c (OpJ.pickT (L rfl) (q 27) (Opd.bool true)) rfl cn)))))))))))))))))))))))))) ?_
      exact hjj6 _ h _ _ (Mat.trans (mp [] [(1, (.ptr 1001 0 [])), (3, (.func 56 [])), (32, (bo true))] [(1001, some (.box 45 (.d (e_api_Invoice a0))))] hB) (mp [] _ _ hB))
    · replace h := ite_f hg89 h
      obtain ⟨r90, hr90, h⟩ := bindS h
      refine rg (c (ov (.ptr 1001 0 [0]) (fp hN Try.underlying45 0 tyS3 _ (q 1))) rfl (c (lb hN 45 _ _ tyS3 (ad _) (q 7)) rfl (cg (OpJ.callFn hB fnOk29 (invoice_member_ac a0.fMember r88 hr88) [] (by kernel_rfl) (L rfl) (by kernel_rfl) (OpdL.cons (q 8) OpdL.nil)) rfl (c (OpJ.not (L rfl) (q 9)) rfl (c (OpJ.val (v' := .d (.bool false)) (by rw [hg89]) (mv hN (q 10))) rfl (c (OpJ.guarded (g := 11) (by rfl) (ov (.ptr 1001 1 [1]) (fp hN Try.underlying45 1 tyS3 _ (q 1)))) rfl (c (OpJ.guarded (g := 11) (by rfl) (lb hN 45 _ _ tyS3 (ad _) (q 12))) rfl (cg (OpJ.guarded (g := 11) (by rfl) (OpJ.callFn hB fnOk30 (invoice_month_ac a0.fMonth r90 hr90) [] (by kernel_rfl) (L rfl) (by kernel_rfl) (OpdL.cons (q 13) OpdL.nil))) rfl (c (OpJ.guarded (g := 11) (by rfl) (OpJ.not (L rfl) (q 14))) rfl (c (OpJ.pickF (L rfl) (q 11) (q 15)) rfl (c (mv hN (q 16)) rfl (c (oq hN 17 (ov (.ptr 1001 2 [2]) (fp hN Try.underlying45 2 tyS3 _ (q 1))) (OptL.keep (by rfl) OptL.nil) (GuardV.plain _)) rfl (c (oq hN 17 (lb hN 45 _ _ tyS3 (ad _) (q 18)) (OptL.opt OptL.nil) (GuardV.plain _)) rfl (c (oq hN 17 (OpJ.lss (L rfl) (q 19) (Opd.int .i64 (1))) (OptL.opt OptL.nil) (GuardV.plain _)) rfl (c (OpJ.pickOr rfl (L rfl) (q 17) (q 20)) rfl (c (mv hN (q 21)) rfl (c (oq hN 22 (ov (.ptr 1001 2 [2]) (fp hN Try.underlying45 2 tyS3 _ (q 1))) (OptL.keep (by rfl) OptL.nil) (GuardV.plain _)) rfl (c (oq hN 22 (lb hN 45 _ _ tyS3 (ad _) (q 23)) (OptL.opt OptL.nil) (GuardV.plain _)) rfl (c (oq hN 22 (OpJ.gtr (L rfl) (q 24) (Opd.int .i64 (1000))) (OptL.opt OptL.nil) (GuardV.plain _)) rfl (c (OpJ.pickOr rfl (L rfl) (q 22) (q 25)) rfl (c (mv hN (q 26)) rfl (c (oq hN 27 (ov (.ptr 1001 3 [3]) (fp hN Try.underlying45 3 tyS43 _ (q 1))) (OptL.keep (by rfl) OptL.nil) (GuardV.plain _)) rfl (c (oq hN 27 (lb hN 45 _ _ tyS43 (ad _) (q 28)) (OptL.opt OptL.nil) (GuardV.plain _)) rfl (c (oq hN 27 (OpJ.val (v' := (i6 (a0.fLines.length : Int))) (by simp) (OpJ.lenD Try.underlying43 (L rfl) (q 29))) (OptL.opt OptL.nil) (GuardV.plain _)) rfl (c (oq hN 27 (OpJ.gtr (L rfl) (q 30) (Opd.int .i64 (8))) (OptL.opt OptL.nil) (GuardV.plain _)) rfl (c (OpJ.pickOr rfl (L rfl) (q 27) (q 31)) rfl cn)))))))))))))))))))))))))) ?_
      exact hjj6 _ h _ _ (Mat.trans (mp [] [(1, (.ptr 1001 0 [])), (3, (.func 56 [])), (32, (bo ((((!r90) || (decide (a0.fVersion < (1 : Int)))) || (decide ((1000 : Int) < a0.fVersion))) || (decide ((8 : Int) < (a0.fLines.length : Int))))))] [(1001, some (.box 45 (.d (e_api_Invoice a0))))] hB) (mp [] _ _ hB))

noncomputable def invoice_Sum_L0 (a0 : (List api_Invoice)) (s2 : Int) : Option (((Unit) ⊕ (Unit)) ⊕ (Int)) :=
  (if (decide (s2 < (a0.length : Int))) = true then
  (idx a0 s2).bind fun x14 =>
  (invoice_consistent x14).bind fun r15 =>
  (if (!r15) = true then
  some (.inl (.inl ()))
  else
  some (.inr (w64 (s2 + (1 : Int)))))
  else
  some (.inl (.inr ())))
noncomputable def invoice_Sum_L2 (x77 : api_Invoice) (s85 : Int × (List api_Line)) : Option ((((List api_Line))) ⊕ (Int × (List api_Line))) :=
  (if (decide (s85.1 < (x77.fLines.length : Int))) = true then
  (idx x77.fLines s85.1).bind fun x94 =>
  (invoice_sums_add_2 s85.2 x94 (1 : Int)).bind fun r95 =>
  some (.inr ((w64 (s85.1 + (1 : Int))), r95.flines))
  else
  some (.inl s85.2))
noncomputable def invoice_Sum_L1 (a0 : (List api_Invoice)) (s19 : Int × (List api_Line)) : Option (((Unit) ⊕ ((List api_Line))) ⊕ (Int × (List api_Line))) :=
  (if (decide (s19.1 < (a0.length : Int))) = true then
  (idx a0 s19.1).bind fun x77 =>
  jn (fun m82 : Bool =>
  (if m82 = true then
  some (.inl (.inl ()))
  else
  (loop (invoice_Sum_L2 x77) ((0 : Int), s19.2)).bind fun p92 =>
  some (.inr ((w64 (s19.1 + (1 : Int))), p92)))) (fun j83 =>
  (if (x77.fVersion != (w64 (s19.1 + (1 : Int)))) = true then
  j83 true
  else
  (idx a0 (0 : Int)).bind fun x99 =>
  (if (x77.fMember != x99.fMember) = true then
  j83 true
  else
  (idx a0 (0 : Int)).bind fun x101 =>
  j83 (x77.fMonth != x101.fMonth))))
  else
  some (.inl (.inr s19.2)))
noncomputable def invoice_Sum (a0 : (List api_Invoice)) : Option (api_Invoice × Int) :=
  (if (((a0.length : Int) == (0 : Int)) || (decide ((1000 : Int) < (a0.length : Int)))) = true then
  some ((api_Invoice.mk (0 : Int) (0 : Int) (0 : Int) ([] : List api_Line) (0 : Int)), (1 : Int))
  else
  (loop (invoice_Sum_L0 a0) (0 : Int)).bind fun x17 => match x17 with
  | (.inl _) =>
    some ((api_Invoice.mk (0 : Int) (0 : Int) (0 : Int) ([] : List api_Line) (0 : Int)), (1 : Int))
  | (.inr _) =>
    (loop (invoice_Sum_L1 a0) ((0 : Int), ([] : List api_Line))).bind fun x102 => match x102 with
    | (.inl _) =>
      some ((api_Invoice.mk (0 : Int) (0 : Int) (0 : Int) ([] : List api_Line) (0 : Int)), (35 : Int))
    | (.inr p75) =>
      (idx a0 (0 : Int)).bind fun x104 =>
      (idx a0 (0 : Int)).bind fun x105 =>
      (invoice_sums_invoice p75 x104.fMember x105.fMonth (a0.length : Int)).bind fun r106 =>
      (invoice_consistent r106.1).bind fun r107 =>
      (if (!r107) = true then
      some ((api_Invoice.mk (0 : Int) (0 : Int) (0 : Int) ([] : List api_Line) (0 : Int)), (3 : Int))
      else
      some (r106.1, (0 : Int))))
set_option maxHeartbeats 4000000 in
set_option maxRecDepth 100000 in
theorem invoice_Sum_ac (a0 : (List api_Invoice)) (r : api_Invoice × Int) (h : invoice_Sum a0 = some r) : AC Try.prog 19 [(.d (.list 5 (a0.map e_api_Invoice)))] [] (.tup [(.d (e_api_Invoice r.1)), (.d (.int .i64 r.2))]) [] := by
  refine AC.of_code2 Try.func19 rfl rfl (Nat.le_of_ble_eq_true (by rfl)) fun B hB hN => ?_
  have L {d : Nat} (h : Nat.blt d Try.f19.ntmps = true) : d < B.N := ltN hN h
  delta invoice_Sum at h
  refine sr (cg (OpJ.alloc hB tyZ45 (nm := 1002) (by decide) (L rfl)) rfl (c (OpJ.assign (L rfl) (Opd.int .i64 (0))) rfl cn)) ?_
  refine gh [(0, _), (2, _)] [(1002, some _)] hB rfl rfl (by rfl) ?_
  refine AWp.seq ?_
  refine sr (c (mv hN (q 0)) rfl (c (OpJ.val (v' := (i6 (a0.length : Int))) (by simp) (OpJ.lenD Try.underlying53 (L rfl) (q 12))) rfl (c (OpJ.eqlI (L rfl) (q 13) (Opd.int .i64 (0))) rfl (c (mv hN (q 14)) rfl (c (oq hN 15 (mv hN (q 0)) (OptL.keep (by rfl) OptL.nil) (GuardV.plain _)) rfl (c (oq hN 15 (OpJ.val (v' := (i6 (a0.length : Int))) (by simp) (OpJ.lenD Try.underlying53 (L rfl) (q 16))) (OptL.opt OptL.nil) (GuardV.plain _)) rfl (c (oq hN 15 (OpJ.gtr (L rfl) (q 17) (Opd.int .i64 (1000))) (OptL.opt OptL.nil) (GuardV.plain _)) rfl (c (OpJ.pickOr rfl (L rfl) (q 15) (q 18)) rfl cn)))))))) ?_
  refine gh [(0, _), (2, _), (19, _)] [(1002, some _)] hB rfl rfl (by rfl) ?_
  refine AWp.cond rfl (fun hg1 => ?_) (fun hg1 => ?_)
  · replace h := ite_t hg1 h
    refine sr (c (OpJ.build (places := [(0, 1), (1, 1), (2, 1), (3, 1), (4, 1)]) ⟨Try.underlying45, fun w => by kernel_rfl⟩ tyZS45 Opds.nil (by kernel_rfl) (r := (.st [(i6 0), (i6 0), (i6 0), .nils, (i6 0)])) (by rfl) (L rfl)) rfl (cg (OpJ.storeB tyS45 (SetAt.here _ _) (by rfl) (by rfl) (by simp) rfl (q 2) (q 20)) rfl (c (OpJ.assign (L rfl) (Opd.int .i64 (1))) rfl cn))) ?_
    refine gh [(2, _), (3, _)] [(1002, some _)] hB rfl rfl (by rfl) ?_
    refine AWp.ret ?_
    refine seqQ_r ?_
    obtain rfl := Option.some.inj h
    exact ⟨.inl rfl, _, _, (Mat.trans (Mat.coeP (Ts := []) (Bs := [(1002, some (.box 45 (.d (.st [(.int .i64 0), (.int .i64 0), (.int .i64 0), (.list 3 (([] : List api_Line).map e_api_Line)), (.int .i64 0)]))))]) TwT.nil (TwB.cons (x := (.st [(i6 0), (i6 0), (i6 0), .nils, (i6 0)])) (by rfl) (Tw.leaf ⟨_, (Co.st (CoL.cons (Co.d _) (CoL.cons (Co.d _) (CoL.cons (Co.d _) (CoL.cons (Co.nils 3) (CoL.cons (Co.d _) CoL.nil)))))), rfl⟩) TwB.nil)) (mp [] [(2, (.ptr 1002 0 [])), (3, (i6 1))] [(1002, some (.box 45 (.d (.st [(.int .i64 0), (.int .i64 0), (.int .i64 0), (.list 3 (([] : List api_Line).map e_api_Line)), (.int .i64 0)]))))] hB)), [(.d (.st [(.int .i64 0), (.int .i64 0), (.int .i64 0), (.list 3 (([] : List api_Line).map e_api_Line)), (.int .i64 0)])), (i6 1)], (Res.cell (c := (.d (.st [(.int .i64 0), (.int .i64 0), (.int .i64 0), (.list 3 (([] : List api_Line).map e_api_Line)), (.int .i64 0)]))) (by rfl) (by rfl) tyS45 (by rfl) (by rfl) (by rfl) (Res.tmp (by rfl) (by rfl) Res.nil)), rfl, by rfl, by rfl, by rfl⟩
  · replace h := ite_f hg1 h
    refine AWp.skip ?_
    refine seqQ_n ?_
    refine AWp.seq ?_
    refine sr (c (mv hN (q 0)) rfl (c (OpJ.val (v' := (i6 (a0.length : Int))) (by simp) (OpJ.lenD Try.underlying53 (L rfl) (q 21))) rfl (c (mv hN (Opd.int .i64 (0))) rfl cn))) ?_
    refine gh [(0, _), (2, _), (21, _), (22, _), (23, _)] [(1002, some _)] hB rfl rfl (by rfl) ?_
    refine AWp.block ?_
    obtain ⟨x17, hx18, h⟩ := bindS h
    refine lg (invoice_Sum_L0 a0) (fun s2 : Int => ([(0, (qe_api_Invoice_5 a0)), (2, (.ptr 1002 0 [])), (21, (qe_api_Invoice_5 a0)), (22, (i6 (a0.length : Int))), (23, (i6 s2))] : EL)) (fun s2 : Int => ([(1002, some (.box 45 (.st [(i6 0), (i6 0), (i6 0), .nils, (i6 0)])))] : OL)) (fun (x : (Unit) ⊕ (Unit)) e E' O' => match x with | (.inl _p) => e = .ret ∧ Mat B E' O' ([(2, (.ptr 1002 0 [])), (3, (i6 1))] : EL) ([(1002, some (.box 45 (.st [(i6 0), (i6 0), (i6 0), .nils, (i6 0)])))] : OL) | (.inr _p) => e = .exit 0 ∧ Mat B E' O' ([(0, (qe_api_Invoice_5 a0)), (2, (.ptr 1002 0 []))] : EL) ([(1002, some (.box 45 (.st [(i6 0), (i6 0), (i6 0), .nils, (i6 0)])))] : OL)) hx18 (mp [] _ _ hB) (fun s2 y h => ?_) (fun e E' O' hR => ?_)
    · unfold invoice_Sum_L0 at h
      refine sr (c (OpJ.lss (L rfl) (q 23) (q 22)) rfl cn) ?_
      refine gh [(0, _), (2, _), (21, _), (22, _), (23, _), (24, _)] [(1002, some _)] hB rfl rfl (by rfl) ?_
      refine AWp.seq ?_
      refine AWp.cond rfl (fun hg13 => ?_) (fun hg13 => ?_)
      · replace h := ite_t hg13 h
        refine AWp.skip ?_
        refine seqQ_n ?_
        refine AWp.seq ?_
        refine AWp.block ?_
        obtain ⟨x14, hx14, h⟩ := bindS h
        refine sr (c (OpJ.indexD Try.underlying53 tyS45 (idx_some hx14).1 (get_map e_api_Invoice (idx_some hx14).2) (L rfl) (q 21) (q 23)) rfl (c (OpJ.loadD tyS45 (by rfl) (by rfl) (L rfl) (q 25)) rfl (cg (OpJ.alloc hB tyZ45 (nm := 1005) (by decide) (L rfl)) rfl (cg (OpJ.storeB tyS45 (SetAt.here _ _) (by rfl) (by rfl) (by simp) rfl (q 5) (q 26)) rfl cn)))) ?_
        refine gh [(0, _), (2, _), (5, _), (21, _), (22, _), (23, _)] [(1002, some _), (1005, some _)] hB rfl rfl (by rfl) ?_
        obtain ⟨r15, hr15, h⟩ := bindS h
        refine sr (c (lb hN 45 _ _ tyS45 (At.here _) (q 5)) rfl (cg (OpJ.callFn hB fnOk41 (invoice_consistent_ac x14 r15 hr15) [] (by kernel_rfl) (L rfl) (by kernel_rfl) (OpdL.cons (q 27) OpdL.nil)) rfl (c (OpJ.not (L rfl) (q 28)) rfl cn))) ?_
        refine gh [(0, _), (2, _), (21, _), (22, _), (23, _), (29, _)] [(1002, some _)] hB rfl rfl (by rfl) ?_
        refine AWp.cond rfl (fun hg16 => ?_) (fun hg16 => ?_)
        · replace h := ite_t hg16 h
          refine sr (c (OpJ.build (places := [(0, 1), (1, 1), (2, 1), (3, 1), (4, 1)]) ⟨Try.underlying45, fun w => by kernel_rfl⟩ tyZS45 Opds.nil (by kernel_rfl) (r := (.st [(i6 0), (i6 0), (i6 0), .nils, (i6 0)])) (by rfl) (L rfl)) rfl (cg (OpJ.storeB tyS45 (SetAt.here _ _) (by rfl) (by rfl) (by simp) rfl (q 2) (q 30)) rfl (c (OpJ.assign (L rfl) (Opd.int .i64 (1))) rfl cn))) ?_
          refine gh [(2, _), (3, _)] [(1002, some _)] hB rfl rfl (by rfl) ?_
          refine AWp.ret ?_
          refine blkQ_r ?_
          refine seqQ_r ?_
          obtain rfl := Option.some.inj h
          exact ⟨(fun hc => by cases hc), rfl, (mp [] _ _ hB)⟩
        · replace h := ite_f hg16 h
          refine AWp.skip ?_
          refine blkQ_n ?_
          refine seqQ_n ?_
          refine rg (c (add6 (L rfl) (q 23) (Opd.int .i64 (1))) rfl (c (mv hN (q 31)) rfl cn)) ?_
          obtain rfl := Option.some.inj h
          exact ⟨rfl, (Mat.trans (mp [] [(0, (qe_api_Invoice_5 a0)), (2, (.ptr 1002 0 [])), (21, (qe_api_Invoice_5 a0)), (22, (i6 (a0.length : Int))), (23, (i6 (w64 (s2 + (1 : Int)))))] [(1002, some (.box 45 (.st [(i6 0), (i6 0), (i6 0), .nils, (i6 0)])))] hB) (mp [] _ _ hB))⟩
      · replace h := ite_f hg13 h
        refine AWp.exit ?_
        refine seqQ_e ?_
        obtain rfl := Option.some.inj h
        exact ⟨(fun hc => by cases hc), rfl, (mp [] _ _ hB)⟩
    · rcases x17 with _ | _
      · obtain ⟨rfl, hmat⟩ := hR
        refine blkQ_r ?_
        refine seqQ_r ?_
        obtain rfl := Option.some.inj h
        exact ⟨.inl rfl, _, _, (Mat.trans hmat (Mat.trans (Mat.coeP (Ts := []) (Bs := [(1002, some (.box 45 (.d (.st [(.int .i64 0), (.int .i64 0), (.int .i64 0), (.list 3 (([] : List api_Line).map e_api_Line)), (.int .i64 0)]))))]) TwT.nil (TwB.cons (x := (.st [(i6 0), (i6 0), (i6 0), .nils, (i6 0)])) (by rfl) (Tw.leaf ⟨_, (Co.st (CoL.cons (Co.d _) (CoL.cons (Co.d _) (CoL.cons (Co.d _) (CoL.cons (Co.nils 3) (CoL.cons (Co.d _) CoL.nil)))))), rfl⟩) TwB.nil)) (mp [] [(2, (.ptr 1002 0 [])), (3, (i6 1))] [(1002, some (.box 45 (.d (.st [(.int .i64 0), (.int .i64 0), (.int .i64 0), (.list 3 (([] : List api_Line).map e_api_Line)), (.int .i64 0)]))))] hB))), [(.d (.st [(.int .i64 0), (.int .i64 0), (.int .i64 0), (.list 3 (([] : List api_Line).map e_api_Line)), (.int .i64 0)])), (i6 1)], (Res.cell (c := (.d (.st [(.int .i64 0), (.int .i64 0), (.int .i64 0), (.list 3 (([] : List api_Line).map e_api_Line)), (.int .i64 0)]))) (by rfl) (by rfl) tyS45 (by rfl) (by rfl) (by rfl) (Res.tmp (by rfl) (by rfl) Res.nil)), rfl, by rfl, by rfl, by rfl⟩
      · obtain ⟨rfl, hmat⟩ := hR
        refine blkQ_hit ?_
        refine seqQ_n ?_
        refine AWp.ghost hmat ?_
        refine sr (cg (OpJ.alloc hB tyZ78 (nm := 1006) (by decide) (L rfl)) rfl cn) ?_
        refine gh [(0, _), (2, _), (6, _)] [(1002, some _), (1006, some _)] hB rfl rfl (by rfl) ?_
        refine AWp.seq ?_
        refine sr (c (mv hN (q 0)) rfl (c (OpJ.val (v' := (i6 (a0.length : Int))) (by simp) (OpJ.lenD Try.underlying53 (L rfl) (q 32))) rfl (c (mv hN (Opd.int .i64 (0))) rfl cn))) ?_
        refine gh [(0, _), (2, _), (6, _), (32, _), (33, _), (34, _)] [(1002, some _), (1006, some _)] hB rfl rfl (by rfl) ?_
        refine AWp.block ?_
        obtain ⟨x102, hx103, h⟩ := bindS h
        refine lg (invoice_Sum_L1 a0) (fun s19 : Int × (List api_Line) => ([(0, (qe_api_Invoice_5 a0)), (2, (.ptr 1002 0 [])), (6, (.ptr 1006 0 [])), (32, (qe_api_Invoice_5 a0)), (33, (i6 (a0.length : Int))), (34, (i6 s19.1))] : EL)) (fun s19 : Int × (List api_Line) => ([(1002, some (.box 45 (.st [(i6 0), (i6 0), (i6 0), .nils, (i6 0)]))), (1006, some (.box 78 (.st [(.sref 13060 3 0 s19.2.length)]))), (13060, some (we_api_Line_51_3 s19.2))] : OL)) (fun (x : (Unit) ⊕ ((List api_Line))) e E' O' => match x with | (.inl _p) => e = .ret ∧ Mat B E' O' ([(2, (.ptr 1002 0 [])), (3, (i6 (35 : Int)))] : EL) ([(1002, some (.box 45 (.st [(i6 0), (i6 0), (i6 0), .nils, (i6 0)])))] : OL) | (.inr p75) => e = .exit 2 ∧ Mat B E' O' ([(0, (qe_api_Invoice_5 a0)), (2, (.ptr 1002 0 [])), (6, (.ptr 1006 0 []))] : EL) ([(1002, some (.box 45 (.st [(i6 0), (i6 0), (i6 0), .nils, (i6 0)]))), (1006, some (.box 78 (.st [(.sref 13060 3 0 p75.length)]))), (13060, some (we_api_Line_51_3 p75))] : OL)) hx103 (Mat.trans (Mat.beginP (n := 13060) (e := 51) (sz := 3) (Ts := []) (Bs := [(1006, some (.box 78 (.st [(.sref 13060 3 0 0)])))]) hB (by decide) (by rfl) (by decide) TwT.nil (TwB.cons (x := (.st [.nils])) (by rfl) (Tw.st (TwL.cons (Tw.leaf ⟨rfl, rfl⟩) TwL.nil)) TwB.nil)) (mp [] _ _ hB)) (fun s19 y h => ?_) (fun e E' O' hR => ?_)
        · unfold invoice_Sum_L1 at h
          refine sr (c (OpJ.lss (L rfl) (q 34) (q 33)) rfl cn) ?_
          refine gh [(0, _), (2, _), (6, _), (32, _), (33, _), (34, _), (35, _)] [(1002, some _), (1006, some _), (13060, some _)] hB rfl rfl (by rfl) ?_
          refine AWp.seq ?_
          refine AWp.cond rfl (fun hg76 => ?_) (fun hg76 => ?_)
          · replace h := ite_t hg76 h
            refine AWp.skip ?_
            refine seqQ_n ?_
            refine AWp.seq ?_
            refine AWp.block ?_
            obtain ⟨x77, hx77, h⟩ := bindS h
            refine sr (c (mv hN (q 34)) rfl (c (OpJ.indexD Try.underlying53 tyS45 (idx_some hx77).1 (get_map e_api_Invoice (idx_some hx77).2) (L rfl) (q 32) (q 34)) rfl (c (OpJ.loadD tyS45 (by rfl) (by rfl) (L rfl) (q 37)) rfl (cg (OpJ.alloc hB tyZ45 (nm := 1008) (by decide) (L rfl)) rfl (c (OpJ.assign (L rfl) (q 36)) rfl (cg (OpJ.storeB tyS45 (SetAt.here _ _) (by rfl) (by rfl) (by simp) rfl (q 8) (q 38)) rfl cn)))))) ?_
            refine gh [(0, _), (2, _), (6, _), (7, _), (8, _), (32, _), (33, _), (34, _)] [(1002, some _), (1006, some _), (1008, some _), (13060, some _)] hB rfl rfl (by rfl) ?_
            refine AWp.seq ?_
            refine AWp.seq ?_
            refine AWp.cut h (fun m82 : Bool => ([(0, (qe_api_Invoice_5 a0)), (2, (.ptr 1002 0 [])), (6, (.ptr 1006 0 [])), (8, (.ptr 1008 0 [])), (32, (qe_api_Invoice_5 a0)), (33, (i6 (a0.length : Int))), (34, (i6 s19.1)), (61, (bo m82))] : EL)) (fun m82 : Bool => ([(1002, some (.box 45 (.st [(i6 0), (i6 0), (i6 0), .nils, (i6 0)]))), (1006, some (.box 78 (.st [(.sref 13060 3 0 s19.2.length)]))), (1008, some (.box 45 (.d (e_api_Invoice x77)))), (13060, some (we_api_Line_51_3 s19.2))] : OL)) (fun m82 h E' O' hmat => ?_) (fun j83 hjj83 h => ?_)
            · refine seqQ_n ?_
              refine AWp.ghost hmat ?_
              refine AWp.cond rfl (fun hg84 => ?_) (fun hg84 => ?_)
              · replace h := ite_t hg84 h
                refine sr (c (OpJ.build (places := [(0, 1), (1, 1), (2, 1), (3, 1), (4, 1)]) ⟨Try.underlying45, fun w => by kernel_rfl⟩ tyZS45 Opds.nil (by kernel_rfl) (r := (.st [(i6 0), (i6 0), (i6 0), .nils, (i6 0)])) (by rfl) (L rfl)) rfl (cg (OpJ.storeB tyS45 (SetAt.here _ _) (by rfl) (by rfl) (by simp) rfl (q 2) (q 62)) rfl (c (OpJ.assign (L rfl) (Opd.int .i64 (35))) rfl cn))) ?_
                refine gh [(2, _), (3, _)] [(1002, some _)] hB rfl rfl (by rfl) ?_
                refine AWp.ret ?_
                refine seqQ_r ?_
                refine blkQ_r ?_
                refine seqQ_r ?_
                obtain rfl := Option.some.inj h
                exact ⟨(fun hc => by cases hc), rfl, (mp [] _ _ hB)⟩
              · replace h := ite_f hg84 h
                refine AWp.skip ?_
                refine seqQ_n ?_
                refine sr (c (ov (.ptr 1008 3 [3]) (fp hN Try.underlying45 3 tyS43 _ (q 8))) rfl (c (lb hN 45 _ _ tyS43 (ad _) (q 63)) rfl (c (OpJ.val (v' := (i6 (x77.fLines.length : Int))) (by simp) (OpJ.lenD Try.underlying43 (L rfl) (q 64))) rfl (c (mv hN (Opd.int .i64 (0))) rfl cn)))) ?_
                refine gh [(0, _), (2, _), (6, _), (32, _), (33, _), (34, _), (64, _), (65, _), (66, _)] [(1002, some _), (1006, some _), (13060, some _)] hB rfl rfl (by rfl) ?_
                refine AWp.block ?_
                obtain ⟨p92, hx97, h⟩ := bindS h
                refine lg (invoice_Sum_L2 x77) (fun s85 : Int × (List api_Line) => ([(0, (qe_api_Invoice_5 a0)), (2, (.ptr 1002 0 [])), (6, (.ptr 1006 0 [])), (32, (qe_api_Invoice_5 a0)), (33, (i6 (a0.length : Int))), (34, (i6 s19.1)), (64, (qe_api_Line_3 x77.fLines)), (65, (i6 (x77.fLines.length : Int))), (66, (i6 s85.1))] : EL)) (fun s85 : Int × (List api_Line) => ([(1002, some (.box 45 (.st [(i6 0), (i6 0), (i6 0), .nils, (i6 0)]))), (1006, some (.box 78 (.st [(.sref 13060 3 0 s85.2.length)]))), (13060, some (we_api_Line_51_3 s85.2))] : OL)) (fun (p92 : ((List api_Line))) e E' O' => e = .exit 4 ∧ Mat B E' O' ([(0, (qe_api_Invoice_5 a0)), (2, (.ptr 1002 0 [])), (6, (.ptr 1006 0 [])), (32, (qe_api_Invoice_5 a0)), (33, (i6 (a0.length : Int))), (34, (i6 s19.1))] : EL) ([(1002, some (.box 45 (.st [(i6 0), (i6 0), (i6 0), .nils, (i6 0)]))), (1006, some (.box 78 (.st [(.sref 13060 3 0 p92.length)]))), (13060, some (we_api_Line_51_3 p92))] : OL)) hx97 (mp [] _ _ hB) (fun s85 y h => ?_) (fun e E' O' hR => ?_)
                · unfold invoice_Sum_L2 at h
                  refine sr (c (OpJ.lss (L rfl) (q 66) (q 65)) rfl cn) ?_
                  refine gh [(0, _), (2, _), (6, _), (32, _), (33, _), (34, _), (64, _), (65, _), (66, _), (67, _)] [(1002, some _), (1006, some _), (13060, some _)] hB rfl rfl (by rfl) ?_
                  refine AWp.seq ?_
                  refine AWp.cond rfl (fun hg93 => ?_) (fun hg93 => ?_)
                  · replace h := ite_t hg93 h
                    refine AWp.skip ?_
                    refine seqQ_n ?_
                    refine AWp.seq ?_
                    refine AWp.block ?_
                    obtain ⟨x94, hx94, h⟩ := bindS h
                    refine sr (c (OpJ.indexD Try.underlying43 tyS51 (idx_some hx94).1 (get_map e_api_Line (idx_some hx94).2) (L rfl) (q 64) (q 66)) rfl (c (OpJ.loadD tyS51 (by rfl) (by rfl) (L rfl) (q 68)) rfl (cg (OpJ.alloc hB tyZ51 (nm := 1010) (by decide) (L rfl)) rfl (cg (OpJ.storeB tyS51 (SetAt.here _ _) (by rfl) (by rfl) (by simp) rfl (q 10) (q 69)) rfl cn)))) ?_
                    refine gh [(0, _), (2, _), (6, _), (10, _), (32, _), (33, _), (34, _), (64, _), (65, _), (66, _)] [(1002, some _), (1006, some _), (1010, some _), (13060, some _)] hB rfl rfl (by rfl) ?_
                    obtain ⟨r95, hr95, h⟩ := bindS h
                    refine AWp.region (oc (lb hN 51 (.d (e_api_Line x94)) (.d (e_api_Line x94)) tyS51 (At.here _) (ot 10 (.ptr 1010 0 [])))
                      (oc (OpJ.callFn hB fnOk34 (invoice_sums_add_2_ac s85.2 x94 (1 : Int) r95 hr95) [(0, 1006), (1, 13060), (950000, 100100)] (by kernel_rfl) (L rfl) (by kernel_rfl) (OpdL.cons (ot 6 (.ptr 1006 0 [])) (OpdL.cons (ot 70 (.d (e_api_Line x94))) (OpdL.cons (Opd.int .i64 (1)) OpdL.nil))))
                      (OpJs.nil))) (by rfl) (by rfl) ?_
                    refine blkQ_n ?_
                    refine seqQ_n ?_
                    refine AWp.ghost (mp [] [(0, (qe_api_Invoice_5 a0)), (2, (.ptr 1002 0 [])), (6, (.ptr 1006 0 [])), (32, (qe_api_Invoice_5 a0)), (33, (i6 (a0.length : Int))), (34, (i6 s19.1)), (64, (qe_api_Line_3 x77.fLines)), (65, (i6 (x77.fLines.length : Int))), (66, (i6 s85.1))] [(1002, some (.box 45 (.st [(i6 0), (i6 0), (i6 0), .nils, (i6 0)]))), (1006, some (.box 78 (.st [(.sref 100100 3 0 r95.flines.length)]))), (100100, some (we_api_Line_51_3 r95.flines))] hB) ?_
                    refine rg (c (add6 (L rfl) (q 66) (Opd.int .i64 (1))) rfl (c (mv hN (q 72)) rfl cn)) ?_
                    obtain rfl := Option.some.inj h
                    exact ⟨rfl, (Mat.trans (mp [] [(0, (qe_api_Invoice_5 a0)), (2, (.ptr 1002 0 [])), (6, (.ptr 1006 0 [])), (32, (qe_api_Invoice_5 a0)), (33, (i6 (a0.length : Int))), (34, (i6 s19.1)), (64, (qe_api_Line_3 x77.fLines)), (65, (i6 (x77.fLines.length : Int))), (66, (i6 (w64 (s85.1 + (1 : Int)))))] [(1002, some (.box 45 (.st [(i6 0), (i6 0), (i6 0), .nils, (i6 0)]))), (1006, some (.box 78 (.st [(.sref 100100 3 0 r95.flines.length)]))), (100100, some (we_api_Line_51_3 r95.flines))] hB) (mp [(13060, 100100)] _ _ hB))⟩
                  · replace h := ite_f hg93 h
                    refine AWp.exit ?_
                    refine seqQ_e ?_
                    obtain rfl := Option.some.inj h
                    exact ⟨(fun hc => by cases hc), rfl, (mp [] _ _ hB)⟩
                · obtain ⟨rfl, hmat⟩ := hR
                  refine blkQ_hit ?_
                  refine blkQ_n ?_
                  refine seqQ_n ?_
                  refine AWp.ghost hmat ?_
                  refine rg (c (add6 (L rfl) (q 34) (Opd.int .i64 (1))) rfl (c (mv hN (q 73)) rfl cn)) ?_
                  obtain rfl := Option.some.inj h
                  exact ⟨rfl, (Mat.trans (mp [] [(0, (qe_api_Invoice_5 a0)), (2, (.ptr 1002 0 [])), (6, (.ptr 1006 0 [])), (32, (qe_api_Invoice_5 a0)), (33, (i6 (a0.length : Int))), (34, (i6 (w64 (s19.1 + (1 : Int)))))] [(1002, some (.box 45 (.st [(i6 0), (i6 0), (i6 0), .nils, (i6 0)]))), (1006, some (.box 78 (.st [(.sref 13060 3 0 p92.length)]))), (13060, some (we_api_Line_51_3 p92))] hB) (mp [] _ _ hB))⟩
            · rcases Bool.eq_false_or_eq_true (x77.fVersion != (w64 (s19.1 + (1 : Int)))) with hg98 | hg98
              · replace h := ite_t hg98 h
                refine dr (c (ov (.ptr 1008 2 [2]) (fp hN Try.underlying45 2 tyS3 _ (q 8))) rfl (c (lb hN 45 _ _ tyS3 (ad _) (q 39)) rfl (c (mv hN (q 7)) rfl (c (add6 (L rfl) (q 41) (Opd.int .i64 (1))) rfl (c (OpJ.neqI (L rfl) (q 40) (q 42)) rfl (c (OpJ.val (v' := .d (.bool true)) (by rw [hg98]) (mv hN (q 43))) rfl (cg (OpJ.skipU (g := 44) (L rfl) (by rfl)) rfl (cg (OpJ.skipU (g := 44) (L rfl) (by rfl)) rfl (cg (OpJ.skipU (g := 44) (L rfl) (by rfl)) rfl (cg (OpJ.skipU (g := 44) (L rfl) (by rfl)) rfl (cg (OpJ.skipU (g := 44) (L rfl) (by rfl)) rfl (cg (OpJ.skipU (g := 44) (L rfl) (by rfl)) rfl (cg (OpJ.skipU (g := 44) (L rfl) (by rfl)) rfl (c (OpJ.pickT (L rfl) (q 44) (Opd.bool true)) rfl (c (mv hN (q 52)) rfl (cg (OpJ.skipU (g := 53) (L rfl) (by rfl)) rfl (cg (OpJ.skipU (g := 53) (L rfl) (by rfl)) rfl (cg (OpJ.skipU (g := 53) (L rfl) (by rfl)) rfl (cg (OpJ.skipU (g := 53) (L rfl) (by rfl)) rfl (cg (OpJ.skipU (g := 53) (L rfl) (by rfl)) rfl (cg (OpJ.skipU (g := 53) (L rfl) (by rfl)) rfl (cg (OpJ.skipU (g := 53) (L rfl) (by rfl)) rfl (c (OpJ.pickT (L rfl) (q 53) (Opd.bool true)) rfl cn))))))))))))))))))))))) (by kernel_rfl) (by kernel_rfl) ?_
                exact hjj83 _ h _ _ (Mat.trans (mp [] [(0, (qe_api_Invoice_5 a0)), (2, (.ptr 1002 0 [])), (6, (.ptr 1006 0 [])), (8, (.ptr 1008 0 [])), (32, (qe_api_Invoice_5 a0)), (33, (i6 (a0.length : Int))), (34, (i6 s19.1)), (61, (bo true))] [(1002, some (.box 45 (.st [(i6 0), (i6 0), (i6 0), .nils, (i6 0)]))), (1006, some (.box 78 (.st [(.sref 13060 3 0 s19.2.length)]))), (1008, some (.box 45 (.d (e_api_Invoice x77)))), (13060, some (we_api_Line_51_3 s19.2))] hB) (mp [] _ _ hB))
              · replace h := ite_f hg98 h
                obtain ⟨x99, hx99, h⟩ := bindS h
                rcases Bool.eq_false_or_eq_true (x77.fMember != x99.fMember) with hg100 | hg100
                · replace h := ite_t hg100 h
                  refine dr (c (ov (.ptr 1008 2 [2]) (fp hN Try.underlying45 2 tyS3 _ (q 8))) rfl (c (lb hN 45 _ _ tyS3 (ad _) (q 39)) rfl (c (mv hN (q 7)) rfl (c (add6 (L rfl) (q 41) (Opd.int .i64 (1))) rfl (c (OpJ.neqI (L rfl) (q 40) (q 42)) rfl (c (OpJ.val (v' := .d (.bool false)) (by rw [hg98]) (mv hN (q 43))) rfl (c (OpJ.guarded (g := 44) (by rfl) (ov (.ptr 1008 0 [0]) (fp hN Try.underlying45 0 tyS3 _ (q 8)))) rfl (c (OpJ.guarded (g := 44) (by rfl) (lb hN 45 _ _ tyS3 (ad _) (q 45))) rfl (c (OpJ.guarded (g := 44) (by rfl) (mv hN (q 0))) rfl (c (OpJ.guarded (g := 44) (by rfl) (OpJ.indexD Try.underlying53 tyS45 (idx_some hx99).1 (get_map e_api_Invoice (idx_some hx99).2) (L rfl) (q 47) (Opd.int .i64 (0)))) rfl (c (OpJ.guarded (g := 44) (by rfl) (OpJ.fieldD Try.underlying45 (by rfl) (o := 0) (by rfl) tyS3 (by decide) (by rfl) (by rfl) (L rfl) (q 48))) rfl (c (OpJ.guarded (g := 44) (by rfl) (OpJ.loadD tyS3 (by rfl) (by rfl) (L rfl) (q 49))) rfl (c (OpJ.guarded (g := 44) (by rfl) (OpJ.neqI (L rfl) (q 46) (q 50))) rfl (c (OpJ.pickF (L rfl) (q 44) (q 51)) rfl (c (OpJ.val (v' := .d (.bool true)) (by rw [hg100]) (mv hN (q 52))) rfl (cg (OpJ.skipU (g := 53) (L rfl) (by rfl)) rfl (cg (OpJ.skipU (g := 53) (L rfl) (by rfl)) rfl (cg (OpJ.skipU (g := 53) (L rfl) (by rfl)) rfl (cg (OpJ.skipU (g := 53) (L rfl) (by rfl)) rfl (cg (OpJ.skipU (g := 53) (L rfl) (by rfl)) rfl (cg (OpJ.skipU (g := 53) (L rfl) (by rfl)) rfl (cg (OpJ.skipU (g := 53) (L rfl) (by rfl)) rfl (c (OpJ.pickT (L rfl) (q 53) (Opd.bool true)) rfl cn))))))))))))))))))))))) (by kernel_rfl) (by kernel_rfl) ?_
                  exact hjj83 _ h _ _ (Mat.trans (mp [] [(0, (qe_api_Invoice_5 a0)), (2, (.ptr 1002 0 [])), (6, (.ptr 1006 0 [])), (8, (.ptr 1008 0 [])), (32, (qe_api_Invoice_5 a0)), (33, (i6 (a0.length : Int))), (34, (i6 s19.1)), (61, (bo true))] [(1002, some (.box 45 (.st [(i6 0), (i6 0), (i6 0), .nils, (i6 0)]))), (1006, some (.box 78 (.st [(.sref 13060 3 0 s19.2.length)]))), (1008, some (.box 45 (.d (e_api_Invoice x77)))), (13060, some (we_api_Line_51_3 s19.2))] hB) (mp [] _ _ hB))
                · replace h := ite_f hg100 h
                  obtain ⟨x101, hx101, h⟩ := bindS h
                  refine dr (c (ov (.ptr 1008 2 [2]) (fp hN Try.underlying45 2 tyS3 _ (q 8))) rfl (c (lb hN 45 _ _ tyS3 (ad _) (q 39)) rfl (c (mv hN (q 7)) rfl (c (add6 (L rfl) (q 41) (Opd.int .i64 (1))) rfl (c (OpJ.neqI (L rfl) (q 40) (q 42)) rfl (c (OpJ.val (v' := .d (.bool false)) (by rw [hg98]) (mv hN (q 43))) rfl (c (OpJ.guarded (g := 44) (by rfl) (ov (.ptr 1008 0 [0]) (fp hN Try.underlying45 0 tyS3 _ (q 8)))) rfl (c (OpJ.guarded (g := 44) (by rfl) (lb hN 45 _ _ tyS3 (ad _) (q 45))) rfl (c (OpJ.guarded (g := 44) (by rfl) (mv hN (q 0))) rfl (c (OpJ.guarded (g := 44) (by rfl) (OpJ.indexD Try.underlying53 tyS45 (idx_some hx99).1 (get_map e_api_Invoice (idx_some hx99).2) (L rfl) (q 47) (Opd.int .i64 (0)))) rfl (c (OpJ.guarded (g := 44) (by rfl) (OpJ.fieldD Try.underlying45 (by rfl) (o := 0) (by rfl) tyS3 (by decide) (by rfl) (by rfl) (L rfl) (q 48))) rfl (c (OpJ.guarded (g := 44) (by rfl) (OpJ.loadD tyS3 (by rfl) (by rfl) (L rfl) (q 49))) rfl (c (OpJ.guarded (g := 44) (by rfl) (OpJ.neqI (L rfl) (q 46) (q 50))) rfl (c (OpJ.pickF (L rfl) (q 44) (q 51)) rfl (c (OpJ.val (v' := .d (.bool false)) (by rw [hg100]) (mv hN (q 52))) rfl (c (OpJ.guarded (g := 53) (by rfl) (ov (.ptr 1008 1 [1]) (fp hN Try.underlying45 1 tyS3 _ (q 8)))) rfl (c (OpJ.guarded (g := 53) (by rfl) (lb hN 45 _ _ tyS3 (ad _) (q 54))) rfl (c (OpJ.guarded (g := 53) (by rfl) (mv hN (q 0))) rfl (c (OpJ.guarded (g := 53) (by rfl) (OpJ.indexD Try.underlying53 tyS45 (idx_some hx101).1 (get_map e_api_Invoice (idx_some hx101).2) (L rfl) (q 56) (Opd.int .i64 (0)))) rfl (c (OpJ.guarded (g := 53) (by rfl) (OpJ.fieldD Try.underlying45 (by rfl) (o := 1) (by rfl) tyS3 (by decide) (by rfl) (by rfl) (L rfl) (q 57))) rfl (c (OpJ.guarded (g := 53) (by rfl) (OpJ.loadD tyS3 (by rfl) (by rfl) (L rfl) (q 58))) rfl (c (OpJ.guarded (g := 53) (by rfl) (OpJ.neqI (L rfl) (q 55) (q 59))) rfl (c (OpJ.pickF (L rfl) (q 53) (q 60)) rfl cn))))))))))))))))))))))) (by kernel_rfl) (by kernel_rfl) ?_
                  exact hjj83 _ h _ _ (Mat.trans (mp [] [(0, (qe_api_Invoice_5 a0)), (2, (.ptr 1002 0 [])), (6, (.ptr 1006 0 [])), (8, (.ptr 1008 0 [])), (32, (qe_api_Invoice_5 a0)), (33, (i6 (a0.length : Int))), (34, (i6 s19.1)), (61, (bo (x77.fMonth != x101.fMonth)))] [(1002, some (.box 45 (.st [(i6 0), (i6 0), (i6 0), .nils, (i6 0)]))), (1006, some (.box 78 (.st [(.sref 13060 3 0 s19.2.length)]))), (1008, some (.box 45 (.d (e_api_Invoice x77)))), (13060, some (we_api_Line_51_3 s19.2))] hB) (mp [] _ _ hB))
          · replace h := ite_f hg76 h
            refine AWp.exit ?_
            refine seqQ_e ?_
            obtain rfl := Option.some.inj h
            exact ⟨(fun hc => by cases hc), rfl, (mp [] _ _ hB)⟩
        · rcases x102 with _ | p75
          · obtain ⟨rfl, hmat⟩ := hR
            refine blkQ_r ?_
            refine seqQ_r ?_
            obtain rfl := Option.some.inj h
            exact ⟨.inl rfl, _, _, (Mat.trans hmat (Mat.trans (Mat.coeP (Ts := []) (Bs := [(1002, some (.box 45 (.d (.st [(.int .i64 0), (.int .i64 0), (.int .i64 0), (.list 3 (([] : List api_Line).map e_api_Line)), (.int .i64 0)]))))]) TwT.nil (TwB.cons (x := (.st [(i6 0), (i6 0), (i6 0), .nils, (i6 0)])) (by rfl) (Tw.leaf ⟨_, (Co.st (CoL.cons (Co.d _) (CoL.cons (Co.d _) (CoL.cons (Co.d _) (CoL.cons (Co.nils 3) (CoL.cons (Co.d _) CoL.nil)))))), rfl⟩) TwB.nil)) (mp [] [(2, (.ptr 1002 0 [])), (3, (i6 (35 : Int)))] [(1002, some (.box 45 (.d (.st [(.int .i64 0), (.int .i64 0), (.int .i64 0), (.list 3 (([] : List api_Line).map e_api_Line)), (.int .i64 0)]))))] hB))), [(.d (.st [(.int .i64 0), (.int .i64 0), (.int .i64 0), (.list 3 (([] : List api_Line).map e_api_Line)), (.int .i64 0)])), (i6 (35 : Int))], (Res.cell (c := (.d (.st [(.int .i64 0), (.int .i64 0), (.int .i64 0), (.list 3 (([] : List api_Line).map e_api_Line)), (.int .i64 0)]))) (by rfl) (by rfl) tyS45 (by rfl) (by rfl) (by rfl) (Res.tmp (by rfl) (by rfl) Res.nil)), rfl, by rfl, by rfl, by rfl⟩
          · obtain ⟨rfl, hmat⟩ := hR
            refine blkQ_hit ?_
            refine seqQ_n ?_
            refine AWp.ghost hmat ?_
            refine AWp.seq ?_
            obtain ⟨x104, hx104, h⟩ := bindS h
            obtain ⟨x105, hx105, h⟩ := bindS h
            obtain ⟨r106, hr106, h⟩ := bindS h
            refine AWp.draws (by kernel_rfl) (oc (mv hN (ot 0 (qe_api_Invoice_5 a0)))
              (oc (OpJ.indexD (el := (e_api_Invoice x104)) Try.underlying53 tyS45 (idx_some hx104).1 (get_map e_api_Invoice (idx_some hx104).2) (L rfl) (ot 74 (qe_api_Invoice_5 a0)) (Opd.int .i64 (0)))
              (oc (OpJ.fieldD Try.underlying45 (by rfl) (o := 0) (by rfl) tyS3 (by decide) (ds := [(.int .i64 x104.fMember), (.int .i64 x104.fMonth), (.int .i64 x104.fVersion), (.list 3 (x104.fLines.map e_api_Line)), (.int .i64 x104.fTotal)]) (e := (.int .i64 x104.fMember)) (by rfl) (by rfl) (L rfl) (ot 75 (.dptr (e_api_Invoice x104))))
              (oc (OpJ.loadD tyS3 (by rfl) (by rfl) (L rfl) (ot 76 (.dptr (.int .i64 x104.fMember))))
              (oc (mv hN (ot 0 (qe_api_Invoice_5 a0)))
              (oc (OpJ.indexD (el := (e_api_Invoice x105)) Try.underlying53 tyS45 (idx_some hx105).1 (get_map e_api_Invoice (idx_some hx105).2) (L rfl) (ot 78 (qe_api_Invoice_5 a0)) (Opd.int .i64 (0)))
              (oc (OpJ.fieldD Try.underlying45 (by rfl) (o := 1) (by rfl) tyS3 (by decide) (ds := [(.int .i64 x105.fMember), (.int .i64 x105.fMonth), (.int .i64 x105.fVersion), (.list 3 (x105.fLines.map e_api_Line)), (.int .i64 x105.fTotal)]) (e := (.int .i64 x105.fMonth)) (by rfl) (by rfl) (L rfl) (ot 79 (.dptr (e_api_Invoice x105))))
              (oc (OpJ.loadD tyS3 (by rfl) (by rfl) (L rfl) (ot 80 (.dptr (.int .i64 x105.fMonth))))
              (oc (mv hN (ot 0 (qe_api_Invoice_5 a0)))
              (oc (OpJ.val (v' := (i6 (a0.length : Int))) (by simp) (OpJ.lenD Try.underlying53 (L rfl) (ot 82 (qe_api_Invoice_5 a0))))
              (oc (OpJ.callFn hB fnOk35 (invoice_sums_invoice_ac p75 x104.fMember x105.fMonth (a0.length : Int) r106 hr106) [(0, 1006), (1, 13060)] (by kernel_rfl) (L rfl) (by kernel_rfl) (OpdL.cons (ot 6 (.ptr 1006 0 [])) (OpdL.cons (ot 77 (i6 x104.fMember)) (OpdL.cons (ot 81 (i6 x105.fMonth)) (OpdL.cons (ot 83 (i6 (a0.length : Int))) OpdL.nil)))))
              (oc (OpJ.alloc hB tyZ45 (nm := 1011) (by decide) (L rfl))
              (oc (OpJ.storeB (bt := 45) (c := (.st [(i6 0), (i6 0), (i6 0), .nils, (i6 0)])) (v := (.d (e_api_Invoice r106.1))) (c' := (.d (e_api_Invoice r106.1))) tyS45 (SetAt.here _ _) (by rfl) (by rfl) (by simp) rfl (ot 11 (.ptr 1011 0 [])) (ot 84 (.d (e_api_Invoice r106.1))))
              (OpJs.nil)))))))))))))) (by kernel_rfl) (by rfl) (by rfl) ?_
            refine seqQ_n ?_
            refine AWp.ghost (mp [] [(2, (.ptr 1002 0 [])), (11, (.ptr 1011 0 []))] [(1002, some (.box 45 (.st [(i6 0), (i6 0), (i6 0), .nils, (i6 0)]))), (1011, some (.box 45 (.d (e_api_Invoice r106.1))))] hB) ?_
            refine AWp.seq ?_
            obtain ⟨r107, hr107, h⟩ := bindS h
            refine sr (c (lb hN 45 _ _ tyS45 (At.here _) (q 11)) rfl (cg (OpJ.callFn hB fnOk41 (invoice_consistent_ac r106.1 r107 hr107) [] (by kernel_rfl) (L rfl) (by kernel_rfl) (OpdL.cons (q 85) OpdL.nil)) rfl (c (OpJ.not (L rfl) (q 86)) rfl cn))) ?_
            refine gh [(2, _), (11, _), (87, _)] [(1002, some _), (1011, some _)] hB rfl rfl (by rfl) ?_
            refine AWp.cond rfl (fun hg108 => ?_) (fun hg108 => ?_)
            · replace h := ite_t hg108 h
              refine sr (c (OpJ.build (places := [(0, 1), (1, 1), (2, 1), (3, 1), (4, 1)]) ⟨Try.underlying45, fun w => by kernel_rfl⟩ tyZS45 Opds.nil (by kernel_rfl) (r := (.st [(i6 0), (i6 0), (i6 0), .nils, (i6 0)])) (by rfl) (L rfl)) rfl (cg (OpJ.storeB tyS45 (SetAt.here _ _) (by rfl) (by rfl) (by simp) rfl (q 2) (q 88)) rfl (c (OpJ.assign (L rfl) (Opd.int .i64 (3))) rfl cn))) ?_
              refine gh [(2, _), (3, _)] [(1002, some _)] hB rfl rfl (by rfl) ?_
              refine AWp.ret ?_
              refine seqQ_r ?_
              obtain rfl := Option.some.inj h
              exact ⟨.inl rfl, _, _, (Mat.trans (Mat.coeP (Ts := []) (Bs := [(1002, some (.box 45 (.d (.st [(.int .i64 0), (.int .i64 0), (.int .i64 0), (.list 3 (([] : List api_Line).map e_api_Line)), (.int .i64 0)]))))]) TwT.nil (TwB.cons (x := (.st [(i6 0), (i6 0), (i6 0), .nils, (i6 0)])) (by rfl) (Tw.leaf ⟨_, (Co.st (CoL.cons (Co.d _) (CoL.cons (Co.d _) (CoL.cons (Co.d _) (CoL.cons (Co.nils 3) (CoL.cons (Co.d _) CoL.nil)))))), rfl⟩) TwB.nil)) (mp [] [(2, (.ptr 1002 0 [])), (3, (i6 (3 : Int)))] [(1002, some (.box 45 (.d (.st [(.int .i64 0), (.int .i64 0), (.int .i64 0), (.list 3 (([] : List api_Line).map e_api_Line)), (.int .i64 0)]))))] hB)), [(.d (.st [(.int .i64 0), (.int .i64 0), (.int .i64 0), (.list 3 (([] : List api_Line).map e_api_Line)), (.int .i64 0)])), (i6 (3 : Int))], (Res.cell (c := (.d (.st [(.int .i64 0), (.int .i64 0), (.int .i64 0), (.list 3 (([] : List api_Line).map e_api_Line)), (.int .i64 0)]))) (by rfl) (by rfl) tyS45 (by rfl) (by rfl) (by rfl) (Res.tmp (by rfl) (by rfl) Res.nil)), rfl, by rfl, by rfl, by rfl⟩
            · replace h := ite_f hg108 h
              refine AWp.skip ?_
              refine seqQ_n ?_
              refine sr (c (lb hN 45 _ _ tyS45 (At.here _) (q 11)) rfl (cg (OpJ.storeB tyS45 (SetAt.here _ _) (by rfl) (by rfl) (by simp) rfl (q 2) (q 89)) rfl (c (OpJ.assign (L rfl) (Opd.int .i64 (0))) rfl cn))) ?_
              refine gh [(2, _), (3, _)] [(1002, some _)] hB rfl rfl (by rfl) ?_
              refine AWp.ret ?_
              obtain rfl := Option.some.inj h
              exact ⟨.inl rfl, _, _, (kp [(2, _), (3, _)] [(1002, some _)] hB rfl rfl (by rfl)), [(.d (e_api_Invoice r106.1)), (i6 0)], (Res.cell (c := (.d (e_api_Invoice r106.1))) (by rfl) (by rfl) tyS45 (by rfl) (by rfl) (by rfl) (Res.tmp (by rfl) (by rfl) Res.nil)), rfl, by rfl, by rfl, by rfl⟩

noncomputable def invoice_Correct_1 (a0 : api_Line) : Option (Bool) :=
  some ((a0.fUsed == (0 : Int)) && (a0.fAmount == (0 : Int)))
set_option maxHeartbeats 4000000 in
set_option maxRecDepth 100000 in
theorem invoice_Correct_1_ac (a0 : api_Line) (r : Bool) (h : invoice_Correct_1 a0 = some r) : AC Try.prog 43 [(.d (e_api_Line a0))] [] (.d (.bool r)) [] := by
  refine AC.of_code2 Try.func43 rfl rfl (Nat.le_of_ble_eq_true (by rfl)) fun B hB hN => ?_
  delta invoice_Correct_1 at h
  refine sr (cg (OpJ.box hB (nm := 1001) (by decide) (by simp) rfl (ltN hN rfl) (q 0)) rfl (c (OpJ.assign (ltN hN rfl) (Opd.bool false)) rfl cn)) ?_
  refine gh [(1, _)] [(1001, some _)] hB rfl rfl (by rfl) ?_
  refine sr (c (ov (.ptr 1001 1 [1]) (fp hN Try.underlying51 1 tyS3 _ (q 1))) rfl (c (lb hN 51 _ _ tyS3 (ad _) (q 3)) rfl (c (OpJ.eqlI (ltN hN rfl) (q 4) (Opd.int .i64 (0))) rfl (c (mv hN (q 5)) rfl (c (oq hN 6 (ov (.ptr 1001 2 [2]) (fp hN Try.underlying51 2 tyS3 _ (q 1))) (OptL.keep (by rfl) OptL.nil) (GuardV.plain _)) rfl (c (oq hN 6 (lb hN 51 _ _ tyS3 (ad _) (q 7)) (OptL.opt OptL.nil) (GuardV.plain _)) rfl (c (oq hN 6 (OpJ.eqlI (ltN hN rfl) (q 8) (Opd.int .i64 (0))) (OptL.opt OptL.nil) (GuardV.plain _)) rfl (c (OpJ.pickAnd rfl (ltN hN rfl) (q 6) (q 9)) rfl (c (OpJ.assign (ltN hN rfl) (q 10)) rfl cn))))))))) ?_
  refine gh [(2, _)] [] hB rfl rfl (by rfl) ?_
  refine AWp.ret ?_
  obtain rfl := Option.some.inj h
  exact ⟨.inl rfl, _, _, (kp [(2, _)] [] hB rfl rfl (by rfl)), [(bo ((a0.fUsed == (0 : Int)) && (a0.fAmount == (0 : Int))))], (Res.tmp (by rfl) (by rfl) Res.nil), rfl, by rfl, by rfl, by rfl⟩

noncomputable def slices_IndexFunc_2_L0 (a0 : (List api_Line)) (s1 : Int) : Option (((Int) ⊕ (Unit)) ⊕ (Int)) :=
  (if (decide (s1 < (a0.length : Int))) = true then
  (idx a0 s1).bind fun x15 =>
  (idx a0 s1).bind fun x16 =>
  (invoice_Correct_1 x16).bind fun r17 =>
  (if r17 = true then
  some (.inl (.inl s1))
  else
  some (.inr (w64 (s1 + (1 : Int)))))
  else
  some (.inl (.inr ())))
noncomputable def slices_IndexFunc_2 (a0 : (List api_Line)) : Option (Int) :=
  (loop (slices_IndexFunc_2_L0 a0) (0 : Int)).bind fun x19 => match x19 with
  | (.inl p12) =>
    some p12
  | (.inr _) =>
    some (-1 : Int)
set_option maxHeartbeats 4000000 in
set_option maxRecDepth 100000 in
theorem slices_IndexFunc_2_ac (a0 : (List api_Line)) (r : Int) (h : slices_IndexFunc_2 a0 = some r) : AC Try.prog 57 [(.sref 0 3 0 a0.length), (.func 43 [])] [(0, (.row 51 3 (a0.map e_api_Line)))] (.d (.int .i64 r)) [(0, some (.row 51 3 (a0.map e_api_Line)))] := by
  refine AC.of_code2 Try.func57 rfl rfl (Nat.le_of_ble_eq_true (by rfl)) fun B hB hN => ?_
  delta slices_IndexFunc_2 at h
  refine sr (c (OpJ.assign (ltN hN rfl) (Opd.int .i64 (0))) rfl cn) ?_
  refine gh [(0, _), (1, _)] [(0, some _)] hB rfl rfl (by rfl) ?_
  refine AWp.seq ?_
  refine sr (c (mv hN (q 0)) rfl (c (OpJ.lenS Try.underlying43 (ltN hN rfl) (q 6)) rfl (c (mv hN (Opd.int .i64 (0))) rfl cn))) ?_
  refine gh [(0, _), (1, _), (7, _), (8, _)] [(0, some _)] hB rfl rfl (by rfl) ?_
  refine AWp.block ?_
  obtain ⟨x19, hx20, h⟩ := bindS h
  refine lg (slices_IndexFunc_2_L0 a0) (fun s1 : Int => ([(0, (.sref 0 3 0 a0.length)), (1, (.func 43 [])), (7, (i6 (a0.length : Int))), (8, (i6 s1))] : EL)) (fun s1 : Int => ([(0, some (we_api_Line_51_3 a0))] : OL)) (fun (x : (Int) ⊕ (Unit)) e E' O' => match x with | (.inl p12) => e = .ret ∧ Mat B E' O' ([(4, (i6 p12))] : EL) ([(0, some (we_api_Line_51_3 a0))] : OL) | (.inr _p) => e = .exit 0 ∧ Mat B E' O' ([] : EL) ([(0, some (we_api_Line_51_3 a0))] : OL)) hx20 (mp [] _ _ hB) (fun s1 y h => ?_) (fun e E' O' hR => ?_)
  · unfold slices_IndexFunc_2_L0 at h
    refine sr (c (OpJ.lss (ltN hN rfl) (q 8) (q 7)) rfl cn) ?_
    refine gh [(0, _), (1, _), (7, _), (8, _), (9, _)] [(0, some _)] hB rfl rfl (by rfl) ?_
    refine AWp.seq ?_
    refine AWp.cond rfl (fun hg14 => ?_) (fun hg14 => ?_)
    · replace h := ite_t hg14 h
      refine AWp.skip ?_
      refine seqQ_n ?_
      refine AWp.seq ?_
      refine AWp.block ?_
      refine sr (c (mv hN (q 8)) rfl (c (OpJ.assign (ltN hN rfl) (q 10)) rfl cn)) ?_
      refine gh [(0, _), (1, _), (5, _), (7, _), (8, _)] [(0, some _)] hB rfl rfl (by rfl) ?_
      obtain ⟨x15, hx15, h⟩ := bindS h
      obtain ⟨x16, hx16, h⟩ := bindS h
      obtain ⟨r17, hr17, h⟩ := bindS h
      refine sr (c (mv hN (q 1)) rfl (c (mv hN (q 0)) rfl (c (mv hN (q 5)) rfl (c (OpJ.val (v' := (.ptr 0 (s1.toNat * 3) [s1.toNat])) (by simp) (OpJ.indexS Try.underlying43 tyS51 (idx_some hx15).1 (by have := idx_lt hx15; first | (simpa using this) | ((try simp only [List.length_map] at this); (try simp only [List.length_map]); omega)) (ltN hN rfl) (q 12) (q 13))) rfl (c (OpJ.loadR (e := 51) (sz := 3) tyS51 (get_map e_api_Line (idx_some hx16).2) (o := 0) (At.here _) (by rfl) (by rfl) (by rfl) (ltN hN rfl) (q 14)) rfl (cg (OpJ.callVal (args := [(.d (e_api_Line x16))]) (caps := []) hB fnOk43 [] (invoice_Correct_1_ac x16 r17 hr17) (by kernel_rfl) (ltN hN rfl) (by kernel_rfl) (by kernel_rfl) (OpdL.cons (q 15) OpdL.nil)) rfl cn)))))) ?_
      refine gh [(0, _), (1, _), (5, _), (7, _), (8, _), (16, _)] [(0, some _)] hB rfl rfl (by rfl) ?_
      refine AWp.cond rfl (fun hg18 => ?_) (fun hg18 => ?_)
      · replace h := ite_t hg18 h
        refine sr (c (mv hN (q 5)) rfl (c (OpJ.assign (ltN hN rfl) (q 17)) rfl cn)) ?_
        refine gh [(4, _)] [(0, some _)] hB rfl rfl (by rfl) ?_
        refine AWp.ret ?_
        refine blkQ_r ?_
        refine seqQ_r ?_
        obtain rfl := Option.some.inj h
        exact ⟨(fun hc => by cases hc), rfl, (mp [] _ _ hB)⟩
      · replace h := ite_f hg18 h
        refine AWp.skip ?_
        refine blkQ_n ?_
        refine seqQ_n ?_
        refine rg (c (add6 (ltN hN rfl) (q 8) (Opd.int .i64 (1))) rfl (c (mv hN (q 18)) rfl cn)) ?_
        obtain rfl := Option.some.inj h
        exact ⟨rfl, (Mat.trans (mp [] [(0, (.sref 0 3 0 a0.length)), (1, (.func 43 [])), (7, (i6 (a0.length : Int))), (8, (i6 (w64 (s1 + (1 : Int)))))] [(0, some (we_api_Line_51_3 a0))] hB) (mp [] _ _ hB))⟩
    · replace h := ite_f hg14 h
      refine AWp.exit ?_
      refine seqQ_e ?_
      obtain rfl := Option.some.inj h
      exact ⟨(fun hc => by cases hc), rfl, (mp [] _ _ hB)⟩
  · rcases x19 with p12 | _
    · obtain ⟨rfl, hmat⟩ := hR
      refine blkQ_r ?_
      refine seqQ_r ?_
      obtain rfl := Option.some.inj h
      exact ⟨.inl rfl, _, _, (Mat.trans hmat (mp [] [(4, (i6 p12))] [(0, some (we_api_Line_51_3 a0))] hB)), [(i6 p12)], (Res.tmp (by rfl) (by rfl) Res.nil), rfl, by rfl, by rfl, by rfl⟩
    · obtain ⟨rfl, hmat⟩ := hR
      refine blkQ_hit ?_
      refine seqQ_n ?_
      refine AWp.ghost hmat ?_
      refine sr (c (OpJ.assign (ltN hN rfl) (Opd.int .i64 (-1))) rfl cn) ?_
      refine gh [(4, _)] [(0, some _)] hB rfl rfl (by rfl) ?_
      refine AWp.ret ?_
      obtain rfl := Option.some.inj h
      exact ⟨.inl rfl, _, _, (kp [(4, _)] [(0, some _)] hB rfl rfl (by rfl)), [(i6 (-1 : Int))], (Res.tmp (by rfl) (by rfl) Res.nil), rfl, by rfl, by rfl, by rfl⟩

noncomputable def slices_DeleteFunc_L0 (s3 : Int × Int × (List api_Line)) : Option (((Int × (List api_Line))) ⊕ (Int × Int × (List api_Line))) :=
  (if (decide (s3.2.1 < (s3.2.2.length : Int))) = true then
  (idx s3.2.2 s3.2.1).bind fun x30 =>
  (idx s3.2.2 s3.2.1).bind fun x31 =>
  (invoice_Correct_1 x31).bind fun r32 =>
  jn (fun m36 : Int × (List api_Line) =>
  some (.inr (m36.1, (w64 (s3.2.1 + (1 : Int))), m36.2))) (fun j37 =>
  (if (!r32) = true then
  (idx s3.2.2 s3.1).bind fun x39 =>
  (idx s3.2.2 s3.1).bind fun x40 =>
  j37 ((w64 (s3.1 + (1 : Int))), (s3.2.2.set s3.1.toNat x31))
  else
  j37 (s3.1, s3.2.2)))
  else
  some (.inl (s3.1, s3.2.2)))
noncomputable def slices_DeleteFunc (a0 : (List api_Line)) : Option ((List api_Line)) :=
  (slices_IndexFunc_2 a0).bind fun r1 =>
  (if (r1 == (-1 : Int)) = true then
  some a0
  else
  (loop (slices_DeleteFunc_L0) (r1, (w64 (r1 + (1 : Int))), a0)).bind fun p28 =>
  chk ((decide (0 ≤ p28.1) && decide (p28.1.toNat ≤ p28.2.length) && decide (p28.2.length ≤ p28.2.length))) <|
  chk (decide (p28.1.toNat + (p28.2.length - p28.1.toNat) ≤ p28.2.length)) <|
  chk ((decide (0 ≤ p28.1) && decide (0 ≤ p28.1.toNat) && decide (p28.1.toNat ≤ p28.2.length))) <|
  some (((p28.2.take p28.1.toNat ++ List.replicate (p28.2.length - p28.1.toNat) (api_Line.mk (0 : Int) (0 : Int) (0 : Int)) ++ p28.2.drop (p28.1.toNat + (p28.2.length - p28.1.toNat))).drop 0).take p28.1.toNat))
set_option maxHeartbeats 4000000 in
set_option maxRecDepth 100000 in
theorem slices_DeleteFunc_ac (a0 : (List api_Line)) (r : (List api_Line)) (h : slices_DeleteFunc a0 = some r) : AC Try.prog 42 [(.sref 0 3 0 a0.length), (.func 43 [])] [(0, (.row 51 3 (a0.map e_api_Line)))] (.d (.list 3 (r.map e_api_Line))) [(0, none)] := by
  refine AC.of_code2 Try.func42 rfl rfl (Nat.le_of_ble_eq_true (by rfl)) fun B hB hN => ?_
  have L {d : Nat} (h : Nat.blt d Try.f42.ntmps = true) : d < B.N := ltN hN h
  delta slices_DeleteFunc at h
  refine sr (c (OpJ.assign (L rfl) Opd.nils) rfl cn) ?_
  refine gh [(0, _), (1, _)] [(0, some _)] hB rfl rfl (by rfl) ?_
  refine AWp.seq ?_
  obtain ⟨r1, hr1, h⟩ := bindS h
  refine AWp.region (oc (mv hN (ot 0 (.sref 0 3 0 a0.length)))
  (oc (mv hN (ot 1 (.func 43 [])))
  (oc (OpJ.callFn hB fnOk57 (slices_IndexFunc_2_ac a0 r1 hr1) [(0, 0)] (by kernel_rfl) (L rfl) (by kernel_rfl) (OpdL.cons (ot 8 (.sref 0 3 0 a0.length)) (OpdL.cons (ot 9 (.func 43 [])) OpdL.nil)))
  (oc (OpJ.assign (L rfl) (ot 10 (i6 r1)))
  (OpJs.nil))))) (by rfl) (by rfl) ?_
  refine seqQ_n ?_
  refine AWp.ghost (mp [] [(0, (.sref 0 3 0 a0.length)), (1, (.func 43 [])), (5, (i6 r1))] [(0, some (we_api_Line_51_3 a0))] hB) ?_
  refine AWp.seq ?_
  refine sr (c (mv hN (q 5)) rfl (c (OpJ.eqlI (L rfl) (q 11) (Opd.int .i64 (-1))) rfl cn)) ?_
  refine gh [(0, _), (1, _), (5, _), (12, _)] [(0, some _)] hB rfl rfl (by rfl) ?_
  refine AWp.cond rfl (fun hg2 => ?_) (fun hg2 => ?_)
  · replace h := ite_t hg2 h
    refine sr (c (mv hN (q 0)) rfl (c (OpJ.assign (L rfl) (q 13)) rfl cn)) ?_
    refine gh [(4, _)] [(0, some _)] hB rfl rfl (by rfl) ?_
    refine AWp.ret ?_
    refine seqQ_r ?_
    obtain rfl := Option.some.inj h
    exact ⟨.inl rfl, _, _, (Mat.trans (Mat.freezeP (n := 0) (e := 51) (sz := 3) (es := a0.map e_api_Line) (Ts := [(4, (qe_api_Line_3 a0))]) (Bs := []) (by rfl) (TwT.cons (x := (.sref 0 3 0 a0.length)) (by rfl) (FrzL.all (by first | rfl | (simp; done) | (simp; omega))) TwT.nil) TwB.nil) (mp [] [(4, (qe_api_Line_3 a0))] [] hB)), [(qe_api_Line_3 a0)], (Res.tmp (by rfl) (by rfl) Res.nil), rfl, by rfl, by rfl, by rfl⟩
  · replace h := ite_f hg2 h
    refine AWp.skip ?_
    refine seqQ_n ?_
    refine AWp.seq ?_
    refine sr (c (mv hN (q 5)) rfl (c (add6 (L rfl) (q 14) (Opd.int .i64 (1))) rfl (c (OpJ.assign (L rfl) (q 15)) rfl cn))) ?_
    refine gh [(0, _), (1, _), (5, _), (6, _)] [(0, some _)] hB rfl rfl (by rfl) ?_
    refine AWp.block ?_
    obtain ⟨p28, hx42, h⟩ := bindS h
    refine lg (slices_DeleteFunc_L0) (fun s3 : Int × Int × (List api_Line) => ([(0, (.sref 0 3 0 s3.2.2.length)), (1, (.func 43 [])), (5, (i6 s3.1)), (6, (i6 s3.2.1))] : EL)) (fun s3 : Int × Int × (List api_Line) => ([(0, some (we_api_Line_51_3 s3.2.2))] : OL)) (fun (p28 : (Int × (List api_Line))) e E' O' => e = .exit 0 ∧ Mat B E' O' ([(0, (.sref 0 3 0 p28.2.length)), (5, (i6 p28.1))] : EL) ([(0, some (we_api_Line_51_3 p28.2))] : OL)) hx42 (mp [] _ _ hB) (fun s3 y h => ?_) (fun e E' O' hR => ?_)
    · unfold slices_DeleteFunc_L0 at h
      refine AWp.seq ?_
      refine sr (c (mv hN (q 6)) rfl (c (mv hN (q 0)) rfl (c (OpJ.lenS Try.underlying43 (L rfl) (q 17)) rfl (c (OpJ.lss (L rfl) (q 16) (q 18)) rfl cn)))) ?_
      refine gh [(0, _), (1, _), (5, _), (6, _), (19, _)] [(0, some _)] hB rfl rfl (by rfl) ?_
      refine AWp.cond rfl (fun hg29 => ?_) (fun hg29 => ?_)
      · replace h := ite_t hg29 h
        refine AWp.skip ?_
        refine seqQ_n ?_
        refine AWp.seq ?_
        refine AWp.block ?_
        obtain ⟨x30, hx30, h⟩ := bindS h
        obtain ⟨x31, hx31, h⟩ := bindS h
        refine sr (c (mv hN (q 0)) rfl (c (mv hN (q 6)) rfl (c (OpJ.val (v' := (.ptr 0 (s3.2.1.toNat * 3) [s3.2.1.toNat])) (by simp) (OpJ.indexS Try.underlying43 tyS51 (idx_some hx30).1 (by have := idx_lt hx30; first | (simpa using this) | ((try simp only [List.length_map] at this); (try simp only [List.length_map]); omega)) (L rfl) (q 22) (q 23))) rfl (c (OpJ.loadR (e := 51) (sz := 3) tyS51 (get_map e_api_Line (idx_some hx31).2) (o := 0) (At.here _) (by rfl) (by rfl) (by rfl) (L rfl) (q 24)) rfl (cg (OpJ.alloc hB tyZ51 (nm := 1007) (by decide) (L rfl)) rfl (cg (OpJ.storeB tyS51 (SetAt.here _ _) (by rfl) (by rfl) (by simp) rfl (q 7) (q 25)) rfl cn)))))) ?_
        refine gh [(0, _), (1, _), (5, _), (6, _), (7, _)] [(0, some _), (1007, some _)] hB rfl rfl (by rfl) ?_
        obtain ⟨r32, hr32, h⟩ := bindS h
        refine sr (c (mv hN (q 1)) rfl (c (lb hN 51 _ _ tyS51 (At.here _) (q 7)) rfl (cg (OpJ.callVal (args := [(.d (e_api_Line x31))]) (caps := []) hB fnOk43 [] (invoice_Correct_1_ac x31 r32 hr32) (by kernel_rfl) (L rfl) (by kernel_rfl) (by kernel_rfl) (OpdL.cons (q 27) OpdL.nil)) rfl (c (OpJ.not (L rfl) (q 28)) rfl cn)))) ?_
        refine gh [(0, _), (1, _), (5, _), (6, _), (7, _), (29, _)] [(0, some _), (1007, some _)] hB rfl rfl (by rfl) ?_
        refine AWp.cut h (fun m36 : Int × (List api_Line) => ([(0, (.sref 0 3 0 m36.2.length)), (1, (.func 43 [])), (5, (i6 m36.1)), (6, (i6 s3.2.1))] : EL)) (fun m36 : Int × (List api_Line) => ([(0, some (we_api_Line_51_3 m36.2))] : OL)) (fun m36 h E' O' hmat => ?_) (fun j37 hjj37 h => ?_)
        · refine blkQ_n ?_
          refine seqQ_n ?_
          refine AWp.ghost hmat ?_
          refine rg (c (mv hN (q 6)) rfl (c (add6 (L rfl) (q 20) (Opd.int .i64 (1))) rfl (c (OpJ.assign (L rfl) (q 21)) rfl cn))) ?_
          obtain rfl := Option.some.inj h
          exact ⟨rfl, (Mat.trans (mp [] [(0, (.sref 0 3 0 m36.2.length)), (1, (.func 43 [])), (5, (i6 m36.1)), (6, (i6 (w64 (s3.2.1 + (1 : Int)))))] [(0, some (we_api_Line_51_3 m36.2))] hB) (mp [] _ _ hB))⟩
        · refine AWp.cond rfl (fun hg38 => ?_) (fun hg38 => ?_)
          · replace h := ite_t hg38 h
            obtain ⟨x39, hx39, h⟩ := bindS h
            obtain ⟨x40, hx40, h⟩ := bindS h
            refine sr (c (mv hN (q 0)) rfl (c (mv hN (q 5)) rfl (c (lb hN 51 _ _ tyS51 (At.here _) (q 7)) rfl (c (OpJ.val (v' := (.ptr 0 (s3.1.toNat * 3) [s3.1.toNat])) (by simp) (OpJ.indexS Try.underlying43 tyS51 (idx_some hx39).1 (by have := idx_lt hx39; first | (simpa using this) | ((try simp only [List.length_map] at this); (try simp only [List.length_map]); omega)) (L rfl) (q 30) (q 31))) rfl (cg (OpJ.storeR (e := 51) (sz := 3) (es' := (s3.2.2.set s3.1.toNat x31).map e_api_Line) tyS51 (get_map e_api_Line (idx_some hx40).2) (o := 0) (SetAt.here _ _) (by rfl) (map_set _ _ _ _) (by rfl) (by rfl) (q 33) (q 32)) rfl cn))))) ?_
            refine gh [(0, _), (1, _), (5, _), (6, _)] [(0, some _)] hB rfl rfl (by rfl) ?_
            refine rg (c (mv hN (q 5)) rfl (c (add6 (L rfl) (q 34) (Opd.int .i64 (1))) rfl (c (OpJ.assign (L rfl) (q 35)) rfl cn))) ?_
            exact hjj37 _ h _ _ (Mat.trans (mp [] [(0, (.sref 0 3 0 s3.2.2.length)), (1, (.func 43 [])), (5, (i6 (w64 (s3.1 + (1 : Int))))), (6, (i6 s3.2.1))] [(0, some (we_api_Line_51_3 (s3.2.2.set s3.1.toNat x31)))] hB) (Mat.trans (Mat.lenP (Ts := [(0, (.sref 0 3 0 ((s3.2.2.set s3.1.toNat x31).length)))]) (Bs := []) (TwT.cons (x := (.sref 0 3 0 s3.2.2.length)) (by rfl) (Tw.leaf ⟨_, _, _, _, _, rfl, rfl, (by first | rfl | (simp; done) | (simp; omega))⟩) TwT.nil) TwB.nil) (mp [] _ _ hB)))
          · replace h := ite_f hg38 h
            refine AWp.skip ?_
            exact hjj37 _ h _ _ (mp [] _ _ hB)
      · replace h := ite_f hg29 h
        refine AWp.exit ?_
        refine seqQ_e ?_
        obtain rfl := Option.some.inj h
        exact ⟨(fun hc => by cases hc), rfl, (mp [] _ _ hB)⟩
    · obtain ⟨rfl, hmat⟩ := hR
      refine blkQ_hit ?_
      refine seqQ_n ?_
      refine AWp.ghost hmat ?_
      obtain ⟨hc43, h⟩ := chk_some h
      have hc43_o := hc43
      simp only [Bool.and_eq_true, decide_eq_true_eq] at hc43_o
      obtain ⟨hc44, h⟩ := chk_some h
      have hc44_o := hc44
      simp only [Bool.and_eq_true, decide_eq_true_eq] at hc44_o
      refine sr (c (mv hN (q 0)) rfl (c (mv hN (q 5)) rfl (c (OpJ.cutS Try.underlying43 tyS51 (l := p28.1.toNat) (h := p28.2.length) (off' := p28.1.toNat) (len' := (p28.2.length - p28.1.toNat)) (.inr ⟨_, _, _, rfl, (ot 37 (i6 p28.1)), (of_decide_eq_true (and_l2 (and_l2 hc43))), rfl⟩) (.inl ⟨rfl, rfl, rfl⟩) (of_decide_eq_true (and_r2 (and_l2 hc43))) (of_decide_eq_true (and_r2 hc43)) (by simp) (by simp) (L rfl) (q 36)) rfl (cg (OpJ.clearS (e := 51) (z := (.st [(.int .i64 0), (.int .i64 0), (.int .i64 0)])) (es := p28.2.map e_api_Line) (es' := (p28.2.take p28.1.toNat ++ List.replicate (p28.2.length - p28.1.toNat) (api_Line.mk (0 : Int) (0 : Int) (0 : Int)) ++ p28.2.drop (p28.1.toNat + (p28.2.length - p28.1.toNat))).map e_api_Line) Try.underlying43 tyZD51 (by rfl) (by decide) (by rw [List.length_map]; exact of_decide_eq_true hc44) (by simp only [List.map_append, List.map_take, List.map_drop, List.map_replicate]; rfl) (q 38)) rfl cn)))) ?_
      refine gh [(0, _), (5, _)] [(0, some _)] hB rfl rfl (by rfl) ?_
      obtain ⟨hc45, h⟩ := chk_some h
      have hc45_o := hc45
      simp only [Bool.and_eq_true, decide_eq_true_eq] at hc45_o
      refine sr (c (mv hN (q 0)) rfl (c (mv hN (q 5)) rfl (c (OpJ.cutS Try.underlying43 tyS51 (l := 0) (h := p28.1.toNat) (off' := 0) (len' := p28.1.toNat) (.inl ⟨rfl, rfl, rfl⟩) (.inr ⟨_, _, _, rfl, (ot 40 (i6 p28.1)), (of_decide_eq_true (and_l2 (and_l2 hc45))), rfl⟩) (of_decide_eq_true (and_r2 (and_l2 hc45))) (of_decide_eq_true (and_r2 hc45)) (by simp) (by simp) (L rfl) (q 39)) rfl (c (OpJ.assign (L rfl) (q 41)) rfl cn)))) ?_
      refine gh [(4, _)] [(0, some _)] hB rfl rfl (by rfl) ?_
      refine AWp.ret ?_
      obtain rfl := Option.some.inj h
      exact ⟨.inl rfl, _, _, (Mat.trans (Mat.freezeP (n := 0) (e := 51) (sz := 3) (es := (p28.2.take p28.1.toNat ++ List.replicate (p28.2.length - p28.1.toNat) (api_Line.mk (0 : Int) (0 : Int) (0 : Int)) ++ p28.2.drop (p28.1.toNat + (p28.2.length - p28.1.toNat))).map e_api_Line) (Ts := [(4, (qe_api_Line_3 (((p28.2.take p28.1.toNat ++ List.replicate (p28.2.length - p28.1.toNat) (api_Line.mk (0 : Int) (0 : Int) (0 : Int)) ++ p28.2.drop (p28.1.toNat + (p28.2.length - p28.1.toNat))).drop 0).take p28.1.toNat)))]) (Bs := []) (by rfl) (TwT.cons (x := (.sref 0 3 0 p28.1.toNat)) (by rfl) (FrzL.cut (fs := (((p28.2.take p28.1.toNat ++ List.replicate (p28.2.length - p28.1.toNat) (api_Line.mk (0 : Int) (0 : Int) (0 : Int)) ++ p28.2.drop (p28.1.toNat + (p28.2.length - p28.1.toNat))).drop 0).take p28.1.toNat).map e_api_Line) (by simp only [List.length_map, List.length_append, List.length_take, List.length_drop, List.length_replicate, List.length_set]; omega) (by first | rw [List.map_drop, List.map_take] | simp [List.map_take, List.map_drop])) TwT.nil) TwB.nil) (mp [] [(4, (qe_api_Line_3 (((p28.2.take p28.1.toNat ++ List.replicate (p28.2.length - p28.1.toNat) (api_Line.mk (0 : Int) (0 : Int) (0 : Int)) ++ p28.2.drop (p28.1.toNat + (p28.2.length - p28.1.toNat))).drop 0).take p28.1.toNat)))] [] hB)), [(qe_api_Line_3 (((p28.2.take p28.1.toNat ++ List.replicate (p28.2.length - p28.1.toNat) (api_Line.mk (0 : Int) (0 : Int) (0 : Int)) ++ p28.2.drop (p28.1.toNat + (p28.2.length - p28.1.toNat))).drop 0).take p28.1.toNat))], (Res.tmp (by rfl) (by rfl) Res.nil), rfl, by rfl, by rfl, by rfl⟩

noncomputable def invoice_sums_invoice_2_L0 (a0 : (List api_Line)) (s1 : Int × Int) : Option (((Int)) ⊕ (Int × Int)) :=
  (if (decide (s1.1 < (a0.length : Int))) = true then
  (idx a0 s1.1).bind fun x8 =>
  some (.inr ((w64 (s1.1 + (1 : Int))), (w64 (s1.2 + x8.fAmount))))
  else
  some (.inl s1.2))
noncomputable def invoice_sums_invoice_2 (a0 : (List api_Line)) (a1 : Int) (a2 : Int) (a3 : Int) : Option (api_Invoice × invoice_sums) :=
  (loop (invoice_sums_invoice_2_L0 a0) ((0 : Int), (0 : Int))).bind fun p6 =>
  some ((api_Invoice.mk a1 a2 a3 a0 p6), (invoice_sums.mk a0))
set_option maxHeartbeats 4000000 in
set_option maxRecDepth 100000 in
theorem invoice_sums_invoice_2_ac (a0 : (List api_Line)) (a1 : Int) (a2 : Int) (a3 : Int) (r : api_Invoice × invoice_sums) (h : invoice_sums_invoice_2 a0 a1 a2 a3 = some r) : AC Try.prog 35 [(.ptr 0 0 []), (.d (.int .i64 a1)), (.d (.int .i64 a2)), (.d (.int .i64 a3))] [(0, (.box 78 (.st [(.d (.list 3 (a0.map e_api_Line)))])))] (.d (e_api_Invoice r.1)) [(0, some (.box 78 (.d (e_invoice_sums r.2))))] := by
  refine AC.of_code2 Try.func35 rfl rfl (Nat.le_of_ble_eq_true (by rfl)) fun B hB hN => ?_
  delta invoice_sums_invoice_2 at h
  refine sr (cg (OpJ.alloc hB tyZ45 (nm := 1008) (by decide) (ltN hN rfl)) rfl cn) ?_
  refine gh [(0, _), (1, _), (2, _), (3, _), (8, _)] [(0, some _), (1008, some _)] hB rfl rfl (by rfl) ?_
  refine sr (c (mv hN (q 1)) rfl (c (mv hN (q 2)) rfl (c (mv hN (q 3)) rfl (c (mv hN (q 0)) rfl (c (OpJ.nilP (ltN hN rfl) (q 15)) rfl (c (ov (.ptr 0 0 [0]) (fp hN Try.underlying78 0 tyS43 _ (q 16))) rfl (c (lb hN 78 _ (qe_api_Line_3 a0) tyS43 (At.st1 (f := (qe_api_Line_3 a0)) (by rfl) (by rfl) (At.here _) (by first | rfl | omega)) (q 17)) rfl (c (OpJ.coe (v := (.st [(i6 a1), (i6 a2), (i6 a3), (qe_api_Line_3 a0), (i6 0)])) (y := (.st [(.int .i64 a1), (.int .i64 a2), (.int .i64 a3), (.list 3 (a0.map e_api_Line)), (.int .i64 0)])) (Co.st (CoL.cons (Co.d _) (CoL.cons (Co.d _) (CoL.cons (Co.d _) (CoL.cons (Co.d _) (CoL.cons (Co.d _) CoL.nil)))))) rfl (OpJ.build (places := [(0, 1), (1, 1), (2, 1), (3, 1), (4, 1)]) ⟨Try.underlying45, fun w => by kernel_rfl⟩ tyZS45 (Opds.cons (q 12) (Opds.cons (q 13) (Opds.cons (q 14) (Opds.cons (q 18) Opds.nil)))) (by kernel_rfl) (r := (.st [(i6 a1), (i6 a2), (i6 a3), (qe_api_Line_3 a0), (i6 0)])) (by rfl) (ltN hN rfl))) rfl (cg (OpJ.alloc hB tyZ45 (nm := 1009) (by decide) (ltN hN rfl)) rfl (cg (OpJ.storeB tyS45 (SetAt.here _ _) (by rfl) (by rfl) (by simp) rfl (q 9) (q 19)) rfl cn)))))))))) ?_
  refine gh [(0, _), (8, _), (9, _)] [(0, some _), (1008, some _), (1009, some _)] hB rfl rfl (by rfl) ?_
  refine AWp.seq ?_
  refine sr (c (mv hN (q 0)) rfl (c (OpJ.nilP (ltN hN rfl) (q 20)) rfl (c (ov (.ptr 0 0 [0]) (fp hN Try.underlying78 0 tyS43 _ (q 21))) rfl (c (lb hN 78 _ (qe_api_Line_3 a0) tyS43 (At.st1 (f := (qe_api_Line_3 a0)) (by rfl) (by rfl) (At.here _) (by first | rfl | omega)) (q 22)) rfl (c (OpJ.val (v' := (i6 (a0.length : Int))) (by simp) (OpJ.lenD Try.underlying43 (ltN hN rfl) (q 23))) rfl (c (mv hN (Opd.int .i64 (0))) rfl cn)))))) ?_
  refine gh [(8, _), (9, _), (23, _), (24, _), (25, _)] [(0, some _), (1008, some _), (1009, some _)] hB rfl rfl (by rfl) ?_
  refine AWp.block ?_
  obtain ⟨p6, hx10, h⟩ := bindS h
  refine lg (invoice_sums_invoice_2_L0 a0) (fun s1 : Int × Int => ([(8, (.ptr 1008 0 [])), (9, (.ptr 1009 0 [])), (23, (qe_api_Line_3 a0)), (24, (i6 (a0.length : Int))), (25, (i6 s1.1))] : EL)) (fun s1 : Int × Int => ([(0, some (.box 78 (.st [(qe_api_Line_3 a0)]))), (1008, some (.box 45 (.st [(i6 0), (i6 0), (i6 0), .nils, (i6 0)]))), (1009, some (.box 45 (.d (.st [(.int .i64 a1), (.int .i64 a2), (.int .i64 a3), (.list 3 (a0.map e_api_Line)), (.int .i64 s1.2)]))))] : OL)) (fun (p6 : (Int)) e E' O' => e = .exit 0 ∧ Mat B E' O' ([(8, (.ptr 1008 0 [])), (9, (.ptr 1009 0 []))] : EL) ([(0, some (.box 78 (.st [(qe_api_Line_3 a0)]))), (1008, some (.box 45 (.st [(i6 0), (i6 0), (i6 0), .nils, (i6 0)]))), (1009, some (.box 45 (.d (.st [(.int .i64 a1), (.int .i64 a2), (.int .i64 a3), (.list 3 (a0.map e_api_Line)), (.int .i64 p6)]))))] : OL)) hx10 (mp [] _ _ hB) (fun s1 y h => ?_) (fun e E' O' hR => ?_)
  · unfold invoice_sums_invoice_2_L0 at h
    refine sr (c (OpJ.lss (ltN hN rfl) (q 25) (q 24)) rfl cn) ?_
    refine gh [(8, _), (9, _), (23, _), (24, _), (25, _), (26, _)] [(0, some _), (1008, some _), (1009, some _)] hB rfl rfl (by rfl) ?_
    refine AWp.seq ?_
    refine AWp.cond rfl (fun hg7 => ?_) (fun hg7 => ?_)
    · replace h := ite_t hg7 h
      refine AWp.skip ?_
      refine seqQ_n ?_
      refine AWp.seq ?_
      refine AWp.block ?_
      obtain ⟨x8, hx8, h⟩ := bindS h
      refine sr (c (OpJ.indexD Try.underlying43 tyS51 (idx_some hx8).1 (get_map e_api_Line (idx_some hx8).2) (ltN hN rfl) (q 23) (q 25)) rfl (c (OpJ.loadD tyS51 (by rfl) (by rfl) (ltN hN rfl) (q 27)) rfl (cg (OpJ.alloc hB tyZ51 (nm := 1011) (by decide) (ltN hN rfl)) rfl (cg (OpJ.storeB tyS51 (SetAt.here _ _) (by rfl) (by rfl) (by simp) rfl (q 11) (q 28)) rfl cn)))) ?_
      refine gh [(8, _), (9, _), (11, _), (23, _), (24, _), (25, _)] [(0, some _), (1008, some _), (1009, some _), (1011, some _)] hB rfl rfl (by rfl) ?_
      refine rg (c (ov (.ptr 1009 4 [4]) (fp hN Try.underlying45 4 tyS3 _ (q 9))) rfl (c (lb hN 45 _ _ tyS3 (ad _) (q 29)) rfl (c (ov (.ptr 1011 2 [2]) (fp hN Try.underlying51 2 tyS3 _ (q 11))) rfl (c (lb hN 51 _ _ tyS3 (ad _) (q 31)) rfl (c (add6 (ltN hN rfl) (q 30) (q 32)) rfl (c (ov (.ptr 1009 4 [4]) (fp hN Try.underlying45 4 tyS3 _ (q 9))) rfl (cg (OpJ.storeB tyS3 (SetAt.dst1 (by rfl) (by rfl) (SetAt.here _ _) (by rfl) (by rfl) (by first | rfl | omega)) (by rfl) (by rfl) (by simp) rfl (q 34) (q 33)) rfl cn))))))) ?_
      refine blkQ_n ?_
      refine seqQ_n ?_
      refine gh [(8, _), (9, _), (23, _), (24, _), (25, _)] [(0, some _), (1008, some _), (1009, some _)] hB rfl rfl (by rfl) ?_
      refine rg (c (add6 (ltN hN rfl) (q 25) (Opd.int .i64 (1))) rfl (c (mv hN (q 35)) rfl cn)) ?_
      obtain rfl := Option.some.inj h
      exact ⟨rfl, (Mat.trans (mp [] [(8, (.ptr 1008 0 [])), (9, (.ptr 1009 0 [])), (23, (qe_api_Line_3 a0)), (24, (i6 (a0.length : Int))), (25, (i6 (w64 (s1.1 + (1 : Int)))))] [(0, some (.box 78 (.st [(qe_api_Line_3 a0)]))), (1008, some (.box 45 (.st [(i6 0), (i6 0), (i6 0), .nils, (i6 0)]))), (1009, some (.box 45 (.d (.st [(.int .i64 a1), (.int .i64 a2), (.int .i64 a3), (.list 3 (a0.map e_api_Line)), (.int .i64 (w64 (s1.2 + x8.fAmount)))]))))] hB) (mp [] _ _ hB))⟩
    · replace h := ite_f hg7 h
      refine AWp.exit ?_
      refine seqQ_e ?_
      obtain rfl := Option.some.inj h
      exact ⟨(fun hc => by cases hc), rfl, (mp [] _ _ hB)⟩
  · obtain ⟨rfl, hmat⟩ := hR
    refine blkQ_hit ?_
    refine seqQ_n ?_
    refine AWp.ghost hmat ?_
    refine sr (c (lb hN 45 _ _ tyS45 (At.here _) (q 9)) rfl (cg (OpJ.storeB tyS45 (SetAt.here _ _) (by rfl) (by rfl) (by simp) rfl (q 8) (q 36)) rfl cn)) ?_
    refine gh [(8, _)] [(0, some _), (1008, some _)] hB rfl rfl (by rfl) ?_
    refine AWp.ret ?_
    obtain rfl := Option.some.inj h
    exact ⟨.inl rfl, _, _, (Mat.trans (Mat.coeP (Ts := []) (Bs := [(0, some (.box 78 (.d (.st [(.list 3 (a0.map e_api_Line))]))))]) TwT.nil (TwB.cons (x := (.st [(qe_api_Line_3 a0)])) (by rfl) (Tw.leaf ⟨_, (Co.st (CoL.cons (Co.d _) CoL.nil)), rfl⟩) TwB.nil)) (mp [] [(8, (.ptr 1008 0 []))] [(0, some (.box 78 (.d (.st [(.list 3 (a0.map e_api_Line))])))), (1008, some (.box 45 (.d (.st [(.int .i64 a1), (.int .i64 a2), (.int .i64 a3), (.list 3 (a0.map e_api_Line)), (.int .i64 p6)]))))] hB)), [(.d (.st [(.int .i64 a1), (.int .i64 a2), (.int .i64 a3), (.list 3 (a0.map e_api_Line)), (.int .i64 p6)]))], (Res.cell (c := (.d (.st [(.int .i64 a1), (.int .i64 a2), (.int .i64 a3), (.list 3 (a0.map e_api_Line)), (.int .i64 p6)]))) (by rfl) (by rfl) tyS45 (by rfl) (by rfl) (by rfl) Res.nil), rfl, by rfl, by rfl, by rfl⟩


end Go.Proofs.Ytimcphncaffenaa
