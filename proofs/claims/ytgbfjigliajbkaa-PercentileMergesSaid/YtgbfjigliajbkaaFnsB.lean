/- Printed by gen.py: the Go functions as plain functions, and that the code does what they say. -/
import Derived.Test.YtgbfjigliajbkaaChecked
import Derived.Test.YtgbfjigliajbkaaVcT
import Derived.KernelRfl
import Derived.Test.YtgbfjigliajbkaaFnsA
import Derived.Test.YtgbfjigliajbkaaExt
namespace Go.Proofs.Ytgbfjigliajbkaa
open Go Go.Vc
noncomputable def percentile_Merge_L0 (a1 : api_Series) (s10 : Int × (List Int) × (List Int)) : Option (((Unit) ⊕ ((List Int) × (List Int))) ⊕ (Int × (List Int) × (List Int))) :=
  (if (decide (s10.1 < (a1.fIn.length : Int))) = true then
  (idx a1.fIn s10.1).bind fun x142 =>
  jn (fun m173 : (List Int) × (List Int) =>
  some (.inr ((w64 (s10.1 + (1 : Int))), m173.1, m173.2))) (fun j174 =>
  (if (x142 == (-1 : Int)) = true then
  j174 (s10.2.1, s10.2.2)
  else
  (idx s10.2.2 s10.1).bind fun x176 =>
  (idx s10.2.2 s10.1).bind fun x177 =>
  (if (x177 == (-1 : Int)) = true then
  (idx a1.fIn s10.1).bind fun x179 =>
  (idx a1.fOut s10.1).bind fun x180 =>
  (idx s10.2.2 s10.1).bind fun x181 =>
  (idx s10.2.2 s10.1).bind fun x182 =>
  (idx s10.2.1 s10.1).bind fun x183 =>
  (idx s10.2.1 s10.1).bind fun x184 =>
  j174 ((s10.2.1.set s10.1.toNat x180), (s10.2.2.set s10.1.toNat x179))
  else
  jn (fun m195 : Bool =>
  (if m195 = true then
  some (.inl (.inl ()))
  else
  j174 (s10.2.1, s10.2.2))) (fun j196 =>
  (idx s10.2.2 s10.1).bind fun x198 =>
  (idx s10.2.2 s10.1).bind fun x199 =>
  (idx a1.fIn s10.1).bind fun x200 =>
  (if (x199 != x200) = true then
  j196 true
  else
  (idx s10.2.1 s10.1).bind fun x202 =>
  (idx s10.2.1 s10.1).bind fun x203 =>
  (idx a1.fOut s10.1).bind fun x204 =>
  j196 (x203 != x204))))))
  else
  some (.inl (.inr (s10.2.1, s10.2.2))))
noncomputable def percentile_Merge (a0 : api_Series) (a1 : api_Series) : Option (api_Series × Int) :=
  jn (fun m5 : Bool =>
  (if m5 = true then
  some ((api_Series.mk (0 : Int) (0 : Int) ([] : List Int) ([] : List Int)), (1 : Int))
  else
  (if (((a0.fPort != a1.fPort) || (a0.fSeconds != a1.fSeconds)) || ((a0.fIn.length : Int) != (a1.fIn.length : Int))) = true then
  some ((api_Series.mk (0 : Int) (0 : Int) ([] : List Int) ([] : List Int)), (7 : Int))
  else
  (clone_Series_3 a0).bind fun r9 =>
  (loop (percentile_Merge_L0 a1) ((0 : Int), r9.fOut, r9.fIn)).bind fun x205 => match x205 with
  | (.inl _) =>
    some ((api_Series.mk (0 : Int) (0 : Int) ([] : List Int) ([] : List Int)), (8 : Int))
  | (.inr p140) =>
    some ((api_Series.mk r9.fPort r9.fSeconds p140.2 p140.1), (0 : Int))))) (fun j6 =>
  (percentile_Valid a0).bind fun r207 =>
  (if (!r207) = true then
  j6 true
  else
  (percentile_Valid a1).bind fun r209 =>
  j6 (!r209)))
set_option maxHeartbeats 4000000 in
set_option maxRecDepth 100000 in
theorem percentile_Merge_ac (a0 : api_Series) (a1 : api_Series) (r : api_Series × Int) (h : percentile_Merge a0 a1 = some r) : AC Try.prog 14 [(.d (e_api_Series a0)), (.d (e_api_Series a1))] [] (.tup [(.d (e_api_Series r.1)), (.d (.int .i64 r.2))]) [] := by
  refine AC.of_code2 Try.func14 rfl rfl (Nat.le_of_ble_eq_true (by rfl)) fun B hB hN => ?_
  delta percentile_Merge at h
  refine AWp.seq ?_
  refine AWp.region (OpJs.cons (OpJ.box hB (nm := 1002) (by decide) (by simp) rfl (ltN hN rfl) (Opd.tmp 0 (.d (e_api_Series a0))))
  (OpJs.cons (OpJ.box hB (nm := 1003) (by decide) (by simp) rfl (ltN hN rfl) (Opd.tmp 1 (.d (e_api_Series a1))))
  (OpJs.cons (OpJ.alloc hB tyZ30 (nm := 1004) (by decide) (ltN hN rfl))
  (OpJs.cons (OpJ.assign (ltN hN rfl) (Opd.int .i64 (0)))
  (OpJs.nil))))) (by rfl) (by rfl) ?_
  refine seqQ_n ?_
  refine AWp.ghost (Mat.pat [] [(2, (.ptr 1002 0 [])), (3, (.ptr 1003 0 [])), (4, (.ptr 1004 0 []))] [(1002, some (.box 30 (.d (e_api_Series a0)))), (1003, some (.box 30 (.d (e_api_Series a1)))), (1004, some (.box 30 (.st [(.d (.int .i64 (0 : Int))), (.d (.int .i64 (0 : Int))), .nils, .nils])))] hB (by rfl) (by rfl) (by rfl)) ?_
  refine AWp.seq ?_
  refine AWp.seq ?_
  refine AWp.cut h (fun m5 : Bool => ([(2, (.ptr 1002 0 [])), (3, (.ptr 1003 0 [])), (4, (.ptr 1004 0 [])), (15, (.d (.bool m5)))] : EL)) (fun m5 : Bool => ([(1002, some (.box 30 (.d (e_api_Series a0)))), (1003, some (.box 30 (.d (e_api_Series a1)))), (1004, some (.box 30 (.st [(.d (.int .i64 (0 : Int))), (.d (.int .i64 (0 : Int))), .nils, .nils])))] : OL)) (fun m5 h E' O' hmat => ?_) (fun j6 hjj6 h => ?_)
  · refine seqQ_n ?_
    refine AWp.ghost hmat ?_
    refine AWp.cond (b := m5) (by rfl) (fun hg7 => ?_) (fun hg7 => ?_)
    · replace h := ite_t hg7 h
      refine AWp.seq ?_
      refine AWp.region (OpJs.cons (OpJ.build (places := [(0, 1), (1, 1), (2, 1), (3, 1)]) ⟨Try.underlying30, fun w => by kernel_rfl⟩ tyZS30 Opds.nil (by kernel_rfl) (r := (.st [(.d (.int .i64 (0 : Int))), (.d (.int .i64 (0 : Int))), .nils, .nils])) (by rfl) (ltN hN rfl))
        (OpJs.cons (OpJ.storeB (bt := 30) (c := (.st [(.d (.int .i64 (0 : Int))), (.d (.int .i64 (0 : Int))), .nils, .nils])) (v := (.st [(.d (.int .i64 (0 : Int))), (.d (.int .i64 (0 : Int))), .nils, .nils])) (c' := (.st [(.d (.int .i64 (0 : Int))), (.d (.int .i64 (0 : Int))), .nils, .nils])) tyS30 (SetAt.here _ _) (by rfl) (by rfl) (by simp) rfl (Opd.tmp 4 (.ptr 1004 0 [])) (Opd.tmp 16 (.st [(.d (.int .i64 (0 : Int))), (.d (.int .i64 (0 : Int))), .nils, .nils])))
        (OpJs.cons (OpJ.assign (ltN hN rfl) (Opd.int .i64 (1)))
        (OpJs.nil)))) (by rfl) (by rfl) ?_
      refine seqQ_n ?_
      refine AWp.ghost (Mat.pat [] [(4, (.ptr 1004 0 [])), (5, (.d (.int .i64 (1 : Int))))] [(1004, some (.box 30 (.st [(.d (.int .i64 (0 : Int))), (.d (.int .i64 (0 : Int))), .nils, .nils])))] hB (by rfl) (by rfl) (by rfl)) ?_
      refine AWp.ret ?_
      refine seqQ_r ?_
      obtain rfl := Option.some.inj h
      exact ⟨.inl rfl, _, _, (Mat.trans (Mat.coeP (Ts := []) (Bs := [(1004, some (.box 30 (.d (.st [(.int .i64 (0 : Int)), (.int .i64 (0 : Int)), (.list 1 (([] : List Int).map (eI .i64))), (.list 1 (([] : List Int).map (eI .i64)))]))))]) TwT.nil (TwB.cons (x := (.st [(.d (.int .i64 (0 : Int))), (.d (.int .i64 (0 : Int))), .nils, .nils])) (by rfl) (Tw.leaf ⟨_, (Co.st (CoL.cons (Co.d _) (CoL.cons (Co.d _) (CoL.cons (Co.nils 1) (CoL.cons (Co.nils 1) CoL.nil))))), rfl⟩) TwB.nil)) (Mat.pat [] [(4, (.ptr 1004 0 [])), (5, (.d (.int .i64 (1 : Int))))] [(1004, some (.box 30 (.d (.st [(.int .i64 (0 : Int)), (.int .i64 (0 : Int)), (.list 1 (([] : List Int).map (eI .i64))), (.list 1 (([] : List Int).map (eI .i64)))]))))] hB (by rfl) (by rfl) (by rfl))), [(.d (.st [(.int .i64 (0 : Int)), (.int .i64 (0 : Int)), (.list 1 (([] : List Int).map (eI .i64))), (.list 1 (([] : List Int).map (eI .i64)))])), (.d (.int .i64 (1 : Int)))], (Res.cell (c := (.d (.st [(.int .i64 (0 : Int)), (.int .i64 (0 : Int)), (.list 1 (([] : List Int).map (eI .i64))), (.list 1 (([] : List Int).map (eI .i64)))]))) (by rfl) (by rfl) tyS30 (by rfl) (by rfl) (by rfl) (Res.tmp (by rfl) (by rfl) Res.nil)), rfl, by rfl, by rfl, by rfl⟩
    · replace h := ite_f hg7 h
      refine AWp.skip ?_
      refine seqQ_n ?_
      refine AWp.seq ?_
      refine AWp.seq ?_
      refine AWp.region (OpJs.cons (OpJ.val (v' := (.ptr 1002 0 [0])) (by rfl) (OpJ.fieldP Try.underlying30 (by rfl) (o := 0) (by rfl) tyS3 (by decide) (obj := (.box 30 (.d (e_api_Series a0)))) (ltN hN rfl) (Opd.tmp 2 (.ptr 1002 0 []))))
        (OpJs.cons (OpJ.loadB (bt := 30) (c := (.d (e_api_Series a0))) (v := (.d (.int .i64 a0.fPort))) tyS3 (At.dst1 (f := (.int .i64 a0.fPort)) (by rfl) (by rfl) (At.here _) (by first | rfl | omega)) (by rfl) (by rfl) rfl (ltN hN rfl) (Opd.tmp 17 (.ptr 1002 0 [0])))
        (OpJs.cons (OpJ.val (v' := (.ptr 1003 0 [0])) (by rfl) (OpJ.fieldP Try.underlying30 (by rfl) (o := 0) (by rfl) tyS3 (by decide) (obj := (.box 30 (.d (e_api_Series a1)))) (ltN hN rfl) (Opd.tmp 3 (.ptr 1003 0 []))))
        (OpJs.cons (OpJ.loadB (bt := 30) (c := (.d (e_api_Series a1))) (v := (.d (.int .i64 a1.fPort))) tyS3 (At.dst1 (f := (.int .i64 a1.fPort)) (by rfl) (by rfl) (At.here _) (by first | rfl | omega)) (by rfl) (by rfl) rfl (ltN hN rfl) (Opd.tmp 19 (.ptr 1003 0 [0])))
        (OpJs.cons (OpJ.neqI (ltN hN rfl) (Opd.tmp 18 (.d (.int .i64 a0.fPort))) (Opd.tmp 20 (.d (.int .i64 a1.fPort))))
        (OpJs.cons (OpJ.move (ltN hN rfl) (Opd.tmp 21 (.d (.bool (a0.fPort != a1.fPort)))))
        (OpJs.cons (OpJ.opt' (v := (.ptr 1002 1 [1])) (OpJ.val (v' := (.ptr 1002 1 [1])) (by rfl) (OpJ.fieldP Try.underlying30 (by rfl) (o := 1) (by rfl) tyS3 (by decide) (obj := (.box 30 (.d (e_api_Series a0)))) (ltN hN rfl) (Opd.tmp 2 (.ptr 1002 0 [])))) (by rfl) (GuardV.plain _) (ltN hN rfl) (by rfl) (by rfl) (by rfl) (by rfl) (OptL.keep rfl OptL.nil))
        (OpJs.cons (OpJ.opt' (v := (.d (.int .i64 a0.fSeconds))) (OpJ.loadB (bt := 30) (c := (.d (e_api_Series a0))) (v := (.d (.int .i64 a0.fSeconds))) tyS3 (At.dst1 (f := (.int .i64 a0.fSeconds)) (by rfl) (by rfl) (At.here _) (by first | rfl | omega)) (by rfl) (by rfl) rfl (ltN hN rfl) (Opd.tmp 23 (.ptr 1002 1 [1]))) (by rfl) (GuardV.plain _) (ltN hN rfl) (by rfl) (by rfl) (by rfl) (by rfl) (OptL.opt OptL.nil))
        (OpJs.cons (OpJ.opt' (v := (.ptr 1003 1 [1])) (OpJ.val (v' := (.ptr 1003 1 [1])) (by rfl) (OpJ.fieldP Try.underlying30 (by rfl) (o := 1) (by rfl) tyS3 (by decide) (obj := (.box 30 (.d (e_api_Series a1)))) (ltN hN rfl) (Opd.tmp 3 (.ptr 1003 0 [])))) (by rfl) (GuardV.plain _) (ltN hN rfl) (by rfl) (by rfl) (by rfl) (by rfl) (OptL.keep rfl OptL.nil))
        (OpJs.cons (OpJ.opt' (v := (.d (.int .i64 a1.fSeconds))) (OpJ.loadB (bt := 30) (c := (.d (e_api_Series a1))) (v := (.d (.int .i64 a1.fSeconds))) tyS3 (At.dst1 (f := (.int .i64 a1.fSeconds)) (by rfl) (by rfl) (At.here _) (by first | rfl | omega)) (by rfl) (by rfl) rfl (ltN hN rfl) (Opd.tmp 25 (.ptr 1003 1 [1]))) (by rfl) (GuardV.plain _) (ltN hN rfl) (by rfl) (by rfl) (by rfl) (by rfl) (OptL.opt OptL.nil))
        (OpJs.cons (OpJ.opt' (v := (.d (.bool (a0.fSeconds != a1.fSeconds)))) (OpJ.neqI (ltN hN rfl) (Opd.tmp 24 (.d (.int .i64 a0.fSeconds))) (Opd.tmp 26 (.d (.int .i64 a1.fSeconds)))) (by rfl) (GuardV.plain _) (ltN hN rfl) (by rfl) (by rfl) (by rfl) (by rfl) (OptL.opt (OptL.opt OptL.nil)))
        (OpJs.cons (OpJ.pickOr rfl (ltN hN rfl) (Opd.tmp 22 (.d (.bool (a0.fPort != a1.fPort)))) (Opd.tmp 27 (.opt ((a0.fPort != a1.fPort) == false) (.d (.bool (a0.fSeconds != a1.fSeconds))))))
        (OpJs.cons (OpJ.move (ltN hN rfl) (Opd.tmp 28 (.d (.bool ((a0.fPort != a1.fPort) || (a0.fSeconds != a1.fSeconds))))))
        (OpJs.cons (OpJ.opt' (v := (.ptr 1002 2 [2])) (OpJ.val (v' := (.ptr 1002 2 [2])) (by rfl) (OpJ.fieldP Try.underlying30 (by rfl) (o := 2) (by rfl) tyS22 (by decide) (obj := (.box 30 (.d (e_api_Series a0)))) (ltN hN rfl) (Opd.tmp 2 (.ptr 1002 0 [])))) (by rfl) (GuardV.plain _) (ltN hN rfl) (by rfl) (by rfl) (by rfl) (by rfl) (OptL.keep rfl OptL.nil))
        (OpJs.cons (OpJ.opt' (v := (.d (.list 1 (a0.fIn.map (eI .i64))))) (OpJ.loadB (bt := 30) (c := (.d (e_api_Series a0))) (v := (.d (.list 1 (a0.fIn.map (eI .i64))))) tyS22 (At.dst1 (f := (.list 1 (a0.fIn.map (eI .i64)))) (by rfl) (by rfl) (At.here _) (by first | rfl | omega)) (by rfl) (by rfl) rfl (ltN hN rfl) (Opd.tmp 30 (.ptr 1002 2 [2]))) (by rfl) (GuardV.plain _) (ltN hN rfl) (by rfl) (by rfl) (by rfl) (by rfl) (OptL.opt OptL.nil))
        (OpJs.cons (OpJ.opt' (v := (.d (.int .i64 (a0.fIn.length : Int)))) (OpJ.val (v' := (.d (.int .i64 (a0.fIn.length : Int)))) (by simp) (OpJ.lenD Try.underlying22 (ltN hN rfl) (Opd.tmp 31 (.d (.list 1 (a0.fIn.map (eI .i64))))))) (by rfl) (GuardV.plain _) (ltN hN rfl) (by rfl) (by rfl) (by rfl) (by rfl) (OptL.opt OptL.nil))
        (OpJs.cons (OpJ.opt' (v := (.ptr 1003 2 [2])) (OpJ.val (v' := (.ptr 1003 2 [2])) (by rfl) (OpJ.fieldP Try.underlying30 (by rfl) (o := 2) (by rfl) tyS22 (by decide) (obj := (.box 30 (.d (e_api_Series a1)))) (ltN hN rfl) (Opd.tmp 3 (.ptr 1003 0 [])))) (by rfl) (GuardV.plain _) (ltN hN rfl) (by rfl) (by rfl) (by rfl) (by rfl) (OptL.keep rfl OptL.nil))
        (OpJs.cons (OpJ.opt' (v := (.d (.list 1 (a1.fIn.map (eI .i64))))) (OpJ.loadB (bt := 30) (c := (.d (e_api_Series a1))) (v := (.d (.list 1 (a1.fIn.map (eI .i64))))) tyS22 (At.dst1 (f := (.list 1 (a1.fIn.map (eI .i64)))) (by rfl) (by rfl) (At.here _) (by first | rfl | omega)) (by rfl) (by rfl) rfl (ltN hN rfl) (Opd.tmp 33 (.ptr 1003 2 [2]))) (by rfl) (GuardV.plain _) (ltN hN rfl) (by rfl) (by rfl) (by rfl) (by rfl) (OptL.opt OptL.nil))
        (OpJs.cons (OpJ.opt' (v := (.d (.int .i64 (a1.fIn.length : Int)))) (OpJ.val (v' := (.d (.int .i64 (a1.fIn.length : Int)))) (by simp) (OpJ.lenD Try.underlying22 (ltN hN rfl) (Opd.tmp 34 (.d (.list 1 (a1.fIn.map (eI .i64))))))) (by rfl) (GuardV.plain _) (ltN hN rfl) (by rfl) (by rfl) (by rfl) (by rfl) (OptL.opt OptL.nil))
        (OpJs.cons (OpJ.opt' (v := (.d (.bool ((a0.fIn.length : Int) != (a1.fIn.length : Int))))) (OpJ.neqI (ltN hN rfl) (Opd.tmp 32 (.d (.int .i64 (a0.fIn.length : Int)))) (Opd.tmp 35 (.d (.int .i64 (a1.fIn.length : Int))))) (by rfl) (GuardV.plain _) (ltN hN rfl) (by rfl) (by rfl) (by rfl) (by rfl) (OptL.opt (OptL.opt OptL.nil)))
        (OpJs.cons (OpJ.pickOr rfl (ltN hN rfl) (Opd.tmp 29 (.d (.bool ((a0.fPort != a1.fPort) || (a0.fSeconds != a1.fSeconds))))) (Opd.tmp 36 (.opt (((a0.fPort != a1.fPort) || (a0.fSeconds != a1.fSeconds)) == false) (.d (.bool ((a0.fIn.length : Int) != (a1.fIn.length : Int)))))))
        (OpJs.nil)))))))))))))))))))))) (by rfl) (by rfl) ?_
      refine seqQ_n ?_
      refine AWp.ghost (Mat.pat [] [(2, (.ptr 1002 0 [])), (3, (.ptr 1003 0 [])), (4, (.ptr 1004 0 [])), (37, (.d (.bool (((a0.fPort != a1.fPort) || (a0.fSeconds != a1.fSeconds)) || ((a0.fIn.length : Int) != (a1.fIn.length : Int))))))] [(1002, some (.box 30 (.d (e_api_Series a0)))), (1003, some (.box 30 (.d (e_api_Series a1)))), (1004, some (.box 30 (.st [(.d (.int .i64 (0 : Int))), (.d (.int .i64 (0 : Int))), .nils, .nils])))] hB (by rfl) (by rfl) (by rfl)) ?_
      refine AWp.cond (b := (((a0.fPort != a1.fPort) || (a0.fSeconds != a1.fSeconds)) || ((a0.fIn.length : Int) != (a1.fIn.length : Int)))) (by rfl) (fun hg8 => ?_) (fun hg8 => ?_)
      · replace h := ite_t hg8 h
        refine AWp.seq ?_
        refine AWp.region (OpJs.cons (OpJ.build (places := [(0, 1), (1, 1), (2, 1), (3, 1)]) ⟨Try.underlying30, fun w => by kernel_rfl⟩ tyZS30 Opds.nil (by kernel_rfl) (r := (.st [(.d (.int .i64 (0 : Int))), (.d (.int .i64 (0 : Int))), .nils, .nils])) (by rfl) (ltN hN rfl))
          (OpJs.cons (OpJ.storeB (bt := 30) (c := (.st [(.d (.int .i64 (0 : Int))), (.d (.int .i64 (0 : Int))), .nils, .nils])) (v := (.st [(.d (.int .i64 (0 : Int))), (.d (.int .i64 (0 : Int))), .nils, .nils])) (c' := (.st [(.d (.int .i64 (0 : Int))), (.d (.int .i64 (0 : Int))), .nils, .nils])) tyS30 (SetAt.here _ _) (by rfl) (by rfl) (by simp) rfl (Opd.tmp 4 (.ptr 1004 0 [])) (Opd.tmp 38 (.st [(.d (.int .i64 (0 : Int))), (.d (.int .i64 (0 : Int))), .nils, .nils])))
          (OpJs.cons (OpJ.assign (ltN hN rfl) (Opd.int .i64 (7)))
          (OpJs.nil)))) (by rfl) (by rfl) ?_
        refine seqQ_n ?_
        refine AWp.ghost (Mat.pat [] [(4, (.ptr 1004 0 [])), (5, (.d (.int .i64 (7 : Int))))] [(1004, some (.box 30 (.st [(.d (.int .i64 (0 : Int))), (.d (.int .i64 (0 : Int))), .nils, .nils])))] hB (by rfl) (by rfl) (by rfl)) ?_
        refine AWp.ret ?_
        refine seqQ_r ?_
        obtain rfl := Option.some.inj h
        exact ⟨.inl rfl, _, _, (Mat.trans (Mat.coeP (Ts := []) (Bs := [(1004, some (.box 30 (.d (.st [(.int .i64 (0 : Int)), (.int .i64 (0 : Int)), (.list 1 (([] : List Int).map (eI .i64))), (.list 1 (([] : List Int).map (eI .i64)))]))))]) TwT.nil (TwB.cons (x := (.st [(.d (.int .i64 (0 : Int))), (.d (.int .i64 (0 : Int))), .nils, .nils])) (by rfl) (Tw.leaf ⟨_, (Co.st (CoL.cons (Co.d _) (CoL.cons (Co.d _) (CoL.cons (Co.nils 1) (CoL.cons (Co.nils 1) CoL.nil))))), rfl⟩) TwB.nil)) (Mat.pat [] [(4, (.ptr 1004 0 [])), (5, (.d (.int .i64 (7 : Int))))] [(1004, some (.box 30 (.d (.st [(.int .i64 (0 : Int)), (.int .i64 (0 : Int)), (.list 1 (([] : List Int).map (eI .i64))), (.list 1 (([] : List Int).map (eI .i64)))]))))] hB (by rfl) (by rfl) (by rfl))), [(.d (.st [(.int .i64 (0 : Int)), (.int .i64 (0 : Int)), (.list 1 (([] : List Int).map (eI .i64))), (.list 1 (([] : List Int).map (eI .i64)))])), (.d (.int .i64 (7 : Int)))], (Res.cell (c := (.d (.st [(.int .i64 (0 : Int)), (.int .i64 (0 : Int)), (.list 1 (([] : List Int).map (eI .i64))), (.list 1 (([] : List Int).map (eI .i64)))]))) (by rfl) (by rfl) tyS30 (by rfl) (by rfl) (by rfl) (Res.tmp (by rfl) (by rfl) Res.nil)), rfl, by rfl, by rfl, by rfl⟩
      · replace h := ite_f hg8 h
        refine AWp.skip ?_
        refine seqQ_n ?_
        refine AWp.seq ?_
        obtain ⟨r9, hr9, h⟩ := bindS h
        refine AWp.region (OpJs.cons (OpJ.loadB (bt := 30) (c := (.d (e_api_Series a0))) (v := (.d (e_api_Series a0))) tyS30 (At.here _) (by rfl) (by rfl) rfl (ltN hN rfl) (Opd.tmp 2 (.ptr 1002 0 [])))
          (OpJs.cons (OpJ.callFn hB fnOk33 (clone_Series_3_ac a0 r9 hr9) [(900000, 100200), (900001, 100201)] (by kernel_rfl) (ltN hN rfl) (by kernel_rfl) (OpdL.cons (Opd.tmp 39 (.d (e_api_Series a0))) OpdL.nil))
          (OpJs.cons (OpJ.alloc hB tyZ30 (nm := 1006) (by decide) (ltN hN rfl))
          (OpJs.cons (OpJ.storeB (bt := 30) (c := (.st [(.d (.int .i64 (0 : Int))), (.d (.int .i64 (0 : Int))), .nils, .nils])) (v := (.st [(.d (.int .i64 r9.fPort)), (.d (.int .i64 r9.fSeconds)), (.sref 100200 1 0 r9.fIn.length), (.sref 100201 1 0 r9.fOut.length)])) (c' := (.st [(.d (.int .i64 r9.fPort)), (.d (.int .i64 r9.fSeconds)), (.sref 100200 1 0 r9.fIn.length), (.sref 100201 1 0 r9.fOut.length)])) tyS30 (SetAt.here _ _) (by rfl) (by rfl) (by simp) rfl (Opd.tmp 6 (.ptr 1006 0 [])) (Opd.tmp 40 (.st [(.d (.int .i64 r9.fPort)), (.d (.int .i64 r9.fSeconds)), (.sref 100200 1 0 r9.fIn.length), (.sref 100201 1 0 r9.fOut.length)])))
          (OpJs.nil))))) (by rfl) (by rfl) ?_
        refine seqQ_n ?_
        refine AWp.ghost (Mat.pat [] [(3, (.ptr 1003 0 [])), (4, (.ptr 1004 0 [])), (6, (.ptr 1006 0 []))] [(1003, some (.box 30 (.d (e_api_Series a1)))), (1004, some (.box 30 (.st [(.d (.int .i64 (0 : Int))), (.d (.int .i64 (0 : Int))), .nils, .nils]))), (1006, some (.box 30 (.st [(.d (.int .i64 r9.fPort)), (.d (.int .i64 r9.fSeconds)), (.sref 100200 1 0 r9.fIn.length), (.sref 100201 1 0 r9.fOut.length)]))), (100200, some (.row 3 1 (r9.fIn.map (eI .i64)))), (100201, some (.row 3 1 (r9.fOut.map (eI .i64))))] hB (by rfl) (by rfl) (by rfl)) ?_
        refine AWp.seq ?_
        refine AWp.seq ?_
        refine AWp.region (OpJs.cons (OpJ.val (v' := (.ptr 1003 2 [2])) (by rfl) (OpJ.fieldP Try.underlying30 (by rfl) (o := 2) (by rfl) tyS22 (by decide) (obj := (.box 30 (.d (e_api_Series a1)))) (ltN hN rfl) (Opd.tmp 3 (.ptr 1003 0 []))))
          (OpJs.cons (OpJ.loadB (bt := 30) (c := (.d (e_api_Series a1))) (v := (.d (.list 1 (a1.fIn.map (eI .i64))))) tyS22 (At.dst1 (f := (.list 1 (a1.fIn.map (eI .i64)))) (by rfl) (by rfl) (At.here _) (by first | rfl | omega)) (by rfl) (by rfl) rfl (ltN hN rfl) (Opd.tmp 41 (.ptr 1003 2 [2])))
          (OpJs.cons (OpJ.val (v' := (.d (.int .i64 (a1.fIn.length : Int)))) (by simp) (OpJ.lenD Try.underlying22 (ltN hN rfl) (Opd.tmp 42 (.d (.list 1 (a1.fIn.map (eI .i64)))))))
          (OpJs.cons (OpJ.move (ltN hN rfl) (Opd.int .i64 (0)))
          (OpJs.nil))))) (by rfl) (by rfl) ?_
        refine seqQ_n ?_
        refine AWp.ghost (Mat.pat [] [(3, (.ptr 1003 0 [])), (4, (.ptr 1004 0 [])), (6, (.ptr 1006 0 [])), (43, (.d (.int .i64 (a1.fIn.length : Int)))), (44, (.d (.int .i64 (0 : Int))))] [(1003, some (.box 30 (.d (e_api_Series a1)))), (1004, some (.box 30 (.st [(.d (.int .i64 (0 : Int))), (.d (.int .i64 (0 : Int))), .nils, .nils]))), (1006, some (.box 30 (.st [(.d (.int .i64 r9.fPort)), (.d (.int .i64 r9.fSeconds)), (.sref 100200 1 0 r9.fIn.length), (.sref 100201 1 0 r9.fOut.length)]))), (100200, some (.row 3 1 (r9.fIn.map (eI .i64)))), (100201, some (.row 3 1 (r9.fOut.map (eI .i64))))] hB (by rfl) (by rfl) (by rfl)) ?_
        refine AWp.block ?_
        obtain ⟨x205, hx206, h⟩ := bindS h
        refine AWp.ghost (Mat.pat [] ((fun s10 : Int × (List Int) × (List Int) => ([(3, (.ptr 1003 0 [])), (4, (.ptr 1004 0 [])), (6, (.ptr 1006 0 [])), (43, (.d (.int .i64 (a1.fIn.length : Int)))), (44, (.d (.int .i64 s10.1)))] : EL)) ((0 : Int), r9.fOut, r9.fIn)) ((fun s10 : Int × (List Int) × (List Int) => ([(1003, some (.box 30 (.d (e_api_Series a1)))), (1004, some (.box 30 (.st [(.d (.int .i64 (0 : Int))), (.d (.int .i64 (0 : Int))), .nils, .nils]))), (1006, some (.box 30 (.st [(.d (.int .i64 r9.fPort)), (.d (.int .i64 r9.fSeconds)), (.sref 100200 1 0 s10.2.2.length), (.sref 100201 1 0 s10.2.1.length)]))), (100200, some (.row 3 1 (s10.2.2.map (eI .i64)))), (100201, some (.row 3 1 (s10.2.1.map (eI .i64))))] : OL)) ((0 : Int), r9.fOut, r9.fIn)) hB (by rfl) (by rfl) (by rfl)) ?_
        refine AWp.loopS (percentile_Merge_L0 a1) (fun s10 : Int × (List Int) × (List Int) => ([(3, (.ptr 1003 0 [])), (4, (.ptr 1004 0 [])), (6, (.ptr 1006 0 [])), (43, (.d (.int .i64 (a1.fIn.length : Int)))), (44, (.d (.int .i64 s10.1)))] : EL)) (fun s10 : Int × (List Int) × (List Int) => ([(1003, some (.box 30 (.d (e_api_Series a1)))), (1004, some (.box 30 (.st [(.d (.int .i64 (0 : Int))), (.d (.int .i64 (0 : Int))), .nils, .nils]))), (1006, some (.box 30 (.st [(.d (.int .i64 r9.fPort)), (.d (.int .i64 r9.fSeconds)), (.sref 100200 1 0 s10.2.2.length), (.sref 100201 1 0 s10.2.1.length)]))), (100200, some (.row 3 1 (s10.2.2.map (eI .i64)))), (100201, some (.row 3 1 (s10.2.1.map (eI .i64))))] : OL)) (fun (x : (Unit) ⊕ ((List Int) × (List Int))) e E' O' => match x with | (.inl _p) => e = .ret ∧ Mat B E' O' ([(4, (.ptr 1004 0 [])), (5, (.d (.int .i64 (8 : Int))))] : EL) ([(1004, some (.box 30 (.st [(.d (.int .i64 (0 : Int))), (.d (.int .i64 (0 : Int))), .nils, .nils])))] : OL) | (.inr p140) => e = .exit 0 ∧ Mat B E' O' ([(4, (.ptr 1004 0 [])), (6, (.ptr 1006 0 []))] : EL) ([(1004, some (.box 30 (.st [(.d (.int .i64 (0 : Int))), (.d (.int .i64 (0 : Int))), .nils, .nils]))), (1006, some (.box 30 (.st [(.d (.int .i64 r9.fPort)), (.d (.int .i64 r9.fSeconds)), (.sref 100200 1 0 p140.2.length), (.sref 100201 1 0 p140.1.length)]))), (100200, some (.row 3 1 (p140.2.map (eI .i64)))), (100201, some (.row 3 1 (p140.1.map (eI .i64))))] : OL)) hx206 (fun s10 y h => ?_) (fun e E' O' hR => ?_)
        · unfold percentile_Merge_L0 at h
          show AWp _ _ _ _ ([(3, (.ptr 1003 0 [])), (4, (.ptr 1004 0 [])), (6, (.ptr 1006 0 [])), (43, (.d (.int .i64 (a1.fIn.length : Int)))), (44, (.d (.int .i64 s10.1)))] : EL) ([(1003, some (.box 30 (.d (e_api_Series a1)))), (1004, some (.box 30 (.st [(.d (.int .i64 (0 : Int))), (.d (.int .i64 (0 : Int))), .nils, .nils]))), (1006, some (.box 30 (.st [(.d (.int .i64 r9.fPort)), (.d (.int .i64 r9.fSeconds)), (.sref 100200 1 0 s10.2.2.length), (.sref 100201 1 0 s10.2.1.length)]))), (100200, some (.row 3 1 (s10.2.2.map (eI .i64)))), (100201, some (.row 3 1 (s10.2.1.map (eI .i64))))] : OL)
          refine AWp.seq ?_
          refine AWp.region (OpJs.cons (OpJ.lss (ltN hN rfl) (Opd.tmp 44 (.d (.int .i64 s10.1))) (Opd.tmp 43 (.d (.int .i64 (a1.fIn.length : Int)))))
            (OpJs.nil)) (by rfl) (by rfl) ?_
          refine seqQ_n ?_
          refine AWp.ghost (Mat.pat [] [(3, (.ptr 1003 0 [])), (4, (.ptr 1004 0 [])), (6, (.ptr 1006 0 [])), (43, (.d (.int .i64 (a1.fIn.length : Int)))), (44, (.d (.int .i64 s10.1))), (45, (.d (.bool (decide (s10.1 < (a1.fIn.length : Int))))))] [(1003, some (.box 30 (.d (e_api_Series a1)))), (1004, some (.box 30 (.st [(.d (.int .i64 (0 : Int))), (.d (.int .i64 (0 : Int))), .nils, .nils]))), (1006, some (.box 30 (.st [(.d (.int .i64 r9.fPort)), (.d (.int .i64 r9.fSeconds)), (.sref 100200 1 0 s10.2.2.length), (.sref 100201 1 0 s10.2.1.length)]))), (100200, some (.row 3 1 (s10.2.2.map (eI .i64)))), (100201, some (.row 3 1 (s10.2.1.map (eI .i64))))] hB (by rfl) (by rfl) (by rfl)) ?_
          refine AWp.seq ?_
          refine AWp.cond (b := (decide (s10.1 < (a1.fIn.length : Int)))) (by rfl) (fun hg141 => ?_) (fun hg141 => ?_)
          · replace h := ite_t hg141 h
            refine AWp.skip ?_
            refine seqQ_n ?_
            refine AWp.seq ?_
            refine AWp.block ?_
            refine AWp.seq ?_
            refine AWp.region (OpJs.cons (OpJ.move (ltN hN rfl) (Opd.tmp 44 (.d (.int .i64 s10.1))))
              (OpJs.cons (OpJ.assign (ltN hN rfl) (Opd.tmp 46 (.d (.int .i64 s10.1))))
              (OpJs.nil))) (by rfl) (by rfl) ?_
            refine seqQ_n ?_
            refine AWp.ghost (Mat.pat [] [(3, (.ptr 1003 0 [])), (4, (.ptr 1004 0 [])), (6, (.ptr 1006 0 [])), (7, (.d (.int .i64 s10.1))), (43, (.d (.int .i64 (a1.fIn.length : Int)))), (44, (.d (.int .i64 s10.1)))] [(1003, some (.box 30 (.d (e_api_Series a1)))), (1004, some (.box 30 (.st [(.d (.int .i64 (0 : Int))), (.d (.int .i64 (0 : Int))), .nils, .nils]))), (1006, some (.box 30 (.st [(.d (.int .i64 r9.fPort)), (.d (.int .i64 r9.fSeconds)), (.sref 100200 1 0 s10.2.2.length), (.sref 100201 1 0 s10.2.1.length)]))), (100200, some (.row 3 1 (s10.2.2.map (eI .i64)))), (100201, some (.row 3 1 (s10.2.1.map (eI .i64))))] hB (by rfl) (by rfl) (by rfl)) ?_
            refine AWp.block ?_
            refine AWp.seq ?_
            obtain ⟨x142, hx142, h⟩ := bindS h
            refine AWp.region (OpJs.cons (OpJ.val (v' := (.ptr 1003 2 [2])) (by rfl) (OpJ.fieldP Try.underlying30 (by rfl) (o := 2) (by rfl) tyS22 (by decide) (obj := (.box 30 (.d (e_api_Series a1)))) (ltN hN rfl) (Opd.tmp 3 (.ptr 1003 0 []))))
              (OpJs.cons (OpJ.loadB (bt := 30) (c := (.d (e_api_Series a1))) (v := (.d (.list 1 (a1.fIn.map (eI .i64))))) tyS22 (At.dst1 (f := (.list 1 (a1.fIn.map (eI .i64)))) (by rfl) (by rfl) (At.here _) (by first | rfl | omega)) (by rfl) (by rfl) rfl (ltN hN rfl) (Opd.tmp 48 (.ptr 1003 2 [2])))
              (OpJs.cons (OpJ.move (ltN hN rfl) (Opd.tmp 7 (.d (.int .i64 s10.1))))
              (OpJs.cons (OpJ.indexD (el := (.int .i64 x142)) Try.underlying22 tyS3 (idx_some hx142).1 (get_map (eI .i64) (idx_some hx142).2) (ltN hN rfl) (Opd.tmp 49 (.d (.list 1 (a1.fIn.map (eI .i64))))) (Opd.tmp 50 (.d (.int .i64 s10.1))))
              (OpJs.cons (OpJ.loadD tyS3 (by rfl) (by rfl) (ltN hN rfl) (Opd.tmp 51 (.dptr (.int .i64 x142))))
              (OpJs.cons (OpJ.eqlI (ltN hN rfl) (Opd.tmp 52 (.d (.int .i64 x142))) (Opd.int .i64 (-1)))
              (OpJs.cons (OpJ.assign (ltN hN rfl) (Opd.tmp 53 (.d (.bool (x142 == (-1 : Int))))))
              (OpJs.nil)))))))) (by rfl) (by rfl) ?_
            refine seqQ_n ?_
            refine AWp.ghost (Mat.pat [] [(3, (.ptr 1003 0 [])), (4, (.ptr 1004 0 [])), (6, (.ptr 1006 0 [])), (7, (.d (.int .i64 s10.1))), (43, (.d (.int .i64 (a1.fIn.length : Int)))), (44, (.d (.int .i64 s10.1))), (47, (.d (.bool (x142 == (-1 : Int)))))] [(1003, some (.box 30 (.d (e_api_Series a1)))), (1004, some (.box 30 (.st [(.d (.int .i64 (0 : Int))), (.d (.int .i64 (0 : Int))), .nils, .nils]))), (1006, some (.box 30 (.st [(.d (.int .i64 r9.fPort)), (.d (.int .i64 r9.fSeconds)), (.sref 100200 1 0 s10.2.2.length), (.sref 100201 1 0 s10.2.1.length)]))), (100200, some (.row 3 1 (s10.2.2.map (eI .i64)))), (100201, some (.row 3 1 (s10.2.1.map (eI .i64))))] hB (by rfl) (by rfl) (by rfl)) ?_
            refine AWp.cut h (fun m173 : (List Int) × (List Int) => ([(3, (.ptr 1003 0 [])), (4, (.ptr 1004 0 [])), (6, (.ptr 1006 0 [])), (43, (.d (.int .i64 (a1.fIn.length : Int)))), (44, (.d (.int .i64 s10.1)))] : EL)) (fun m173 : (List Int) × (List Int) => ([(1003, some (.box 30 (.d (e_api_Series a1)))), (1004, some (.box 30 (.st [(.d (.int .i64 (0 : Int))), (.d (.int .i64 (0 : Int))), .nils, .nils]))), (1006, some (.box 30 (.st [(.d (.int .i64 r9.fPort)), (.d (.int .i64 r9.fSeconds)), (.sref 100200 1 0 m173.2.length), (.sref 100201 1 0 m173.1.length)]))), (100200, some (.row 3 1 (m173.2.map (eI .i64)))), (100201, some (.row 3 1 (m173.1.map (eI .i64))))] : OL)) (fun m173 h E' O' hmat => ?_) (fun j174 hjj174 h => ?_)
            · refine blkQ_n ?_
              refine blkQ_n ?_
              refine seqQ_n ?_
              refine AWp.ghost hmat ?_
              refine AWp.region (OpJs.cons (OpJ.add (ltN hN rfl) (Opd.tmp 44 (.d (.int .i64 s10.1))) (Opd.int .i64 (1)))
                (OpJs.cons (OpJ.move (ltN hN rfl) (Opd.tmp 105 (.d (.int .i64 (w64 (s10.1 + (1 : Int)))))))
                (OpJs.nil))) (by rfl) (by rfl) ?_
              obtain rfl := Option.some.inj h
              exact ⟨rfl, (Mat.trans (Mat.pat [] [(3, (.ptr 1003 0 [])), (4, (.ptr 1004 0 [])), (6, (.ptr 1006 0 [])), (43, (.d (.int .i64 (a1.fIn.length : Int)))), (44, (.d (.int .i64 (w64 (s10.1 + (1 : Int))))))] [(1003, some (.box 30 (.d (e_api_Series a1)))), (1004, some (.box 30 (.st [(.d (.int .i64 (0 : Int))), (.d (.int .i64 (0 : Int))), .nils, .nils]))), (1006, some (.box 30 (.st [(.d (.int .i64 r9.fPort)), (.d (.int .i64 r9.fSeconds)), (.sref 100200 1 0 m173.2.length), (.sref 100201 1 0 m173.1.length)]))), (100200, some (.row 3 1 (m173.2.map (eI .i64)))), (100201, some (.row 3 1 (m173.1.map (eI .i64))))] hB (by rfl) (by rfl) (by rfl)) (Mat.pat [] ((fun s10 : Int × (List Int) × (List Int) => ([(3, (.ptr 1003 0 [])), (4, (.ptr 1004 0 [])), (6, (.ptr 1006 0 [])), (43, (.d (.int .i64 (a1.fIn.length : Int)))), (44, (.d (.int .i64 s10.1)))] : EL)) ((w64 (s10.1 + (1 : Int))), m173.1, m173.2)) ((fun s10 : Int × (List Int) × (List Int) => ([(1003, some (.box 30 (.d (e_api_Series a1)))), (1004, some (.box 30 (.st [(.d (.int .i64 (0 : Int))), (.d (.int .i64 (0 : Int))), .nils, .nils]))), (1006, some (.box 30 (.st [(.d (.int .i64 r9.fPort)), (.d (.int .i64 r9.fSeconds)), (.sref 100200 1 0 s10.2.2.length), (.sref 100201 1 0 s10.2.1.length)]))), (100200, some (.row 3 1 (s10.2.2.map (eI .i64)))), (100201, some (.row 3 1 (s10.2.1.map (eI .i64))))] : OL)) ((w64 (s10.1 + (1 : Int))), m173.1, m173.2)) hB (by rfl) (by rfl) (by rfl)))⟩
            · refine AWp.cond (b := (x142 == (-1 : Int))) (by rfl) (fun hg175 => ?_) (fun hg175 => ?_)
              · replace h := ite_t hg175 h
                refine AWp.skip ?_
                exact hjj174 _ h _ _ (Mat.pat [] ((fun m173 : (List Int) × (List Int) => ([(3, (.ptr 1003 0 [])), (4, (.ptr 1004 0 [])), (6, (.ptr 1006 0 [])), (43, (.d (.int .i64 (a1.fIn.length : Int)))), (44, (.d (.int .i64 s10.1)))] : EL)) (s10.2.1, s10.2.2)) ((fun m173 : (List Int) × (List Int) => ([(1003, some (.box 30 (.d (e_api_Series a1)))), (1004, some (.box 30 (.st [(.d (.int .i64 (0 : Int))), (.d (.int .i64 (0 : Int))), .nils, .nils]))), (1006, some (.box 30 (.st [(.d (.int .i64 r9.fPort)), (.d (.int .i64 r9.fSeconds)), (.sref 100200 1 0 m173.2.length), (.sref 100201 1 0 m173.1.length)]))), (100200, some (.row 3 1 (m173.2.map (eI .i64)))), (100201, some (.row 3 1 (m173.1.map (eI .i64))))] : OL)) (s10.2.1, s10.2.2)) hB (by rfl) (by rfl) (by rfl))
              · replace h := ite_f hg175 h
                refine AWp.seq ?_
                obtain ⟨x176, hx176, h⟩ := bindS h
                obtain ⟨x177, hx177, h⟩ := bindS h
                refine AWp.region (OpJs.cons (OpJ.val (v' := (.ptr 1006 2 [2])) (by rfl) (OpJ.fieldP Try.underlying30 (by rfl) (o := 2) (by rfl) tyS22 (by decide) (obj := (.box 30 (.st [(.d (.int .i64 r9.fPort)), (.d (.int .i64 r9.fSeconds)), (.sref 100200 1 0 s10.2.2.length), (.sref 100201 1 0 s10.2.1.length)]))) (ltN hN rfl) (Opd.tmp 6 (.ptr 1006 0 []))))
                  (OpJs.cons (OpJ.loadB (bt := 30) (c := (.st [(.d (.int .i64 r9.fPort)), (.d (.int .i64 r9.fSeconds)), (.sref 100200 1 0 s10.2.2.length), (.sref 100201 1 0 s10.2.1.length)])) (v := (.sref 100200 1 0 s10.2.2.length)) tyS22 (At.st1 (f := (.sref 100200 1 0 s10.2.2.length)) (by rfl) (by rfl) (At.here _) (by first | rfl | omega)) (by rfl) (by rfl) rfl (ltN hN rfl) (Opd.tmp 55 (.ptr 1006 2 [2])))
                  (OpJs.cons (OpJ.move (ltN hN rfl) (Opd.tmp 7 (.d (.int .i64 s10.1))))
                  (OpJs.cons (OpJ.val (v' := (.ptr 100200 (s10.1.toNat * 1) [s10.1.toNat])) (by simp) (OpJ.indexS Try.underlying22 tyS3 (obj := (.row 3 1 (s10.2.2.map (eI .i64)))) (idx_some hx176).1 (by have := idx_lt hx176; first | (simpa using this) | ((try simp only [List.length_map] at this); (try simp only [List.length_map]); omega)) (ltN hN rfl) (Opd.tmp 56 (.sref 100200 1 0 s10.2.2.length)) (Opd.tmp 57 (.d (.int .i64 s10.1)))))
                  (OpJs.cons (OpJ.loadR (e := 3) (sz := 1) (es := s10.2.2.map (eI .i64)) tyS3 (get_map (eI .i64) (idx_some hx177).2) (o := 0) (v := (.int .i64 x177)) (At.here _) (by rfl) (by rfl) (by rfl) (ltN hN rfl) (Opd.tmp 58 (.ptr 100200 (s10.1.toNat * 1) [s10.1.toNat])))
                  (OpJs.cons (OpJ.eqlI (ltN hN rfl) (Opd.tmp 59 (.d (.int .i64 x177))) (Opd.int .i64 (-1)))
                  (OpJs.cons (OpJ.assign (ltN hN rfl) (Opd.tmp 60 (.d (.bool (x177 == (-1 : Int))))))
                  (OpJs.nil)))))))) (by rfl) (by rfl) ?_
                refine seqQ_n ?_
                refine AWp.ghost (Mat.pat [] [(3, (.ptr 1003 0 [])), (4, (.ptr 1004 0 [])), (6, (.ptr 1006 0 [])), (7, (.d (.int .i64 s10.1))), (43, (.d (.int .i64 (a1.fIn.length : Int)))), (44, (.d (.int .i64 s10.1))), (54, (.d (.bool (x177 == (-1 : Int)))))] [(1003, some (.box 30 (.d (e_api_Series a1)))), (1004, some (.box 30 (.st [(.d (.int .i64 (0 : Int))), (.d (.int .i64 (0 : Int))), .nils, .nils]))), (1006, some (.box 30 (.st [(.d (.int .i64 r9.fPort)), (.d (.int .i64 r9.fSeconds)), (.sref 100200 1 0 s10.2.2.length), (.sref 100201 1 0 s10.2.1.length)]))), (100200, some (.row 3 1 (s10.2.2.map (eI .i64)))), (100201, some (.row 3 1 (s10.2.1.map (eI .i64))))] hB (by rfl) (by rfl) (by rfl)) ?_
                refine AWp.cond (b := (x177 == (-1 : Int))) (by rfl) (fun hg178 => ?_) (fun hg178 => ?_)
                · replace h := ite_t hg178 h
                  obtain ⟨x179, hx179, h⟩ := bindS h
                  obtain ⟨x180, hx180, h⟩ := bindS h
                  obtain ⟨x181, hx181, h⟩ := bindS h
                  obtain ⟨x182, hx182, h⟩ := bindS h
                  obtain ⟨x183, hx183, h⟩ := bindS h
                  obtain ⟨x184, hx184, h⟩ := bindS h
                  refine AWp.draws (by kernel_rfl) (OpJs.cons (OpJ.val (v' := (.ptr 1006 2 [2])) (by rfl) (OpJ.fieldP Try.underlying30 (by rfl) (o := 2) (by rfl) tyS22 (by decide) (obj := (.box 30 (.st [(.d (.int .i64 r9.fPort)), (.d (.int .i64 r9.fSeconds)), (.sref 100200 1 0 s10.2.2.length), (.sref 100201 1 0 s10.2.1.length)]))) (ltN hN rfl) (Opd.tmp 6 (.ptr 1006 0 []))))
                    (OpJs.cons (OpJ.loadB (bt := 30) (c := (.st [(.d (.int .i64 r9.fPort)), (.d (.int .i64 r9.fSeconds)), (.sref 100200 1 0 s10.2.2.length), (.sref 100201 1 0 s10.2.1.length)])) (v := (.sref 100200 1 0 s10.2.2.length)) tyS22 (At.st1 (f := (.sref 100200 1 0 s10.2.2.length)) (by rfl) (by rfl) (At.here _) (by first | rfl | omega)) (by rfl) (by rfl) rfl (ltN hN rfl) (Opd.tmp 61 (.ptr 1006 2 [2])))
                    (OpJs.cons (OpJ.move (ltN hN rfl) (Opd.tmp 7 (.d (.int .i64 s10.1))))
                    (OpJs.cons (OpJ.val (v' := (.ptr 1006 3 [3])) (by rfl) (OpJ.fieldP Try.underlying30 (by rfl) (o := 3) (by rfl) tyS22 (by decide) (obj := (.box 30 (.st [(.d (.int .i64 r9.fPort)), (.d (.int .i64 r9.fSeconds)), (.sref 100200 1 0 s10.2.2.length), (.sref 100201 1 0 s10.2.1.length)]))) (ltN hN rfl) (Opd.tmp 6 (.ptr 1006 0 []))))
                    (OpJs.cons (OpJ.loadB (bt := 30) (c := (.st [(.d (.int .i64 r9.fPort)), (.d (.int .i64 r9.fSeconds)), (.sref 100200 1 0 s10.2.2.length), (.sref 100201 1 0 s10.2.1.length)])) (v := (.sref 100201 1 0 s10.2.1.length)) tyS22 (At.st1 (f := (.sref 100201 1 0 s10.2.1.length)) (by rfl) (by rfl) (At.here _) (by first | rfl | omega)) (by rfl) (by rfl) rfl (ltN hN rfl) (Opd.tmp 64 (.ptr 1006 3 [3])))
                    (OpJs.cons (OpJ.move (ltN hN rfl) (Opd.tmp 7 (.d (.int .i64 s10.1))))
                    (OpJs.cons (OpJ.val (v' := (.ptr 1003 2 [2])) (by rfl) (OpJ.fieldP Try.underlying30 (by rfl) (o := 2) (by rfl) tyS22 (by decide) (obj := (.box 30 (.d (e_api_Series a1)))) (ltN hN rfl) (Opd.tmp 3 (.ptr 1003 0 []))))
                    (OpJs.cons (OpJ.loadB (bt := 30) (c := (.d (e_api_Series a1))) (v := (.d (.list 1 (a1.fIn.map (eI .i64))))) tyS22 (At.dst1 (f := (.list 1 (a1.fIn.map (eI .i64)))) (by rfl) (by rfl) (At.here _) (by first | rfl | omega)) (by rfl) (by rfl) rfl (ltN hN rfl) (Opd.tmp 67 (.ptr 1003 2 [2])))
                    (OpJs.cons (OpJ.move (ltN hN rfl) (Opd.tmp 7 (.d (.int .i64 s10.1))))
                    (OpJs.cons (OpJ.indexD (el := (.int .i64 x179)) Try.underlying22 tyS3 (idx_some hx179).1 (get_map (eI .i64) (idx_some hx179).2) (ltN hN rfl) (Opd.tmp 68 (.d (.list 1 (a1.fIn.map (eI .i64))))) (Opd.tmp 69 (.d (.int .i64 s10.1))))
                    (OpJs.cons (OpJ.loadD tyS3 (by rfl) (by rfl) (ltN hN rfl) (Opd.tmp 70 (.dptr (.int .i64 x179))))
                    (OpJs.cons (OpJ.val (v' := (.ptr 1003 3 [3])) (by rfl) (OpJ.fieldP Try.underlying30 (by rfl) (o := 3) (by rfl) tyS22 (by decide) (obj := (.box 30 (.d (e_api_Series a1)))) (ltN hN rfl) (Opd.tmp 3 (.ptr 1003 0 []))))
                    (OpJs.cons (OpJ.loadB (bt := 30) (c := (.d (e_api_Series a1))) (v := (.d (.list 1 (a1.fOut.map (eI .i64))))) tyS22 (At.dst1 (f := (.list 1 (a1.fOut.map (eI .i64)))) (by rfl) (by rfl) (At.here _) (by first | rfl | omega)) (by rfl) (by rfl) rfl (ltN hN rfl) (Opd.tmp 72 (.ptr 1003 3 [3])))
                    (OpJs.cons (OpJ.move (ltN hN rfl) (Opd.tmp 7 (.d (.int .i64 s10.1))))
                    (OpJs.cons (OpJ.indexD (el := (.int .i64 x180)) Try.underlying22 tyS3 (idx_some hx180).1 (get_map (eI .i64) (idx_some hx180).2) (ltN hN rfl) (Opd.tmp 73 (.d (.list 1 (a1.fOut.map (eI .i64))))) (Opd.tmp 74 (.d (.int .i64 s10.1))))
                    (OpJs.cons (OpJ.loadD tyS3 (by rfl) (by rfl) (ltN hN rfl) (Opd.tmp 75 (.dptr (.int .i64 x180))))
                    (OpJs.cons (OpJ.val (v' := (.ptr 100200 (s10.1.toNat * 1) [s10.1.toNat])) (by simp) (OpJ.indexS Try.underlying22 tyS3 (obj := (.row 3 1 (s10.2.2.map (eI .i64)))) (idx_some hx181).1 (by have := idx_lt hx181; first | (simpa using this) | ((try simp only [List.length_map] at this); (try simp only [List.length_map]); omega)) (ltN hN rfl) (Opd.tmp 62 (.sref 100200 1 0 s10.2.2.length)) (Opd.tmp 63 (.d (.int .i64 s10.1)))))
                    (OpJs.cons (OpJ.storeR (e := 3) (sz := 1) (es := s10.2.2.map (eI .i64)) (es' := (s10.2.2.set s10.1.toNat x179).map (eI .i64)) tyS3 (get_map (eI .i64) (idx_some hx182).2) (o := 0) (v := (.int .i64 x179)) (el' := (.int .i64 x179)) (SetAt.here _ _) (by rfl) (map_set _ _ _ _) (by rfl) (by rfl) (Opd.tmp 77 (.ptr 100200 (s10.1.toNat * 1) [s10.1.toNat])) (Opd.tmp 71 (.d (.int .i64 x179))))
                    (OpJs.cons (OpJ.val (v' := (.ptr 100201 (s10.1.toNat * 1) [s10.1.toNat])) (by simp) (OpJ.indexS Try.underlying22 tyS3 (obj := (.row 3 1 (s10.2.1.map (eI .i64)))) (idx_some hx183).1 (by have := idx_lt hx183; first | (simpa using this) | ((try simp only [List.length_map] at this); (try simp only [List.length_map]); omega)) (ltN hN rfl) (Opd.tmp 65 (.sref 100201 1 0 s10.2.1.length)) (Opd.tmp 66 (.d (.int .i64 s10.1)))))
                    (OpJs.cons (OpJ.storeR (e := 3) (sz := 1) (es := s10.2.1.map (eI .i64)) (es' := (s10.2.1.set s10.1.toNat x180).map (eI .i64)) tyS3 (get_map (eI .i64) (idx_some hx184).2) (o := 0) (v := (.int .i64 x180)) (el' := (.int .i64 x180)) (SetAt.here _ _) (by rfl) (map_set _ _ _ _) (by rfl) (by rfl) (Opd.tmp 78 (.ptr 100201 (s10.1.toNat * 1) [s10.1.toNat])) (Opd.tmp 76 (.d (.int .i64 x180))))
                    (OpJs.nil))))))))))))))))))))) (by kernel_rfl) (by rfl) (by rfl) ?_
                  exact hjj174 _ h _ _ (Mat.trans (Mat.pat [] [(3, (.ptr 1003 0 [])), (4, (.ptr 1004 0 [])), (6, (.ptr 1006 0 [])), (43, (.d (.int .i64 (a1.fIn.length : Int)))), (44, (.d (.int .i64 s10.1)))] [(1003, some (.box 30 (.d (e_api_Series a1)))), (1004, some (.box 30 (.st [(.d (.int .i64 (0 : Int))), (.d (.int .i64 (0 : Int))), .nils, .nils]))), (1006, some (.box 30 (.st [(.d (.int .i64 r9.fPort)), (.d (.int .i64 r9.fSeconds)), (.sref 100200 1 0 s10.2.2.length), (.sref 100201 1 0 s10.2.1.length)]))), (100200, some (.row 3 1 ((s10.2.2.set s10.1.toNat x179).map (eI .i64)))), (100201, some (.row 3 1 ((s10.2.1.set s10.1.toNat x180).map (eI .i64))))] hB (by rfl) (by rfl) (by rfl)) (Mat.trans (Mat.lenP (Ts := []) (Bs := [(1006, some (.box 30 (.st [(.d (.int .i64 r9.fPort)), (.d (.int .i64 r9.fSeconds)), (.sref 100200 1 0 ((s10.2.2.set s10.1.toNat x179).length)), (.sref 100201 1 0 s10.2.1.length)])))]) TwT.nil (TwB.cons (x := (.st [(.d (.int .i64 r9.fPort)), (.d (.int .i64 r9.fSeconds)), (.sref 100200 1 0 s10.2.2.length), (.sref 100201 1 0 s10.2.1.length)])) (by rfl) (Tw.st (TwL.cons (Tw.same _) (TwL.cons (Tw.same _) (TwL.cons (Tw.leaf ⟨_, _, _, _, _, rfl, rfl, (by first | rfl | (simp; done) | (simp; omega))⟩) (TwL.cons (Tw.same _) TwL.nil))))) TwB.nil)) (Mat.trans (Mat.lenP (Ts := []) (Bs := [(1006, some (.box 30 (.st [(.d (.int .i64 r9.fPort)), (.d (.int .i64 r9.fSeconds)), (.sref 100200 1 0 ((s10.2.2.set s10.1.toNat x179).length)), (.sref 100201 1 0 ((s10.2.1.set s10.1.toNat x180).length))])))]) TwT.nil (TwB.cons (x := (.st [(.d (.int .i64 r9.fPort)), (.d (.int .i64 r9.fSeconds)), (.sref 100200 1 0 ((s10.2.2.set s10.1.toNat x179).length)), (.sref 100201 1 0 s10.2.1.length)])) (by rfl) (Tw.st (TwL.cons (Tw.same _) (TwL.cons (Tw.same _) (TwL.cons (Tw.same _) (TwL.cons (Tw.leaf ⟨_, _, _, _, _, rfl, rfl, (by first | rfl | (simp; done) | (simp; omega))⟩) TwL.nil))))) TwB.nil)) (Mat.pat [] ((fun m173 : (List Int) × (List Int) => ([(3, (.ptr 1003 0 [])), (4, (.ptr 1004 0 [])), (6, (.ptr 1006 0 [])), (43, (.d (.int .i64 (a1.fIn.length : Int)))), (44, (.d (.int .i64 s10.1)))] : EL)) ((s10.2.1.set s10.1.toNat x180), (s10.2.2.set s10.1.toNat x179))) ((fun m173 : (List Int) × (List Int) => ([(1003, some (.box 30 (.d (e_api_Series a1)))), (1004, some (.box 30 (.st [(.d (.int .i64 (0 : Int))), (.d (.int .i64 (0 : Int))), .nils, .nils]))), (1006, some (.box 30 (.st [(.d (.int .i64 r9.fPort)), (.d (.int .i64 r9.fSeconds)), (.sref 100200 1 0 m173.2.length), (.sref 100201 1 0 m173.1.length)]))), (100200, some (.row 3 1 (m173.2.map (eI .i64)))), (100201, some (.row 3 1 (m173.1.map (eI .i64))))] : OL)) ((s10.2.1.set s10.1.toNat x180), (s10.2.2.set s10.1.toNat x179))) hB (by rfl) (by rfl) (by rfl)))))
                · replace h := ite_f hg178 h
                  refine AWp.seq ?_
                  refine AWp.cut h (fun m195 : Bool => ([(3, (.ptr 1003 0 [])), (4, (.ptr 1004 0 [])), (6, (.ptr 1006 0 [])), (43, (.d (.int .i64 (a1.fIn.length : Int)))), (44, (.d (.int .i64 s10.1))), (79, (.d (.bool m195)))] : EL)) (fun m195 : Bool => ([(1003, some (.box 30 (.d (e_api_Series a1)))), (1004, some (.box 30 (.st [(.d (.int .i64 (0 : Int))), (.d (.int .i64 (0 : Int))), .nils, .nils]))), (1006, some (.box 30 (.st [(.d (.int .i64 r9.fPort)), (.d (.int .i64 r9.fSeconds)), (.sref 100200 1 0 s10.2.2.length), (.sref 100201 1 0 s10.2.1.length)]))), (100200, some (.row 3 1 (s10.2.2.map (eI .i64)))), (100201, some (.row 3 1 (s10.2.1.map (eI .i64))))] : OL)) (fun m195 h E' O' hmat => ?_) (fun j196 hjj196 h => ?_)
                  · refine seqQ_n ?_
                    refine AWp.ghost hmat ?_
                    refine AWp.cond (b := m195) (by rfl) (fun hg197 => ?_) (fun hg197 => ?_)
                    · replace h := ite_t hg197 h
                      refine AWp.seq ?_
                      refine AWp.region (OpJs.cons (OpJ.build (places := [(0, 1), (1, 1), (2, 1), (3, 1)]) ⟨Try.underlying30, fun w => by kernel_rfl⟩ tyZS30 Opds.nil (by kernel_rfl) (r := (.st [(.d (.int .i64 (0 : Int))), (.d (.int .i64 (0 : Int))), .nils, .nils])) (by rfl) (ltN hN rfl))
                        (OpJs.cons (OpJ.storeB (bt := 30) (c := (.st [(.d (.int .i64 (0 : Int))), (.d (.int .i64 (0 : Int))), .nils, .nils])) (v := (.st [(.d (.int .i64 (0 : Int))), (.d (.int .i64 (0 : Int))), .nils, .nils])) (c' := (.st [(.d (.int .i64 (0 : Int))), (.d (.int .i64 (0 : Int))), .nils, .nils])) tyS30 (SetAt.here _ _) (by rfl) (by rfl) (by simp) rfl (Opd.tmp 4 (.ptr 1004 0 [])) (Opd.tmp 104 (.st [(.d (.int .i64 (0 : Int))), (.d (.int .i64 (0 : Int))), .nils, .nils])))
                        (OpJs.cons (OpJ.assign (ltN hN rfl) (Opd.int .i64 (8)))
                        (OpJs.nil)))) (by rfl) (by rfl) ?_
                      refine seqQ_n ?_
                      refine AWp.ghost (Mat.pat [] [(4, (.ptr 1004 0 [])), (5, (.d (.int .i64 (8 : Int))))] [(1004, some (.box 30 (.st [(.d (.int .i64 (0 : Int))), (.d (.int .i64 (0 : Int))), .nils, .nils])))] hB (by rfl) (by rfl) (by rfl)) ?_
                      refine AWp.ret ?_
                      refine blkQ_r ?_
                      refine blkQ_r ?_
                      refine seqQ_r ?_
                      obtain rfl := Option.some.inj h
                      exact ⟨(fun hc => by cases hc), rfl, (Mat.pat [] ((fun _ : Unit => ([(4, (.ptr 1004 0 [])), (5, (.d (.int .i64 (8 : Int))))] : EL)) ()) ((fun _ : Unit => ([(1004, some (.box 30 (.st [(.d (.int .i64 (0 : Int))), (.d (.int .i64 (0 : Int))), .nils, .nils])))] : OL)) ()) hB (by rfl) (by rfl) (by rfl))⟩
                    · replace h := ite_f hg197 h
                      refine AWp.skip ?_
                      exact hjj174 _ h _ _ (Mat.pat [] ((fun m173 : (List Int) × (List Int) => ([(3, (.ptr 1003 0 [])), (4, (.ptr 1004 0 [])), (6, (.ptr 1006 0 [])), (43, (.d (.int .i64 (a1.fIn.length : Int)))), (44, (.d (.int .i64 s10.1)))] : EL)) (s10.2.1, s10.2.2)) ((fun m173 : (List Int) × (List Int) => ([(1003, some (.box 30 (.d (e_api_Series a1)))), (1004, some (.box 30 (.st [(.d (.int .i64 (0 : Int))), (.d (.int .i64 (0 : Int))), .nils, .nils]))), (1006, some (.box 30 (.st [(.d (.int .i64 r9.fPort)), (.d (.int .i64 r9.fSeconds)), (.sref 100200 1 0 m173.2.length), (.sref 100201 1 0 m173.1.length)]))), (100200, some (.row 3 1 (m173.2.map (eI .i64)))), (100201, some (.row 3 1 (m173.1.map (eI .i64))))] : OL)) (s10.2.1, s10.2.2)) hB (by rfl) (by rfl) (by rfl))
                  · obtain ⟨x198, hx198, h⟩ := bindS h
                    obtain ⟨x199, hx199, h⟩ := bindS h
                    obtain ⟨x200, hx200, h⟩ := bindS h
                    rcases Bool.eq_false_or_eq_true (x199 != x200) with hg201 | hg201
                    · replace h := ite_t hg201 h
                      refine AWp.draws (by kernel_rfl) (OpJs.cons (OpJ.val (v' := (.ptr 1006 2 [2])) (by rfl) (OpJ.fieldP Try.underlying30 (by rfl) (o := 2) (by rfl) tyS22 (by decide) (obj := (.box 30 (.st [(.d (.int .i64 r9.fPort)), (.d (.int .i64 r9.fSeconds)), (.sref 100200 1 0 s10.2.2.length), (.sref 100201 1 0 s10.2.1.length)]))) (ltN hN rfl) (Opd.tmp 6 (.ptr 1006 0 []))))
                        (OpJs.cons (OpJ.loadB (bt := 30) (c := (.st [(.d (.int .i64 r9.fPort)), (.d (.int .i64 r9.fSeconds)), (.sref 100200 1 0 s10.2.2.length), (.sref 100201 1 0 s10.2.1.length)])) (v := (.sref 100200 1 0 s10.2.2.length)) tyS22 (At.st1 (f := (.sref 100200 1 0 s10.2.2.length)) (by rfl) (by rfl) (At.here _) (by first | rfl | omega)) (by rfl) (by rfl) rfl (ltN hN rfl) (Opd.tmp 80 (.ptr 1006 2 [2])))
                        (OpJs.cons (OpJ.move (ltN hN rfl) (Opd.tmp 7 (.d (.int .i64 s10.1))))
                        (OpJs.cons (OpJ.val (v' := (.ptr 100200 (s10.1.toNat * 1) [s10.1.toNat])) (by simp) (OpJ.indexS Try.underlying22 tyS3 (obj := (.row 3 1 (s10.2.2.map (eI .i64)))) (idx_some hx198).1 (by have := idx_lt hx198; first | (simpa using this) | ((try simp only [List.length_map] at this); (try simp only [List.length_map]); omega)) (ltN hN rfl) (Opd.tmp 81 (.sref 100200 1 0 s10.2.2.length)) (Opd.tmp 82 (.d (.int .i64 s10.1)))))
                        (OpJs.cons (OpJ.loadR (e := 3) (sz := 1) (es := s10.2.2.map (eI .i64)) tyS3 (get_map (eI .i64) (idx_some hx199).2) (o := 0) (v := (.int .i64 x199)) (At.here _) (by rfl) (by rfl) (by rfl) (ltN hN rfl) (Opd.tmp 83 (.ptr 100200 (s10.1.toNat * 1) [s10.1.toNat])))
                        (OpJs.cons (OpJ.val (v' := (.ptr 1003 2 [2])) (by rfl) (OpJ.fieldP Try.underlying30 (by rfl) (o := 2) (by rfl) tyS22 (by decide) (obj := (.box 30 (.d (e_api_Series a1)))) (ltN hN rfl) (Opd.tmp 3 (.ptr 1003 0 []))))
                        (OpJs.cons (OpJ.loadB (bt := 30) (c := (.d (e_api_Series a1))) (v := (.d (.list 1 (a1.fIn.map (eI .i64))))) tyS22 (At.dst1 (f := (.list 1 (a1.fIn.map (eI .i64)))) (by rfl) (by rfl) (At.here _) (by first | rfl | omega)) (by rfl) (by rfl) rfl (ltN hN rfl) (Opd.tmp 85 (.ptr 1003 2 [2])))
                        (OpJs.cons (OpJ.move (ltN hN rfl) (Opd.tmp 7 (.d (.int .i64 s10.1))))
                        (OpJs.cons (OpJ.indexD (el := (.int .i64 x200)) Try.underlying22 tyS3 (idx_some hx200).1 (get_map (eI .i64) (idx_some hx200).2) (ltN hN rfl) (Opd.tmp 86 (.d (.list 1 (a1.fIn.map (eI .i64))))) (Opd.tmp 87 (.d (.int .i64 s10.1))))
                        (OpJs.cons (OpJ.loadD tyS3 (by rfl) (by rfl) (ltN hN rfl) (Opd.tmp 88 (.dptr (.int .i64 x200))))
                        (OpJs.cons (OpJ.neqI (ltN hN rfl) (Opd.tmp 84 (.d (.int .i64 x199))) (Opd.tmp 89 (.d (.int .i64 x200))))
                        (OpJs.cons (OpJ.val (v' := .d (.bool true)) (by rw [hg201]) (OpJ.move (ltN hN rfl) (Opd.tmp 90 (.d (.bool (x199 != x200))))))
                        (OpJs.cons (OpJ.skipU (ltN hN rfl) (by rfl))
                        (OpJs.cons (OpJ.skipU (ltN hN rfl) (by rfl))
                        (OpJs.cons (OpJ.skipU (ltN hN rfl) (by rfl))
                        (OpJs.cons (OpJ.skipU (ltN hN rfl) (by rfl))
                        (OpJs.cons (OpJ.skipU (ltN hN rfl) (by rfl))
                        (OpJs.cons (OpJ.skipU (ltN hN rfl) (by rfl))
                        (OpJs.cons (OpJ.skipU (ltN hN rfl) (by rfl))
                        (OpJs.cons (OpJ.skipU (ltN hN rfl) (by rfl))
                        (OpJs.cons (OpJ.skipU (ltN hN rfl) (by rfl))
                        (OpJs.cons (OpJ.skipU (ltN hN rfl) (by rfl))
                        (OpJs.cons (OpJ.skipU (ltN hN rfl) (by rfl))
                        (OpJs.cons (OpJ.pickT (ltN hN rfl) (Opd.tmp 91 (.d (.bool true))) (Opd.bool true))
                        (OpJs.cons (OpJ.assign (ltN hN rfl) (Opd.tmp 103 (.d (.bool true))))
                        (OpJs.nil)))))))))))))))))))))))))) (by kernel_rfl) (by rfl) (by rfl) ?_
                      exact hjj196 _ h _ _ (Mat.trans (Mat.pat [] [(3, (.ptr 1003 0 [])), (4, (.ptr 1004 0 [])), (6, (.ptr 1006 0 [])), (43, (.d (.int .i64 (a1.fIn.length : Int)))), (44, (.d (.int .i64 s10.1))), (79, (.d (.bool true)))] [(1003, some (.box 30 (.d (e_api_Series a1)))), (1004, some (.box 30 (.st [(.d (.int .i64 (0 : Int))), (.d (.int .i64 (0 : Int))), .nils, .nils]))), (1006, some (.box 30 (.st [(.d (.int .i64 r9.fPort)), (.d (.int .i64 r9.fSeconds)), (.sref 100200 1 0 s10.2.2.length), (.sref 100201 1 0 s10.2.1.length)]))), (100200, some (.row 3 1 (s10.2.2.map (eI .i64)))), (100201, some (.row 3 1 (s10.2.1.map (eI .i64))))] hB (by rfl) (by rfl) (by rfl)) (Mat.pat [] ((fun m195 : Bool => ([(3, (.ptr 1003 0 [])), (4, (.ptr 1004 0 [])), (6, (.ptr 1006 0 [])), (43, (.d (.int .i64 (a1.fIn.length : Int)))), (44, (.d (.int .i64 s10.1))), (79, (.d (.bool m195)))] : EL)) true) ((fun m195 : Bool => ([(1003, some (.box 30 (.d (e_api_Series a1)))), (1004, some (.box 30 (.st [(.d (.int .i64 (0 : Int))), (.d (.int .i64 (0 : Int))), .nils, .nils]))), (1006, some (.box 30 (.st [(.d (.int .i64 r9.fPort)), (.d (.int .i64 r9.fSeconds)), (.sref 100200 1 0 s10.2.2.length), (.sref 100201 1 0 s10.2.1.length)]))), (100200, some (.row 3 1 (s10.2.2.map (eI .i64)))), (100201, some (.row 3 1 (s10.2.1.map (eI .i64))))] : OL)) true) hB (by rfl) (by rfl) (by rfl)))
                    · replace h := ite_f hg201 h
                      obtain ⟨x202, hx202, h⟩ := bindS h
                      obtain ⟨x203, hx203, h⟩ := bindS h
                      obtain ⟨x204, hx204, h⟩ := bindS h
                      refine AWp.draws (by kernel_rfl) (OpJs.cons (OpJ.val (v' := (.ptr 1006 2 [2])) (by rfl) (OpJ.fieldP Try.underlying30 (by rfl) (o := 2) (by rfl) tyS22 (by decide) (obj := (.box 30 (.st [(.d (.int .i64 r9.fPort)), (.d (.int .i64 r9.fSeconds)), (.sref 100200 1 0 s10.2.2.length), (.sref 100201 1 0 s10.2.1.length)]))) (ltN hN rfl) (Opd.tmp 6 (.ptr 1006 0 []))))
                        (OpJs.cons (OpJ.loadB (bt := 30) (c := (.st [(.d (.int .i64 r9.fPort)), (.d (.int .i64 r9.fSeconds)), (.sref 100200 1 0 s10.2.2.length), (.sref 100201 1 0 s10.2.1.length)])) (v := (.sref 100200 1 0 s10.2.2.length)) tyS22 (At.st1 (f := (.sref 100200 1 0 s10.2.2.length)) (by rfl) (by rfl) (At.here _) (by first | rfl | omega)) (by rfl) (by rfl) rfl (ltN hN rfl) (Opd.tmp 80 (.ptr 1006 2 [2])))
                        (OpJs.cons (OpJ.move (ltN hN rfl) (Opd.tmp 7 (.d (.int .i64 s10.1))))
                        (OpJs.cons (OpJ.val (v' := (.ptr 100200 (s10.1.toNat * 1) [s10.1.toNat])) (by simp) (OpJ.indexS Try.underlying22 tyS3 (obj := (.row 3 1 (s10.2.2.map (eI .i64)))) (idx_some hx198).1 (by have := idx_lt hx198; first | (simpa using this) | ((try simp only [List.length_map] at this); (try simp only [List.length_map]); omega)) (ltN hN rfl) (Opd.tmp 81 (.sref 100200 1 0 s10.2.2.length)) (Opd.tmp 82 (.d (.int .i64 s10.1)))))
                        (OpJs.cons (OpJ.loadR (e := 3) (sz := 1) (es := s10.2.2.map (eI .i64)) tyS3 (get_map (eI .i64) (idx_some hx199).2) (o := 0) (v := (.int .i64 x199)) (At.here _) (by rfl) (by rfl) (by rfl) (ltN hN rfl) (Opd.tmp 83 (.ptr 100200 (s10.1.toNat * 1) [s10.1.toNat])))
                        (OpJs.cons (OpJ.val (v' := (.ptr 1003 2 [2])) (by rfl) (OpJ.fieldP Try.underlying30 (by rfl) (o := 2) (by rfl) tyS22 (by decide) (obj := (.box 30 (.d (e_api_Series a1)))) (ltN hN rfl) (Opd.tmp 3 (.ptr 1003 0 []))))
                        (OpJs.cons (OpJ.loadB (bt := 30) (c := (.d (e_api_Series a1))) (v := (.d (.list 1 (a1.fIn.map (eI .i64))))) tyS22 (At.dst1 (f := (.list 1 (a1.fIn.map (eI .i64)))) (by rfl) (by rfl) (At.here _) (by first | rfl | omega)) (by rfl) (by rfl) rfl (ltN hN rfl) (Opd.tmp 85 (.ptr 1003 2 [2])))
                        (OpJs.cons (OpJ.move (ltN hN rfl) (Opd.tmp 7 (.d (.int .i64 s10.1))))
                        (OpJs.cons (OpJ.indexD (el := (.int .i64 x200)) Try.underlying22 tyS3 (idx_some hx200).1 (get_map (eI .i64) (idx_some hx200).2) (ltN hN rfl) (Opd.tmp 86 (.d (.list 1 (a1.fIn.map (eI .i64))))) (Opd.tmp 87 (.d (.int .i64 s10.1))))
                        (OpJs.cons (OpJ.loadD tyS3 (by rfl) (by rfl) (ltN hN rfl) (Opd.tmp 88 (.dptr (.int .i64 x200))))
                        (OpJs.cons (OpJ.neqI (ltN hN rfl) (Opd.tmp 84 (.d (.int .i64 x199))) (Opd.tmp 89 (.d (.int .i64 x200))))
                        (OpJs.cons (OpJ.val (v' := .d (.bool false)) (by rw [hg201]) (OpJ.move (ltN hN rfl) (Opd.tmp 90 (.d (.bool (x199 != x200))))))
                        (OpJs.cons (OpJ.guarded (by rfl) (OpJ.val (v' := (.ptr 1006 3 [3])) (by rfl) (OpJ.fieldP Try.underlying30 (by rfl) (o := 3) (by rfl) tyS22 (by decide) (obj := (.box 30 (.st [(.d (.int .i64 r9.fPort)), (.d (.int .i64 r9.fSeconds)), (.sref 100200 1 0 s10.2.2.length), (.sref 100201 1 0 s10.2.1.length)]))) (ltN hN rfl) (Opd.tmp 6 (.ptr 1006 0 [])))))
                        (OpJs.cons (OpJ.guarded (by rfl) (OpJ.loadB (bt := 30) (c := (.st [(.d (.int .i64 r9.fPort)), (.d (.int .i64 r9.fSeconds)), (.sref 100200 1 0 s10.2.2.length), (.sref 100201 1 0 s10.2.1.length)])) (v := (.sref 100201 1 0 s10.2.1.length)) tyS22 (At.st1 (f := (.sref 100201 1 0 s10.2.1.length)) (by rfl) (by rfl) (At.here _) (by first | rfl | omega)) (by rfl) (by rfl) rfl (ltN hN rfl) (Opd.tmp 92 (.ptr 1006 3 [3]))))
                        (OpJs.cons (OpJ.guarded (by rfl) (OpJ.move (ltN hN rfl) (Opd.tmp 7 (.d (.int .i64 s10.1)))))
                        (OpJs.cons (OpJ.guarded (by rfl) (OpJ.val (v' := (.ptr 100201 (s10.1.toNat * 1) [s10.1.toNat])) (by simp) (OpJ.indexS Try.underlying22 tyS3 (obj := (.row 3 1 (s10.2.1.map (eI .i64)))) (idx_some hx202).1 (by have := idx_lt hx202; first | (simpa using this) | ((try simp only [List.length_map] at this); (try simp only [List.length_map]); omega)) (ltN hN rfl) (Opd.tmp 93 (.sref 100201 1 0 s10.2.1.length)) (Opd.tmp 94 (.d (.int .i64 s10.1))))))
                        (OpJs.cons (OpJ.guarded (by rfl) (OpJ.loadR (e := 3) (sz := 1) (es := s10.2.1.map (eI .i64)) tyS3 (get_map (eI .i64) (idx_some hx203).2) (o := 0) (v := (.int .i64 x203)) (At.here _) (by rfl) (by rfl) (by rfl) (ltN hN rfl) (Opd.tmp 95 (.ptr 100201 (s10.1.toNat * 1) [s10.1.toNat]))))
                        (OpJs.cons (OpJ.guarded (by rfl) (OpJ.val (v' := (.ptr 1003 3 [3])) (by rfl) (OpJ.fieldP Try.underlying30 (by rfl) (o := 3) (by rfl) tyS22 (by decide) (obj := (.box 30 (.d (e_api_Series a1)))) (ltN hN rfl) (Opd.tmp 3 (.ptr 1003 0 [])))))
                        (OpJs.cons (OpJ.guarded (by rfl) (OpJ.loadB (bt := 30) (c := (.d (e_api_Series a1))) (v := (.d (.list 1 (a1.fOut.map (eI .i64))))) tyS22 (At.dst1 (f := (.list 1 (a1.fOut.map (eI .i64)))) (by rfl) (by rfl) (At.here _) (by first | rfl | omega)) (by rfl) (by rfl) rfl (ltN hN rfl) (Opd.tmp 97 (.ptr 1003 3 [3]))))
                        (OpJs.cons (OpJ.guarded (by rfl) (OpJ.move (ltN hN rfl) (Opd.tmp 7 (.d (.int .i64 s10.1)))))
                        (OpJs.cons (OpJ.guarded (by rfl) (OpJ.indexD (el := (.int .i64 x204)) Try.underlying22 tyS3 (idx_some hx204).1 (get_map (eI .i64) (idx_some hx204).2) (ltN hN rfl) (Opd.tmp 98 (.d (.list 1 (a1.fOut.map (eI .i64))))) (Opd.tmp 99 (.d (.int .i64 s10.1)))))
                        (OpJs.cons (OpJ.guarded (by rfl) (OpJ.loadD tyS3 (by rfl) (by rfl) (ltN hN rfl) (Opd.tmp 100 (.dptr (.int .i64 x204)))))
                        (OpJs.cons (OpJ.guarded (by rfl) (OpJ.neqI (ltN hN rfl) (Opd.tmp 96 (.d (.int .i64 x203))) (Opd.tmp 101 (.d (.int .i64 x204)))))
                        (OpJs.cons (OpJ.pickF (ltN hN rfl) (Opd.tmp 91 (.d (.bool false))) (Opd.tmp 102 (.d (.bool (x203 != x204)))))
                        (OpJs.cons (OpJ.assign (ltN hN rfl) (Opd.tmp 103 (.d (.bool (x203 != x204)))))
                        (OpJs.nil)))))))))))))))))))))))))) (by kernel_rfl) (by rfl) (by rfl) ?_
                      exact hjj196 _ h _ _ (Mat.trans (Mat.pat [] [(3, (.ptr 1003 0 [])), (4, (.ptr 1004 0 [])), (6, (.ptr 1006 0 [])), (43, (.d (.int .i64 (a1.fIn.length : Int)))), (44, (.d (.int .i64 s10.1))), (79, (.d (.bool (x203 != x204))))] [(1003, some (.box 30 (.d (e_api_Series a1)))), (1004, some (.box 30 (.st [(.d (.int .i64 (0 : Int))), (.d (.int .i64 (0 : Int))), .nils, .nils]))), (1006, some (.box 30 (.st [(.d (.int .i64 r9.fPort)), (.d (.int .i64 r9.fSeconds)), (.sref 100200 1 0 s10.2.2.length), (.sref 100201 1 0 s10.2.1.length)]))), (100200, some (.row 3 1 (s10.2.2.map (eI .i64)))), (100201, some (.row 3 1 (s10.2.1.map (eI .i64))))] hB (by rfl) (by rfl) (by rfl)) (Mat.pat [] ((fun m195 : Bool => ([(3, (.ptr 1003 0 [])), (4, (.ptr 1004 0 [])), (6, (.ptr 1006 0 [])), (43, (.d (.int .i64 (a1.fIn.length : Int)))), (44, (.d (.int .i64 s10.1))), (79, (.d (.bool m195)))] : EL)) (x203 != x204)) ((fun m195 : Bool => ([(1003, some (.box 30 (.d (e_api_Series a1)))), (1004, some (.box 30 (.st [(.d (.int .i64 (0 : Int))), (.d (.int .i64 (0 : Int))), .nils, .nils]))), (1006, some (.box 30 (.st [(.d (.int .i64 r9.fPort)), (.d (.int .i64 r9.fSeconds)), (.sref 100200 1 0 s10.2.2.length), (.sref 100201 1 0 s10.2.1.length)]))), (100200, some (.row 3 1 (s10.2.2.map (eI .i64)))), (100201, some (.row 3 1 (s10.2.1.map (eI .i64))))] : OL)) (x203 != x204)) hB (by rfl) (by rfl) (by rfl)))
          · replace h := ite_f hg141 h
            refine AWp.exit ?_
            refine seqQ_e ?_
            obtain rfl := Option.some.inj h
            exact ⟨(fun hc => by cases hc), rfl, (Mat.pat [] ((fun p140 : (List Int) × (List Int) => ([(4, (.ptr 1004 0 [])), (6, (.ptr 1006 0 []))] : EL)) (s10.2.1, s10.2.2)) ((fun p140 : (List Int) × (List Int) => ([(1004, some (.box 30 (.st [(.d (.int .i64 (0 : Int))), (.d (.int .i64 (0 : Int))), .nils, .nils]))), (1006, some (.box 30 (.st [(.d (.int .i64 r9.fPort)), (.d (.int .i64 r9.fSeconds)), (.sref 100200 1 0 p140.2.length), (.sref 100201 1 0 p140.1.length)]))), (100200, some (.row 3 1 (p140.2.map (eI .i64)))), (100201, some (.row 3 1 (p140.1.map (eI .i64))))] : OL)) (s10.2.1, s10.2.2)) hB (by rfl) (by rfl) (by rfl))⟩
        · rcases x205 with _ | p140
          · obtain ⟨rfl, hmat⟩ := hR
            refine blkQ_r ?_
            refine seqQ_r ?_
            obtain rfl := Option.some.inj h
            exact ⟨.inl rfl, _, _, (Mat.trans hmat (Mat.trans (Mat.coeP (Ts := []) (Bs := [(1004, some (.box 30 (.d (.st [(.int .i64 (0 : Int)), (.int .i64 (0 : Int)), (.list 1 (([] : List Int).map (eI .i64))), (.list 1 (([] : List Int).map (eI .i64)))]))))]) TwT.nil (TwB.cons (x := (.st [(.d (.int .i64 (0 : Int))), (.d (.int .i64 (0 : Int))), .nils, .nils])) (by rfl) (Tw.leaf ⟨_, (Co.st (CoL.cons (Co.d _) (CoL.cons (Co.d _) (CoL.cons (Co.nils 1) (CoL.cons (Co.nils 1) CoL.nil))))), rfl⟩) TwB.nil)) (Mat.pat [] [(4, (.ptr 1004 0 [])), (5, (.d (.int .i64 (8 : Int))))] [(1004, some (.box 30 (.d (.st [(.int .i64 (0 : Int)), (.int .i64 (0 : Int)), (.list 1 (([] : List Int).map (eI .i64))), (.list 1 (([] : List Int).map (eI .i64)))]))))] hB (by rfl) (by rfl) (by rfl)))), [(.d (.st [(.int .i64 (0 : Int)), (.int .i64 (0 : Int)), (.list 1 (([] : List Int).map (eI .i64))), (.list 1 (([] : List Int).map (eI .i64)))])), (.d (.int .i64 (8 : Int)))], (Res.cell (c := (.d (.st [(.int .i64 (0 : Int)), (.int .i64 (0 : Int)), (.list 1 (([] : List Int).map (eI .i64))), (.list 1 (([] : List Int).map (eI .i64)))]))) (by rfl) (by rfl) tyS30 (by rfl) (by rfl) (by rfl) (Res.tmp (by rfl) (by rfl) Res.nil)), rfl, by rfl, by rfl, by rfl⟩
          · obtain ⟨rfl, hmat⟩ := hR
            refine blkQ_hit ?_
            refine seqQ_n ?_
            refine AWp.ghost hmat ?_
            refine AWp.seq ?_
            refine AWp.region (OpJs.cons (OpJ.loadB (bt := 30) (c := (.st [(.d (.int .i64 r9.fPort)), (.d (.int .i64 r9.fSeconds)), (.sref 100200 1 0 p140.2.length), (.sref 100201 1 0 p140.1.length)])) (v := (.st [(.d (.int .i64 r9.fPort)), (.d (.int .i64 r9.fSeconds)), (.sref 100200 1 0 p140.2.length), (.sref 100201 1 0 p140.1.length)])) tyS30 (At.here _) (by rfl) (by rfl) rfl (ltN hN rfl) (Opd.tmp 6 (.ptr 1006 0 [])))
              (OpJs.cons (OpJ.storeB (bt := 30) (c := (.st [(.d (.int .i64 (0 : Int))), (.d (.int .i64 (0 : Int))), .nils, .nils])) (v := (.st [(.d (.int .i64 r9.fPort)), (.d (.int .i64 r9.fSeconds)), (.sref 100200 1 0 p140.2.length), (.sref 100201 1 0 p140.1.length)])) (c' := (.st [(.d (.int .i64 r9.fPort)), (.d (.int .i64 r9.fSeconds)), (.sref 100200 1 0 p140.2.length), (.sref 100201 1 0 p140.1.length)])) tyS30 (SetAt.here _ _) (by rfl) (by rfl) (by simp) rfl (Opd.tmp 4 (.ptr 1004 0 [])) (Opd.tmp 106 (.st [(.d (.int .i64 r9.fPort)), (.d (.int .i64 r9.fSeconds)), (.sref 100200 1 0 p140.2.length), (.sref 100201 1 0 p140.1.length)])))
              (OpJs.cons (OpJ.assign (ltN hN rfl) (Opd.int .i64 (0)))
              (OpJs.nil)))) (by rfl) (by rfl) ?_
            refine seqQ_n ?_
            refine AWp.ghost (Mat.pat [] [(4, (.ptr 1004 0 [])), (5, (.d (.int .i64 (0 : Int))))] [(1004, some (.box 30 (.st [(.d (.int .i64 r9.fPort)), (.d (.int .i64 r9.fSeconds)), (.sref 100200 1 0 p140.2.length), (.sref 100201 1 0 p140.1.length)]))), (100200, some (.row 3 1 (p140.2.map (eI .i64)))), (100201, some (.row 3 1 (p140.1.map (eI .i64))))] hB (by rfl) (by rfl) (by rfl)) ?_
            refine AWp.ret ?_
            obtain rfl := Option.some.inj h
            exact ⟨.inl rfl, _, _, (Mat.trans (Mat.freezeP (n := 100200) (e := 3) (sz := 1) (es := p140.2.map (eI .i64)) (Ts := []) (Bs := [(1004, some (.box 30 (.st [(.d (.int .i64 r9.fPort)), (.d (.int .i64 r9.fSeconds)), (.d (.list 1 (p140.2.map (eI .i64)))), (.sref 100201 1 0 p140.1.length)])))]) (by rfl) TwT.nil (TwB.cons (x := (.st [(.d (.int .i64 r9.fPort)), (.d (.int .i64 r9.fSeconds)), (.sref 100200 1 0 p140.2.length), (.sref 100201 1 0 p140.1.length)])) (by rfl) (Tw.st (TwL.cons (Tw.same _) (TwL.cons (Tw.same _) (TwL.cons (FrzL.all (by first | rfl | (simp; done) | (simp; omega))) (TwL.cons (Tw.same _) TwL.nil))))) TwB.nil)) (Mat.trans (Mat.freezeP (n := 100201) (e := 3) (sz := 1) (es := p140.1.map (eI .i64)) (Ts := []) (Bs := [(1004, some (.box 30 (.st [(.d (.int .i64 r9.fPort)), (.d (.int .i64 r9.fSeconds)), (.d (.list 1 (p140.2.map (eI .i64)))), (.d (.list 1 (p140.1.map (eI .i64))))])))]) (by rfl) TwT.nil (TwB.cons (x := (.st [(.d (.int .i64 r9.fPort)), (.d (.int .i64 r9.fSeconds)), (.d (.list 1 (p140.2.map (eI .i64)))), (.sref 100201 1 0 p140.1.length)])) (by rfl) (Tw.st (TwL.cons (Tw.same _) (TwL.cons (Tw.same _) (TwL.cons (Tw.same _) (TwL.cons (FrzL.all (by first | rfl | (simp; done) | (simp; omega))) TwL.nil))))) TwB.nil)) (Mat.trans (Mat.coeP (Ts := []) (Bs := [(1004, some (.box 30 (.d (.st [(.int .i64 r9.fPort), (.int .i64 r9.fSeconds), (.list 1 (p140.2.map (eI .i64))), (.list 1 (p140.1.map (eI .i64)))]))))]) TwT.nil (TwB.cons (x := (.st [(.d (.int .i64 r9.fPort)), (.d (.int .i64 r9.fSeconds)), (.d (.list 1 (p140.2.map (eI .i64)))), (.d (.list 1 (p140.1.map (eI .i64))))])) (by rfl) (Tw.leaf ⟨_, (Co.st (CoL.cons (Co.d _) (CoL.cons (Co.d _) (CoL.cons (Co.d _) (CoL.cons (Co.d _) CoL.nil))))), rfl⟩) TwB.nil)) (Mat.pat [] [(4, (.ptr 1004 0 [])), (5, (.d (.int .i64 (0 : Int))))] [(1004, some (.box 30 (.d (.st [(.int .i64 r9.fPort), (.int .i64 r9.fSeconds), (.list 1 (p140.2.map (eI .i64))), (.list 1 (p140.1.map (eI .i64)))]))))] hB (by rfl) (by rfl) (by rfl))))), [(.d (.st [(.int .i64 r9.fPort), (.int .i64 r9.fSeconds), (.list 1 (p140.2.map (eI .i64))), (.list 1 (p140.1.map (eI .i64)))])), (.d (.int .i64 (0 : Int)))], (Res.cell (c := (.d (.st [(.int .i64 r9.fPort), (.int .i64 r9.fSeconds), (.list 1 (p140.2.map (eI .i64))), (.list 1 (p140.1.map (eI .i64)))]))) (by rfl) (by rfl) tyS30 (by rfl) (by rfl) (by rfl) (Res.tmp (by rfl) (by rfl) Res.nil)), rfl, by rfl, by rfl, by rfl⟩
  · obtain ⟨r207, hr207, h⟩ := bindS h
    rcases Bool.eq_false_or_eq_true (!r207) with hg208 | hg208
    · replace h := ite_t hg208 h
      refine AWp.region (OpJs.cons (OpJ.loadB (bt := 30) (c := (.d (e_api_Series a0))) (v := (.d (e_api_Series a0))) tyS30 (At.here _) (by rfl) (by rfl) rfl (ltN hN rfl) (Opd.tmp 2 (.ptr 1002 0 [])))
        (OpJs.cons (OpJ.callFn hB fnOk16 (percentile_Valid_ac a0 r207 hr207) [] (by kernel_rfl) (ltN hN rfl) (by kernel_rfl) (OpdL.cons (Opd.tmp 8 (.d (e_api_Series a0))) OpdL.nil))
        (OpJs.cons (OpJ.not (ltN hN rfl) (Opd.tmp 9 (.d (.bool r207))))
        (OpJs.cons (OpJ.val (v' := .d (.bool true)) (by rw [hg208]) (OpJ.move (ltN hN rfl) (Opd.tmp 10 (.d (.bool (!r207))))))
        (OpJs.cons (OpJ.skipU (ltN hN rfl) (by rfl))
        (OpJs.cons (OpJ.skipU (ltN hN rfl) (by rfl))
        (OpJs.cons (OpJ.skipU (ltN hN rfl) (by rfl))
        (OpJs.cons (OpJ.pickT (ltN hN rfl) (Opd.tmp 11 (.d (.bool true))) (Opd.bool true))
        (OpJs.nil))))))))) (by rfl) (by rfl) ?_
      exact hjj6 _ h _ _ (Mat.trans (Mat.pat [] [(2, (.ptr 1002 0 [])), (3, (.ptr 1003 0 [])), (4, (.ptr 1004 0 [])), (15, (.d (.bool true)))] [(1002, some (.box 30 (.d (e_api_Series a0)))), (1003, some (.box 30 (.d (e_api_Series a1)))), (1004, some (.box 30 (.st [(.d (.int .i64 (0 : Int))), (.d (.int .i64 (0 : Int))), .nils, .nils])))] hB (by rfl) (by rfl) (by rfl)) (Mat.pat [] ((fun m5 : Bool => ([(2, (.ptr 1002 0 [])), (3, (.ptr 1003 0 [])), (4, (.ptr 1004 0 [])), (15, (.d (.bool m5)))] : EL)) true) ((fun m5 : Bool => ([(1002, some (.box 30 (.d (e_api_Series a0)))), (1003, some (.box 30 (.d (e_api_Series a1)))), (1004, some (.box 30 (.st [(.d (.int .i64 (0 : Int))), (.d (.int .i64 (0 : Int))), .nils, .nils])))] : OL)) true) hB (by rfl) (by rfl) (by rfl)))
    · replace h := ite_f hg208 h
      obtain ⟨r209, hr209, h⟩ := bindS h
      refine AWp.region (OpJs.cons (OpJ.loadB (bt := 30) (c := (.d (e_api_Series a0))) (v := (.d (e_api_Series a0))) tyS30 (At.here _) (by rfl) (by rfl) rfl (ltN hN rfl) (Opd.tmp 2 (.ptr 1002 0 [])))
        (OpJs.cons (OpJ.callFn hB fnOk16 (percentile_Valid_ac a0 r207 hr207) [] (by kernel_rfl) (ltN hN rfl) (by kernel_rfl) (OpdL.cons (Opd.tmp 8 (.d (e_api_Series a0))) OpdL.nil))
        (OpJs.cons (OpJ.not (ltN hN rfl) (Opd.tmp 9 (.d (.bool r207))))
        (OpJs.cons (OpJ.val (v' := .d (.bool false)) (by rw [hg208]) (OpJ.move (ltN hN rfl) (Opd.tmp 10 (.d (.bool (!r207))))))
        (OpJs.cons (OpJ.guarded (by rfl) (OpJ.loadB (bt := 30) (c := (.d (e_api_Series a1))) (v := (.d (e_api_Series a1))) tyS30 (At.here _) (by rfl) (by rfl) rfl (ltN hN rfl) (Opd.tmp 3 (.ptr 1003 0 []))))
        (OpJs.cons (OpJ.guarded (by rfl) (OpJ.callFn hB fnOk16 (percentile_Valid_ac a1 r209 hr209) [] (by kernel_rfl) (ltN hN rfl) (by kernel_rfl) (OpdL.cons (Opd.tmp 12 (.d (e_api_Series a1))) OpdL.nil)))
        (OpJs.cons (OpJ.guarded (by rfl) (OpJ.not (ltN hN rfl) (Opd.tmp 13 (.d (.bool r209)))))
        (OpJs.cons (OpJ.pickF (ltN hN rfl) (Opd.tmp 11 (.d (.bool false))) (Opd.tmp 14 (.d (.bool (!r209)))))
        (OpJs.nil))))))))) (by rfl) (by rfl) ?_
      exact hjj6 _ h _ _ (Mat.trans (Mat.pat [] [(2, (.ptr 1002 0 [])), (3, (.ptr 1003 0 [])), (4, (.ptr 1004 0 [])), (15, (.d (.bool (!r209))))] [(1002, some (.box 30 (.d (e_api_Series a0)))), (1003, some (.box 30 (.d (e_api_Series a1)))), (1004, some (.box 30 (.st [(.d (.int .i64 (0 : Int))), (.d (.int .i64 (0 : Int))), .nils, .nils])))] hB (by rfl) (by rfl) (by rfl)) (Mat.pat [] ((fun m5 : Bool => ([(2, (.ptr 1002 0 [])), (3, (.ptr 1003 0 [])), (4, (.ptr 1004 0 [])), (15, (.d (.bool m5)))] : EL)) (!r209)) ((fun m5 : Bool => ([(1002, some (.box 30 (.d (e_api_Series a0)))), (1003, some (.box 30 (.d (e_api_Series a1)))), (1004, some (.box 30 (.st [(.d (.int .i64 (0 : Int))), (.d (.int .i64 (0 : Int))), .nils, .nils])))] : OL)) (!r209)) hB (by rfl) (by rfl) (by rfl)))

noncomputable def slices_Equal_L0 (a0 : (List Int)) (a1 : (List Int)) (s2 : Int) : Option (((Unit) ⊕ (Unit)) ⊕ (Int)) :=
  (if (decide (s2 < (a0.length : Int))) = true then
  (idx a0 s2).bind fun x14 =>
  (idx a1 s2).bind fun x15 =>
  (if (x14 != x15) = true then
  some (.inl (.inl ()))
  else
  some (.inr (w64 (s2 + (1 : Int)))))
  else
  some (.inl (.inr ())))
noncomputable def slices_Equal (a0 : (List Int)) (a1 : (List Int)) : Option (Bool) :=
  (if ((a0.length : Int) != (a1.length : Int)) = true then
  some false
  else
  (loop (slices_Equal_L0 a0 a1) (0 : Int)).bind fun x17 => match x17 with
  | (.inl _) =>
    some false
  | (.inr _) =>
    some true)
set_option maxHeartbeats 4000000 in
set_option maxRecDepth 100000 in
theorem slices_Equal_ac (a0 : (List Int)) (a1 : (List Int)) (r : Bool) (h : slices_Equal a0 a1 = some r) : AC Try.prog 34 [(.d (.list 1 (a0.map (eI .i64)))), (.d (.list 1 (a1.map (eI .i64))))] [] (.d (.bool r)) [] := by
  refine AC.of_code2 Try.func34 rfl rfl (Nat.le_of_ble_eq_true (by rfl)) fun B hB hN => ?_
  delta slices_Equal at h
  refine AWp.seq ?_
  refine AWp.region (OpJs.cons (OpJ.assign (ltN hN rfl) (Opd.bool false))
  (OpJs.nil)) (by rfl) (by rfl) ?_
  refine seqQ_n ?_
  refine AWp.ghost (Mat.pat [] [(0, (.d (.list 1 (a0.map (eI .i64))))), (1, (.d (.list 1 (a1.map (eI .i64)))))] [] hB (by rfl) (by rfl) (by rfl)) ?_
  refine AWp.seq ?_
  refine AWp.seq ?_
  refine AWp.region (OpJs.cons (OpJ.move (ltN hN rfl) (Opd.tmp 0 (.d (.list 1 (a0.map (eI .i64))))))
  (OpJs.cons (OpJ.val (v' := (.d (.int .i64 (a0.length : Int)))) (by simp) (OpJ.lenD Try.underlying22 (ltN hN rfl) (Opd.tmp 6 (.d (.list 1 (a0.map (eI .i64)))))))
  (OpJs.cons (OpJ.move (ltN hN rfl) (Opd.tmp 1 (.d (.list 1 (a1.map (eI .i64))))))
  (OpJs.cons (OpJ.val (v' := (.d (.int .i64 (a1.length : Int)))) (by simp) (OpJ.lenD Try.underlying22 (ltN hN rfl) (Opd.tmp 8 (.d (.list 1 (a1.map (eI .i64)))))))
  (OpJs.cons (OpJ.neqI (ltN hN rfl) (Opd.tmp 7 (.d (.int .i64 (a0.length : Int)))) (Opd.tmp 9 (.d (.int .i64 (a1.length : Int)))))
  (OpJs.nil)))))) (by rfl) (by rfl) ?_
  refine seqQ_n ?_
  refine AWp.ghost (Mat.pat [] [(0, (.d (.list 1 (a0.map (eI .i64))))), (1, (.d (.list 1 (a1.map (eI .i64))))), (10, (.d (.bool ((a0.length : Int) != (a1.length : Int)))))] [] hB (by rfl) (by rfl) (by rfl)) ?_
  refine AWp.cond (b := ((a0.length : Int) != (a1.length : Int))) (by rfl) (fun hg1 => ?_) (fun hg1 => ?_)
  · replace h := ite_t hg1 h
    refine AWp.seq ?_
    refine AWp.region (OpJs.cons (OpJ.assign (ltN hN rfl) (Opd.bool false))
      (OpJs.nil)) (by rfl) (by rfl) ?_
    refine seqQ_n ?_
    refine AWp.ghost (Mat.pat [] [(4, (.d (.bool false)))] [] hB (by rfl) (by rfl) (by rfl)) ?_
    refine AWp.ret ?_
    refine seqQ_r ?_
    obtain rfl := Option.some.inj h
    exact ⟨.inl rfl, _, _, (Mat.pat [] [(4, (.d (.bool false)))] [] hB (by rfl) (by rfl) (by rfl)), [(.d (.bool false))], (Res.tmp (by rfl) (by rfl) Res.nil), rfl, by rfl, by rfl, by rfl⟩
  · replace h := ite_f hg1 h
    refine AWp.skip ?_
    refine seqQ_n ?_
    refine AWp.seq ?_
    refine AWp.seq ?_
    refine AWp.region (OpJs.cons (OpJ.move (ltN hN rfl) (Opd.tmp 0 (.d (.list 1 (a0.map (eI .i64))))))
      (OpJs.cons (OpJ.val (v' := (.d (.int .i64 (a0.length : Int)))) (by simp) (OpJ.lenD Try.underlying22 (ltN hN rfl) (Opd.tmp 11 (.d (.list 1 (a0.map (eI .i64)))))))
      (OpJs.cons (OpJ.move (ltN hN rfl) (Opd.int .i64 (0)))
      (OpJs.nil)))) (by rfl) (by rfl) ?_
    refine seqQ_n ?_
    refine AWp.ghost (Mat.pat [] [(0, (.d (.list 1 (a0.map (eI .i64))))), (1, (.d (.list 1 (a1.map (eI .i64))))), (12, (.d (.int .i64 (a0.length : Int)))), (13, (.d (.int .i64 (0 : Int))))] [] hB (by rfl) (by rfl) (by rfl)) ?_
    refine AWp.block ?_
    obtain ⟨x17, hx18, h⟩ := bindS h
    refine AWp.ghost (Mat.pat [] ((fun s2 : Int => ([(0, (.d (.list 1 (a0.map (eI .i64))))), (1, (.d (.list 1 (a1.map (eI .i64))))), (12, (.d (.int .i64 (a0.length : Int)))), (13, (.d (.int .i64 s2)))] : EL)) (0 : Int)) ((fun s2 : Int => ([] : OL)) (0 : Int)) hB (by rfl) (by rfl) (by rfl)) ?_
    refine AWp.loopS (slices_Equal_L0 a0 a1) (fun s2 : Int => ([(0, (.d (.list 1 (a0.map (eI .i64))))), (1, (.d (.list 1 (a1.map (eI .i64))))), (12, (.d (.int .i64 (a0.length : Int)))), (13, (.d (.int .i64 s2)))] : EL)) (fun s2 : Int => ([] : OL)) (fun (x : (Unit) ⊕ (Unit)) e E' O' => match x with | (.inl _p) => e = .ret ∧ Mat B E' O' ([(4, (.d (.bool false)))] : EL) ([] : OL) | (.inr _p) => e = .exit 0 ∧ Mat B E' O' ([] : EL) ([] : OL)) hx18 (fun s2 y h => ?_) (fun e E' O' hR => ?_)
    · unfold slices_Equal_L0 at h
      show AWp _ _ _ _ ([(0, (.d (.list 1 (a0.map (eI .i64))))), (1, (.d (.list 1 (a1.map (eI .i64))))), (12, (.d (.int .i64 (a0.length : Int)))), (13, (.d (.int .i64 s2)))] : EL) ([] : OL)
      refine AWp.seq ?_
      refine AWp.region (OpJs.cons (OpJ.lss (ltN hN rfl) (Opd.tmp 13 (.d (.int .i64 s2))) (Opd.tmp 12 (.d (.int .i64 (a0.length : Int)))))
        (OpJs.nil)) (by rfl) (by rfl) ?_
      refine seqQ_n ?_
      refine AWp.ghost (Mat.pat [] [(0, (.d (.list 1 (a0.map (eI .i64))))), (1, (.d (.list 1 (a1.map (eI .i64))))), (12, (.d (.int .i64 (a0.length : Int)))), (13, (.d (.int .i64 s2))), (14, (.d (.bool (decide (s2 < (a0.length : Int))))))] [] hB (by rfl) (by rfl) (by rfl)) ?_
      refine AWp.seq ?_
      refine AWp.cond (b := (decide (s2 < (a0.length : Int)))) (by rfl) (fun hg13 => ?_) (fun hg13 => ?_)
      · replace h := ite_t hg13 h
        refine AWp.skip ?_
        refine seqQ_n ?_
        refine AWp.seq ?_
        refine AWp.block ?_
        refine AWp.seq ?_
        refine AWp.region (OpJs.cons (OpJ.move (ltN hN rfl) (Opd.tmp 13 (.d (.int .i64 s2))))
          (OpJs.cons (OpJ.assign (ltN hN rfl) (Opd.tmp 15 (.d (.int .i64 s2))))
          (OpJs.nil))) (by rfl) (by rfl) ?_
        refine seqQ_n ?_
        refine AWp.ghost (Mat.pat [] [(0, (.d (.list 1 (a0.map (eI .i64))))), (1, (.d (.list 1 (a1.map (eI .i64))))), (5, (.d (.int .i64 s2))), (12, (.d (.int .i64 (a0.length : Int)))), (13, (.d (.int .i64 s2)))] [] hB (by rfl) (by rfl) (by rfl)) ?_
        refine AWp.seq ?_
        obtain ⟨x14, hx14, h⟩ := bindS h
        obtain ⟨x15, hx15, h⟩ := bindS h
        refine AWp.draws (by kernel_rfl) (OpJs.cons (OpJ.move (ltN hN rfl) (Opd.tmp 0 (.d (.list 1 (a0.map (eI .i64))))))
          (OpJs.cons (OpJ.move (ltN hN rfl) (Opd.tmp 5 (.d (.int .i64 s2))))
          (OpJs.cons (OpJ.indexD (el := (.int .i64 x14)) Try.underlying22 tyS3 (idx_some hx14).1 (get_map (eI .i64) (idx_some hx14).2) (ltN hN rfl) (Opd.tmp 16 (.d (.list 1 (a0.map (eI .i64))))) (Opd.tmp 17 (.d (.int .i64 s2))))
          (OpJs.cons (OpJ.loadD tyS3 (by rfl) (by rfl) (ltN hN rfl) (Opd.tmp 18 (.dptr (.int .i64 x14))))
          (OpJs.cons (OpJ.move (ltN hN rfl) (Opd.tmp 1 (.d (.list 1 (a1.map (eI .i64))))))
          (OpJs.cons (OpJ.move (ltN hN rfl) (Opd.tmp 5 (.d (.int .i64 s2))))
          (OpJs.cons (OpJ.indexD (el := (.int .i64 x15)) Try.underlying22 tyS3 (idx_some hx15).1 (get_map (eI .i64) (idx_some hx15).2) (ltN hN rfl) (Opd.tmp 20 (.d (.list 1 (a1.map (eI .i64))))) (Opd.tmp 21 (.d (.int .i64 s2))))
          (OpJs.cons (OpJ.loadD tyS3 (by rfl) (by rfl) (ltN hN rfl) (Opd.tmp 22 (.dptr (.int .i64 x15))))
          (OpJs.cons (OpJ.neqI (ltN hN rfl) (Opd.tmp 19 (.d (.int .i64 x14))) (Opd.tmp 23 (.d (.int .i64 x15))))
          (OpJs.nil)))))))))) (by kernel_rfl) (by rfl) (by rfl) ?_
        refine seqQ_n ?_
        refine AWp.ghost (Mat.pat [] [(0, (.d (.list 1 (a0.map (eI .i64))))), (1, (.d (.list 1 (a1.map (eI .i64))))), (12, (.d (.int .i64 (a0.length : Int)))), (13, (.d (.int .i64 s2))), (24, (.d (.bool (x14 != x15))))] [] hB (by rfl) (by rfl) (by rfl)) ?_
        refine AWp.cond (b := (x14 != x15)) (by rfl) (fun hg16 => ?_) (fun hg16 => ?_)
        · replace h := ite_t hg16 h
          refine AWp.seq ?_
          refine AWp.region (OpJs.cons (OpJ.assign (ltN hN rfl) (Opd.bool false))
            (OpJs.nil)) (by rfl) (by rfl) ?_
          refine seqQ_n ?_
          refine AWp.ghost (Mat.pat [] [(4, (.d (.bool false)))] [] hB (by rfl) (by rfl) (by rfl)) ?_
          refine AWp.ret ?_
          refine blkQ_r ?_
          refine seqQ_r ?_
          obtain rfl := Option.some.inj h
          exact ⟨(fun hc => by cases hc), rfl, (Mat.pat [] ((fun _ : Unit => ([(4, (.d (.bool false)))] : EL)) ()) ((fun _ : Unit => ([] : OL)) ()) hB (by rfl) (by rfl) (by rfl))⟩
        · replace h := ite_f hg16 h
          refine AWp.skip ?_
          refine blkQ_n ?_
          refine seqQ_n ?_
          refine AWp.region (OpJs.cons (OpJ.add (ltN hN rfl) (Opd.tmp 13 (.d (.int .i64 s2))) (Opd.int .i64 (1)))
            (OpJs.cons (OpJ.move (ltN hN rfl) (Opd.tmp 25 (.d (.int .i64 (w64 (s2 + (1 : Int)))))))
            (OpJs.nil))) (by rfl) (by rfl) ?_
          obtain rfl := Option.some.inj h
          exact ⟨rfl, (Mat.trans (Mat.pat [] [(0, (.d (.list 1 (a0.map (eI .i64))))), (1, (.d (.list 1 (a1.map (eI .i64))))), (12, (.d (.int .i64 (a0.length : Int)))), (13, (.d (.int .i64 (w64 (s2 + (1 : Int))))))] [] hB (by rfl) (by rfl) (by rfl)) (Mat.pat [] ((fun s2 : Int => ([(0, (.d (.list 1 (a0.map (eI .i64))))), (1, (.d (.list 1 (a1.map (eI .i64))))), (12, (.d (.int .i64 (a0.length : Int)))), (13, (.d (.int .i64 s2)))] : EL)) (w64 (s2 + (1 : Int)))) ((fun s2 : Int => ([] : OL)) (w64 (s2 + (1 : Int)))) hB (by rfl) (by rfl) (by rfl)))⟩
      · replace h := ite_f hg13 h
        refine AWp.exit ?_
        refine seqQ_e ?_
        obtain rfl := Option.some.inj h
        exact ⟨(fun hc => by cases hc), rfl, (Mat.pat [] ((fun _ : Unit => ([] : EL)) ()) ((fun _ : Unit => ([] : OL)) ()) hB (by rfl) (by rfl) (by rfl))⟩
    · rcases x17 with _ | _
      · obtain ⟨rfl, hmat⟩ := hR
        refine blkQ_r ?_
        refine seqQ_r ?_
        obtain rfl := Option.some.inj h
        exact ⟨.inl rfl, _, _, (Mat.trans hmat (Mat.pat [] [(4, (.d (.bool false)))] [] hB (by rfl) (by rfl) (by rfl))), [(.d (.bool false))], (Res.tmp (by rfl) (by rfl) Res.nil), rfl, by rfl, by rfl, by rfl⟩
      · obtain ⟨rfl, hmat⟩ := hR
        refine blkQ_hit ?_
        refine seqQ_n ?_
        refine AWp.ghost hmat ?_
        refine AWp.seq ?_
        refine AWp.region (OpJs.cons (OpJ.assign (ltN hN rfl) (Opd.bool true))
          (OpJs.nil)) (by rfl) (by rfl) ?_
        refine seqQ_n ?_
        refine AWp.ghost (Mat.pat [] [(4, (.d (.bool true)))] [] hB (by rfl) (by rfl) (by rfl)) ?_
        refine AWp.ret ?_
        obtain rfl := Option.some.inj h
        exact ⟨.inl rfl, _, _, (Mat.pat [] [(4, (.d (.bool true)))] [] hB (by rfl) (by rfl) (by rfl)), [(.d (.bool true))], (Res.tmp (by rfl) (by rfl) Res.nil), rfl, by rfl, by rfl, by rfl⟩

noncomputable def exchangepointref40_Same (a0 : api_Series) (a1 : api_Series) : Option (Bool) :=
  jn (fun m5 : Bool =>
  some m5) (fun j6 =>
  (if ((a0.fPort == a1.fPort) && (a0.fSeconds == a1.fSeconds)) = true then
  (slices_Equal a0.fIn a1.fIn).bind fun r8 =>
  (if r8 = true then
  (slices_Equal a0.fOut a1.fOut).bind fun r10 =>
  j6 r10
  else
  j6 false)
  else
  j6 false))
set_option maxHeartbeats 4000000 in
set_option maxRecDepth 100000 in
theorem exchangepointref40_Same_ac (a0 : api_Series) (a1 : api_Series) (r : Bool) (h : exchangepointref40_Same a0 a1 = some r) : AC Try.prog 15 [(.d (e_api_Series a0)), (.d (e_api_Series a1))] [] (.d (.bool r)) [] := by
  refine AC.of_code2 Try.func15 rfl rfl (Nat.le_of_ble_eq_true (by rfl)) fun B hB hN => ?_
  delta exchangepointref40_Same at h
  refine AWp.seq ?_
  refine AWp.region (OpJs.cons (OpJ.box hB (nm := 1002) (by decide) (by simp) rfl (ltN hN rfl) (Opd.tmp 0 (.d (e_api_Series a0))))
  (OpJs.cons (OpJ.box hB (nm := 1003) (by decide) (by simp) rfl (ltN hN rfl) (Opd.tmp 1 (.d (e_api_Series a1))))
  (OpJs.cons (OpJ.assign (ltN hN rfl) (Opd.bool false))
  (OpJs.nil)))) (by rfl) (by rfl) ?_
  refine seqQ_n ?_
  refine AWp.ghost (Mat.pat [] [(2, (.ptr 1002 0 [])), (3, (.ptr 1003 0 []))] [(1002, some (.box 30 (.d (e_api_Series a0)))), (1003, some (.box 30 (.d (e_api_Series a1))))] hB (by rfl) (by rfl) (by rfl)) ?_
  refine AWp.seq ?_
  refine AWp.cut h (fun m5 : Bool => ([(4, (.d (.bool m5)))] : EL)) (fun m5 : Bool => ([] : OL)) (fun m5 h E' O' hmat => ?_) (fun j6 hjj6 h => ?_)
  · refine seqQ_n ?_
    refine AWp.ghost hmat ?_
    refine AWp.ret ?_
    obtain rfl := Option.some.inj h
    exact ⟨.inl rfl, _, _, (Mat.pat [] [(4, (.d (.bool m5)))] [] hB (by rfl) (by rfl) (by rfl)), [(.d (.bool m5))], (Res.tmp (by rfl) (by rfl) Res.nil), rfl, by rfl, by rfl, by rfl⟩
  · rcases Bool.eq_false_or_eq_true ((a0.fPort == a1.fPort) && (a0.fSeconds == a1.fSeconds)) with hg7 | hg7
    · replace h := ite_t hg7 h
      obtain ⟨r8, hr8, h⟩ := bindS h
      rcases Bool.eq_false_or_eq_true r8 with hg9 | hg9
      · replace h := ite_t hg9 h
        obtain ⟨r10, hr10, h⟩ := bindS h
        refine AWp.region (OpJs.cons (OpJ.val (v' := (.ptr 1002 0 [0])) (by rfl) (OpJ.fieldP Try.underlying30 (by rfl) (o := 0) (by rfl) tyS3 (by decide) (obj := (.box 30 (.d (e_api_Series a0)))) (ltN hN rfl) (Opd.tmp 2 (.ptr 1002 0 []))))
          (OpJs.cons (OpJ.loadB (bt := 30) (c := (.d (e_api_Series a0))) (v := (.d (.int .i64 a0.fPort))) tyS3 (At.dst1 (f := (.int .i64 a0.fPort)) (by rfl) (by rfl) (At.here _) (by first | rfl | omega)) (by rfl) (by rfl) rfl (ltN hN rfl) (Opd.tmp 5 (.ptr 1002 0 [0])))
          (OpJs.cons (OpJ.val (v' := (.ptr 1003 0 [0])) (by rfl) (OpJ.fieldP Try.underlying30 (by rfl) (o := 0) (by rfl) tyS3 (by decide) (obj := (.box 30 (.d (e_api_Series a1)))) (ltN hN rfl) (Opd.tmp 3 (.ptr 1003 0 []))))
          (OpJs.cons (OpJ.loadB (bt := 30) (c := (.d (e_api_Series a1))) (v := (.d (.int .i64 a1.fPort))) tyS3 (At.dst1 (f := (.int .i64 a1.fPort)) (by rfl) (by rfl) (At.here _) (by first | rfl | omega)) (by rfl) (by rfl) rfl (ltN hN rfl) (Opd.tmp 7 (.ptr 1003 0 [0])))
          (OpJs.cons (OpJ.eqlI (ltN hN rfl) (Opd.tmp 6 (.d (.int .i64 a0.fPort))) (Opd.tmp 8 (.d (.int .i64 a1.fPort))))
          (OpJs.cons (OpJ.move (ltN hN rfl) (Opd.tmp 9 (.d (.bool (a0.fPort == a1.fPort)))))
          (OpJs.cons (OpJ.opt' (v := (.ptr 1002 1 [1])) (OpJ.val (v' := (.ptr 1002 1 [1])) (by rfl) (OpJ.fieldP Try.underlying30 (by rfl) (o := 1) (by rfl) tyS3 (by decide) (obj := (.box 30 (.d (e_api_Series a0)))) (ltN hN rfl) (Opd.tmp 2 (.ptr 1002 0 [])))) (by rfl) (GuardV.plain _) (ltN hN rfl) (by rfl) (by rfl) (by rfl) (by rfl) (OptL.keep rfl OptL.nil))
          (OpJs.cons (OpJ.opt' (v := (.d (.int .i64 a0.fSeconds))) (OpJ.loadB (bt := 30) (c := (.d (e_api_Series a0))) (v := (.d (.int .i64 a0.fSeconds))) tyS3 (At.dst1 (f := (.int .i64 a0.fSeconds)) (by rfl) (by rfl) (At.here _) (by first | rfl | omega)) (by rfl) (by rfl) rfl (ltN hN rfl) (Opd.tmp 11 (.ptr 1002 1 [1]))) (by rfl) (GuardV.plain _) (ltN hN rfl) (by rfl) (by rfl) (by rfl) (by rfl) (OptL.opt OptL.nil))
          (OpJs.cons (OpJ.opt' (v := (.ptr 1003 1 [1])) (OpJ.val (v' := (.ptr 1003 1 [1])) (by rfl) (OpJ.fieldP Try.underlying30 (by rfl) (o := 1) (by rfl) tyS3 (by decide) (obj := (.box 30 (.d (e_api_Series a1)))) (ltN hN rfl) (Opd.tmp 3 (.ptr 1003 0 [])))) (by rfl) (GuardV.plain _) (ltN hN rfl) (by rfl) (by rfl) (by rfl) (by rfl) (OptL.keep rfl OptL.nil))
          (OpJs.cons (OpJ.opt' (v := (.d (.int .i64 a1.fSeconds))) (OpJ.loadB (bt := 30) (c := (.d (e_api_Series a1))) (v := (.d (.int .i64 a1.fSeconds))) tyS3 (At.dst1 (f := (.int .i64 a1.fSeconds)) (by rfl) (by rfl) (At.here _) (by first | rfl | omega)) (by rfl) (by rfl) rfl (ltN hN rfl) (Opd.tmp 13 (.ptr 1003 1 [1]))) (by rfl) (GuardV.plain _) (ltN hN rfl) (by rfl) (by rfl) (by rfl) (by rfl) (OptL.opt OptL.nil))
          (OpJs.cons (OpJ.opt' (v := (.d (.bool (a0.fSeconds == a1.fSeconds)))) (OpJ.eqlI (ltN hN rfl) (Opd.tmp 12 (.d (.int .i64 a0.fSeconds))) (Opd.tmp 14 (.d (.int .i64 a1.fSeconds)))) (by rfl) (GuardV.plain _) (ltN hN rfl) (by rfl) (by rfl) (by rfl) (by rfl) (OptL.opt (OptL.opt OptL.nil)))
          (OpJs.cons (OpJ.pickAnd rfl (ltN hN rfl) (Opd.tmp 10 (.d (.bool (a0.fPort == a1.fPort)))) (Opd.tmp 15 (.opt ((a0.fPort == a1.fPort) == true) (.d (.bool (a0.fSeconds == a1.fSeconds))))))
          (OpJs.cons (OpJ.val (v' := .d (.bool true)) (by rw [hg7]) (OpJ.move (ltN hN rfl) (Opd.tmp 16 (.d (.bool ((a0.fPort == a1.fPort) && (a0.fSeconds == a1.fSeconds)))))))
          (OpJs.cons (OpJ.guarded (by rfl) (OpJ.val (v' := (.ptr 1002 2 [2])) (by rfl) (OpJ.fieldP Try.underlying30 (by rfl) (o := 2) (by rfl) tyS22 (by decide) (obj := (.box 30 (.d (e_api_Series a0)))) (ltN hN rfl) (Opd.tmp 2 (.ptr 1002 0 [])))))
          (OpJs.cons (OpJ.guarded (by rfl) (OpJ.loadB (bt := 30) (c := (.d (e_api_Series a0))) (v := (.d (.list 1 (a0.fIn.map (eI .i64))))) tyS22 (At.dst1 (f := (.list 1 (a0.fIn.map (eI .i64)))) (by rfl) (by rfl) (At.here _) (by first | rfl | omega)) (by rfl) (by rfl) rfl (ltN hN rfl) (Opd.tmp 18 (.ptr 1002 2 [2]))))
          (OpJs.cons (OpJ.guarded (by rfl) (OpJ.val (v' := (.ptr 1003 2 [2])) (by rfl) (OpJ.fieldP Try.underlying30 (by rfl) (o := 2) (by rfl) tyS22 (by decide) (obj := (.box 30 (.d (e_api_Series a1)))) (ltN hN rfl) (Opd.tmp 3 (.ptr 1003 0 [])))))
          (OpJs.cons (OpJ.guarded (by rfl) (OpJ.loadB (bt := 30) (c := (.d (e_api_Series a1))) (v := (.d (.list 1 (a1.fIn.map (eI .i64))))) tyS22 (At.dst1 (f := (.list 1 (a1.fIn.map (eI .i64)))) (by rfl) (by rfl) (At.here _) (by first | rfl | omega)) (by rfl) (by rfl) rfl (ltN hN rfl) (Opd.tmp 20 (.ptr 1003 2 [2]))))
          (OpJs.cons (OpJ.guarded (by rfl) (OpJ.callFn hB fnOk34 (slices_Equal_ac a0.fIn a1.fIn r8 hr8) [] (by kernel_rfl) (ltN hN rfl) (by kernel_rfl) (OpdL.cons (Opd.tmp 19 (.d (.list 1 (a0.fIn.map (eI .i64))))) (OpdL.cons (Opd.tmp 21 (.d (.list 1 (a1.fIn.map (eI .i64))))) OpdL.nil))))
          (OpJs.cons (OpJ.pickT (ltN hN rfl) (Opd.tmp 17 (.d (.bool true))) (Opd.tmp 22 (.d (.bool r8))))
          (OpJs.cons (OpJ.val (v' := .d (.bool true)) (by rw [hg9]) (OpJ.move (ltN hN rfl) (Opd.tmp 23 (.d (.bool r8)))))
          (OpJs.cons (OpJ.guarded (by rfl) (OpJ.val (v' := (.ptr 1002 3 [3])) (by rfl) (OpJ.fieldP Try.underlying30 (by rfl) (o := 3) (by rfl) tyS22 (by decide) (obj := (.box 30 (.d (e_api_Series a0)))) (ltN hN rfl) (Opd.tmp 2 (.ptr 1002 0 [])))))
          (OpJs.cons (OpJ.guarded (by rfl) (OpJ.loadB (bt := 30) (c := (.d (e_api_Series a0))) (v := (.d (.list 1 (a0.fOut.map (eI .i64))))) tyS22 (At.dst1 (f := (.list 1 (a0.fOut.map (eI .i64)))) (by rfl) (by rfl) (At.here _) (by first | rfl | omega)) (by rfl) (by rfl) rfl (ltN hN rfl) (Opd.tmp 25 (.ptr 1002 3 [3]))))
          (OpJs.cons (OpJ.guarded (by rfl) (OpJ.val (v' := (.ptr 1003 3 [3])) (by rfl) (OpJ.fieldP Try.underlying30 (by rfl) (o := 3) (by rfl) tyS22 (by decide) (obj := (.box 30 (.d (e_api_Series a1)))) (ltN hN rfl) (Opd.tmp 3 (.ptr 1003 0 [])))))
          (OpJs.cons (OpJ.guarded (by rfl) (OpJ.loadB (bt := 30) (c := (.d (e_api_Series a1))) (v := (.d (.list 1 (a1.fOut.map (eI .i64))))) tyS22 (At.dst1 (f := (.list 1 (a1.fOut.map (eI .i64)))) (by rfl) (by rfl) (At.here _) (by first | rfl | omega)) (by rfl) (by rfl) rfl (ltN hN rfl) (Opd.tmp 27 (.ptr 1003 3 [3]))))
          (OpJs.cons (OpJ.guarded (by rfl) (OpJ.callFn hB fnOk34 (slices_Equal_ac a0.fOut a1.fOut r10 hr10) [] (by kernel_rfl) (ltN hN rfl) (by kernel_rfl) (OpdL.cons (Opd.tmp 26 (.d (.list 1 (a0.fOut.map (eI .i64))))) (OpdL.cons (Opd.tmp 28 (.d (.list 1 (a1.fOut.map (eI .i64))))) OpdL.nil))))
          (OpJs.cons (OpJ.pickT (ltN hN rfl) (Opd.tmp 24 (.d (.bool true))) (Opd.tmp 29 (.d (.bool r10))))
          (OpJs.cons (OpJ.assign (ltN hN rfl) (Opd.tmp 30 (.d (.bool r10))))
          (OpJs.nil)))))))))))))))))))))))))))) (by rfl) (by rfl) ?_
        exact hjj6 _ h _ _ (Mat.trans (Mat.pat [] [(4, (.d (.bool r10)))] [] hB (by rfl) (by rfl) (by rfl)) (Mat.pat [] ((fun m5 : Bool => ([(4, (.d (.bool m5)))] : EL)) r10) ((fun m5 : Bool => ([] : OL)) r10) hB (by rfl) (by rfl) (by rfl)))
      · replace h := ite_f hg9 h
        refine AWp.region (OpJs.cons (OpJ.val (v' := (.ptr 1002 0 [0])) (by rfl) (OpJ.fieldP Try.underlying30 (by rfl) (o := 0) (by rfl) tyS3 (by decide) (obj := (.box 30 (.d (e_api_Series a0)))) (ltN hN rfl) (Opd.tmp 2 (.ptr 1002 0 []))))
          (OpJs.cons (OpJ.loadB (bt := 30) (c := (.d (e_api_Series a0))) (v := (.d (.int .i64 a0.fPort))) tyS3 (At.dst1 (f := (.int .i64 a0.fPort)) (by rfl) (by rfl) (At.here _) (by first | rfl | omega)) (by rfl) (by rfl) rfl (ltN hN rfl) (Opd.tmp 5 (.ptr 1002 0 [0])))
          (OpJs.cons (OpJ.val (v' := (.ptr 1003 0 [0])) (by rfl) (OpJ.fieldP Try.underlying30 (by rfl) (o := 0) (by rfl) tyS3 (by decide) (obj := (.box 30 (.d (e_api_Series a1)))) (ltN hN rfl) (Opd.tmp 3 (.ptr 1003 0 []))))
          (OpJs.cons (OpJ.loadB (bt := 30) (c := (.d (e_api_Series a1))) (v := (.d (.int .i64 a1.fPort))) tyS3 (At.dst1 (f := (.int .i64 a1.fPort)) (by rfl) (by rfl) (At.here _) (by first | rfl | omega)) (by rfl) (by rfl) rfl (ltN hN rfl) (Opd.tmp 7 (.ptr 1003 0 [0])))
          (OpJs.cons (OpJ.eqlI (ltN hN rfl) (Opd.tmp 6 (.d (.int .i64 a0.fPort))) (Opd.tmp 8 (.d (.int .i64 a1.fPort))))
          (OpJs.cons (OpJ.move (ltN hN rfl) (Opd.tmp 9 (.d (.bool (a0.fPort == a1.fPort)))))
          (OpJs.cons (OpJ.opt' (v := (.ptr 1002 1 [1])) (OpJ.val (v' := (.ptr 1002 1 [1])) (by rfl) (OpJ.fieldP Try.underlying30 (by rfl) (o := 1) (by rfl) tyS3 (by decide) (obj := (.box 30 (.d (e_api_Series a0)))) (ltN hN rfl) (Opd.tmp 2 (.ptr 1002 0 [])))) (by rfl) (GuardV.plain _) (ltN hN rfl) (by rfl) (by rfl) (by rfl) (by rfl) (OptL.keep rfl OptL.nil))
          (OpJs.cons (OpJ.opt' (v := (.d (.int .i64 a0.fSeconds))) (OpJ.loadB (bt := 30) (c := (.d (e_api_Series a0))) (v := (.d (.int .i64 a0.fSeconds))) tyS3 (At.dst1 (f := (.int .i64 a0.fSeconds)) (by rfl) (by rfl) (At.here _) (by first | rfl | omega)) (by rfl) (by rfl) rfl (ltN hN rfl) (Opd.tmp 11 (.ptr 1002 1 [1]))) (by rfl) (GuardV.plain _) (ltN hN rfl) (by rfl) (by rfl) (by rfl) (by rfl) (OptL.opt OptL.nil))
          (OpJs.cons (OpJ.opt' (v := (.ptr 1003 1 [1])) (OpJ.val (v' := (.ptr 1003 1 [1])) (by rfl) (OpJ.fieldP Try.underlying30 (by rfl) (o := 1) (by rfl) tyS3 (by decide) (obj := (.box 30 (.d (e_api_Series a1)))) (ltN hN rfl) (Opd.tmp 3 (.ptr 1003 0 [])))) (by rfl) (GuardV.plain _) (ltN hN rfl) (by rfl) (by rfl) (by rfl) (by rfl) (OptL.keep rfl OptL.nil))
          (OpJs.cons (OpJ.opt' (v := (.d (.int .i64 a1.fSeconds))) (OpJ.loadB (bt := 30) (c := (.d (e_api_Series a1))) (v := (.d (.int .i64 a1.fSeconds))) tyS3 (At.dst1 (f := (.int .i64 a1.fSeconds)) (by rfl) (by rfl) (At.here _) (by first | rfl | omega)) (by rfl) (by rfl) rfl (ltN hN rfl) (Opd.tmp 13 (.ptr 1003 1 [1]))) (by rfl) (GuardV.plain _) (ltN hN rfl) (by rfl) (by rfl) (by rfl) (by rfl) (OptL.opt OptL.nil))
          (OpJs.cons (OpJ.opt' (v := (.d (.bool (a0.fSeconds == a1.fSeconds)))) (OpJ.eqlI (ltN hN rfl) (Opd.tmp 12 (.d (.int .i64 a0.fSeconds))) (Opd.tmp 14 (.d (.int .i64 a1.fSeconds)))) (by rfl) (GuardV.plain _) (ltN hN rfl) (by rfl) (by rfl) (by rfl) (by rfl) (OptL.opt (OptL.opt OptL.nil)))
          (OpJs.cons (OpJ.pickAnd rfl (ltN hN rfl) (Opd.tmp 10 (.d (.bool (a0.fPort == a1.fPort)))) (Opd.tmp 15 (.opt ((a0.fPort == a1.fPort) == true) (.d (.bool (a0.fSeconds == a1.fSeconds))))))
          (OpJs.cons (OpJ.val (v' := .d (.bool true)) (by rw [hg7]) (OpJ.move (ltN hN rfl) (Opd.tmp 16 (.d (.bool ((a0.fPort == a1.fPort) && (a0.fSeconds == a1.fSeconds)))))))
          (OpJs.cons (OpJ.guarded (by rfl) (OpJ.val (v' := (.ptr 1002 2 [2])) (by rfl) (OpJ.fieldP Try.underlying30 (by rfl) (o := 2) (by rfl) tyS22 (by decide) (obj := (.box 30 (.d (e_api_Series a0)))) (ltN hN rfl) (Opd.tmp 2 (.ptr 1002 0 [])))))
          (OpJs.cons (OpJ.guarded (by rfl) (OpJ.loadB (bt := 30) (c := (.d (e_api_Series a0))) (v := (.d (.list 1 (a0.fIn.map (eI .i64))))) tyS22 (At.dst1 (f := (.list 1 (a0.fIn.map (eI .i64)))) (by rfl) (by rfl) (At.here _) (by first | rfl | omega)) (by rfl) (by rfl) rfl (ltN hN rfl) (Opd.tmp 18 (.ptr 1002 2 [2]))))
          (OpJs.cons (OpJ.guarded (by rfl) (OpJ.val (v' := (.ptr 1003 2 [2])) (by rfl) (OpJ.fieldP Try.underlying30 (by rfl) (o := 2) (by rfl) tyS22 (by decide) (obj := (.box 30 (.d (e_api_Series a1)))) (ltN hN rfl) (Opd.tmp 3 (.ptr 1003 0 [])))))
          (OpJs.cons (OpJ.guarded (by rfl) (OpJ.loadB (bt := 30) (c := (.d (e_api_Series a1))) (v := (.d (.list 1 (a1.fIn.map (eI .i64))))) tyS22 (At.dst1 (f := (.list 1 (a1.fIn.map (eI .i64)))) (by rfl) (by rfl) (At.here _) (by first | rfl | omega)) (by rfl) (by rfl) rfl (ltN hN rfl) (Opd.tmp 20 (.ptr 1003 2 [2]))))
          (OpJs.cons (OpJ.guarded (by rfl) (OpJ.callFn hB fnOk34 (slices_Equal_ac a0.fIn a1.fIn r8 hr8) [] (by kernel_rfl) (ltN hN rfl) (by kernel_rfl) (OpdL.cons (Opd.tmp 19 (.d (.list 1 (a0.fIn.map (eI .i64))))) (OpdL.cons (Opd.tmp 21 (.d (.list 1 (a1.fIn.map (eI .i64))))) OpdL.nil))))
          (OpJs.cons (OpJ.pickT (ltN hN rfl) (Opd.tmp 17 (.d (.bool true))) (Opd.tmp 22 (.d (.bool r8))))
          (OpJs.cons (OpJ.val (v' := .d (.bool false)) (by rw [hg9]) (OpJ.move (ltN hN rfl) (Opd.tmp 23 (.d (.bool r8)))))
          (OpJs.cons (OpJ.skipU (ltN hN rfl) (by rfl))
          (OpJs.cons (OpJ.skipU (ltN hN rfl) (by rfl))
          (OpJs.cons (OpJ.skipU (ltN hN rfl) (by rfl))
          (OpJs.cons (OpJ.skipU (ltN hN rfl) (by rfl))
          (OpJs.cons (OpJ.skipU (ltN hN rfl) (by rfl))
          (OpJs.cons (OpJ.pickF (ltN hN rfl) (Opd.tmp 24 (.d (.bool false))) (Opd.bool false))
          (OpJs.cons (OpJ.assign (ltN hN rfl) (Opd.tmp 30 (.d (.bool false))))
          (OpJs.nil)))))))))))))))))))))))))))) (by rfl) (by rfl) ?_
        exact hjj6 _ h _ _ (Mat.trans (Mat.pat [] [(4, (.d (.bool false)))] [] hB (by rfl) (by rfl) (by rfl)) (Mat.pat [] ((fun m5 : Bool => ([(4, (.d (.bool m5)))] : EL)) false) ((fun m5 : Bool => ([] : OL)) false) hB (by rfl) (by rfl) (by rfl)))
    · replace h := ite_f hg7 h
      refine AWp.region (OpJs.cons (OpJ.val (v' := (.ptr 1002 0 [0])) (by rfl) (OpJ.fieldP Try.underlying30 (by rfl) (o := 0) (by rfl) tyS3 (by decide) (obj := (.box 30 (.d (e_api_Series a0)))) (ltN hN rfl) (Opd.tmp 2 (.ptr 1002 0 []))))
        (OpJs.cons (OpJ.loadB (bt := 30) (c := (.d (e_api_Series a0))) (v := (.d (.int .i64 a0.fPort))) tyS3 (At.dst1 (f := (.int .i64 a0.fPort)) (by rfl) (by rfl) (At.here _) (by first | rfl | omega)) (by rfl) (by rfl) rfl (ltN hN rfl) (Opd.tmp 5 (.ptr 1002 0 [0])))
        (OpJs.cons (OpJ.val (v' := (.ptr 1003 0 [0])) (by rfl) (OpJ.fieldP Try.underlying30 (by rfl) (o := 0) (by rfl) tyS3 (by decide) (obj := (.box 30 (.d (e_api_Series a1)))) (ltN hN rfl) (Opd.tmp 3 (.ptr 1003 0 []))))
        (OpJs.cons (OpJ.loadB (bt := 30) (c := (.d (e_api_Series a1))) (v := (.d (.int .i64 a1.fPort))) tyS3 (At.dst1 (f := (.int .i64 a1.fPort)) (by rfl) (by rfl) (At.here _) (by first | rfl | omega)) (by rfl) (by rfl) rfl (ltN hN rfl) (Opd.tmp 7 (.ptr 1003 0 [0])))
        (OpJs.cons (OpJ.eqlI (ltN hN rfl) (Opd.tmp 6 (.d (.int .i64 a0.fPort))) (Opd.tmp 8 (.d (.int .i64 a1.fPort))))
        (OpJs.cons (OpJ.move (ltN hN rfl) (Opd.tmp 9 (.d (.bool (a0.fPort == a1.fPort)))))
        (OpJs.cons (OpJ.opt' (v := (.ptr 1002 1 [1])) (OpJ.val (v' := (.ptr 1002 1 [1])) (by rfl) (OpJ.fieldP Try.underlying30 (by rfl) (o := 1) (by rfl) tyS3 (by decide) (obj := (.box 30 (.d (e_api_Series a0)))) (ltN hN rfl) (Opd.tmp 2 (.ptr 1002 0 [])))) (by rfl) (GuardV.plain _) (ltN hN rfl) (by rfl) (by rfl) (by rfl) (by rfl) (OptL.keep rfl OptL.nil))
        (OpJs.cons (OpJ.opt' (v := (.d (.int .i64 a0.fSeconds))) (OpJ.loadB (bt := 30) (c := (.d (e_api_Series a0))) (v := (.d (.int .i64 a0.fSeconds))) tyS3 (At.dst1 (f := (.int .i64 a0.fSeconds)) (by rfl) (by rfl) (At.here _) (by first | rfl | omega)) (by rfl) (by rfl) rfl (ltN hN rfl) (Opd.tmp 11 (.ptr 1002 1 [1]))) (by rfl) (GuardV.plain _) (ltN hN rfl) (by rfl) (by rfl) (by rfl) (by rfl) (OptL.opt OptL.nil))
        (OpJs.cons (OpJ.opt' (v := (.ptr 1003 1 [1])) (OpJ.val (v' := (.ptr 1003 1 [1])) (by rfl) (OpJ.fieldP Try.underlying30 (by rfl) (o := 1) (by rfl) tyS3 (by decide) (obj := (.box 30 (.d (e_api_Series a1)))) (ltN hN rfl) (Opd.tmp 3 (.ptr 1003 0 [])))) (by rfl) (GuardV.plain _) (ltN hN rfl) (by rfl) (by rfl) (by rfl) (by rfl) (OptL.keep rfl OptL.nil))
        (OpJs.cons (OpJ.opt' (v := (.d (.int .i64 a1.fSeconds))) (OpJ.loadB (bt := 30) (c := (.d (e_api_Series a1))) (v := (.d (.int .i64 a1.fSeconds))) tyS3 (At.dst1 (f := (.int .i64 a1.fSeconds)) (by rfl) (by rfl) (At.here _) (by first | rfl | omega)) (by rfl) (by rfl) rfl (ltN hN rfl) (Opd.tmp 13 (.ptr 1003 1 [1]))) (by rfl) (GuardV.plain _) (ltN hN rfl) (by rfl) (by rfl) (by rfl) (by rfl) (OptL.opt OptL.nil))
        (OpJs.cons (OpJ.opt' (v := (.d (.bool (a0.fSeconds == a1.fSeconds)))) (OpJ.eqlI (ltN hN rfl) (Opd.tmp 12 (.d (.int .i64 a0.fSeconds))) (Opd.tmp 14 (.d (.int .i64 a1.fSeconds)))) (by rfl) (GuardV.plain _) (ltN hN rfl) (by rfl) (by rfl) (by rfl) (by rfl) (OptL.opt (OptL.opt OptL.nil)))
        (OpJs.cons (OpJ.pickAnd rfl (ltN hN rfl) (Opd.tmp 10 (.d (.bool (a0.fPort == a1.fPort)))) (Opd.tmp 15 (.opt ((a0.fPort == a1.fPort) == true) (.d (.bool (a0.fSeconds == a1.fSeconds))))))
        (OpJs.cons (OpJ.val (v' := .d (.bool false)) (by rw [hg7]) (OpJ.move (ltN hN rfl) (Opd.tmp 16 (.d (.bool ((a0.fPort == a1.fPort) && (a0.fSeconds == a1.fSeconds)))))))
        (OpJs.cons (OpJ.skipU (ltN hN rfl) (by rfl))
        (OpJs.cons (OpJ.skipU (ltN hN rfl) (by rfl))
        (OpJs.cons (OpJ.skipU (ltN hN rfl) (by rfl))
        (OpJs.cons (OpJ.skipU (ltN hN rfl) (by rfl))
        (OpJs.cons (OpJ.skipU (ltN hN rfl) (by rfl))
        (OpJs.cons (OpJ.pickF (ltN hN rfl) (Opd.tmp 17 (.d (.bool false))) (Opd.bool false))
        (OpJs.cons (OpJ.move (ltN hN rfl) (Opd.tmp 23 (.d (.bool false))))
        (OpJs.cons (OpJ.skipU (ltN hN rfl) (by rfl))
        (OpJs.cons (OpJ.skipU (ltN hN rfl) (by rfl))
        (OpJs.cons (OpJ.skipU (ltN hN rfl) (by rfl))
        (OpJs.cons (OpJ.skipU (ltN hN rfl) (by rfl))
        (OpJs.cons (OpJ.skipU (ltN hN rfl) (by rfl))
        (OpJs.cons (OpJ.pickF (ltN hN rfl) (Opd.tmp 24 (.d (.bool false))) (Opd.bool false))
        (OpJs.cons (OpJ.assign (ltN hN rfl) (Opd.tmp 30 (.d (.bool false))))
        (OpJs.nil)))))))))))))))))))))))))))) (by rfl) (by rfl) ?_
      exact hjj6 _ h _ _ (Mat.trans (Mat.pat [] [(4, (.d (.bool false)))] [] hB (by rfl) (by rfl) (by rfl)) (Mat.pat [] ((fun m5 : Bool => ([(4, (.d (.bool m5)))] : EL)) false) ((fun m5 : Bool => ([] : OL)) false) hB (by rfl) (by rfl) (by rfl)))

noncomputable def exchangepointlaw40_PercentileParts_L0 (a1 : Int) (r2 : api_Series × exchangepointmill_Deck) (s5 : Int × (List Int) × (List Int) × (List Int) × (List Int)) : Option ((((List Int) × (List Int) × (List Int) × (List Int))) ⊕ (Int × (List Int) × (List Int) × (List Int) × (List Int))) :=
  (if (decide (s5.1 < (r2.1.fIn.length : Int))) = true then
  jn (fun m64 : (List Int) × (List Int) × (List Int) × (List Int) =>
  some (.inr ((w64 (s5.1 + (1 : Int))), m64.1, m64.2.1, m64.2.2.1, m64.2.2.2))) (fun j65 =>
  (if ((bitI .and .i64 (shrI .i64 a1 (IntKind.u64.wrap (w64 ((2 : Int) * (Int.tmod s5.1 (30 : Int)))))) (3 : Int)) == (1 : Int)) = true then
  (idx s5.2.2.2.2 s5.1).bind fun x67 =>
  (idx s5.2.2.2.2 s5.1).bind fun x68 =>
  (idx s5.2.2.2.1 s5.1).bind fun x69 =>
  (idx s5.2.2.2.1 s5.1).bind fun x70 =>
  j65 (s5.2.1, s5.2.2.1, (s5.2.2.2.1.set s5.1.toNat (-1 : Int)), (s5.2.2.2.2.set s5.1.toNat (-1 : Int)))
  else
  (if ((bitI .and .i64 (shrI .i64 a1 (IntKind.u64.wrap (w64 ((2 : Int) * (Int.tmod s5.1 (30 : Int)))))) (3 : Int)) == (2 : Int)) = true then
  (idx s5.2.2.1 s5.1).bind fun x72 =>
  (idx s5.2.2.1 s5.1).bind fun x73 =>
  (idx s5.2.1 s5.1).bind fun x74 =>
  (idx s5.2.1 s5.1).bind fun x75 =>
  j65 ((s5.2.1.set s5.1.toNat (-1 : Int)), (s5.2.2.1.set s5.1.toNat (-1 : Int)), s5.2.2.2.1, s5.2.2.2.2)
  else
  j65 (s5.2.1, s5.2.2.1, s5.2.2.2.1, s5.2.2.2.2))))
  else
  some (.inl (s5.2.1, s5.2.2.1, s5.2.2.2.1, s5.2.2.2.2)))
noncomputable def exchangepointlaw40_PercentileParts (a0 : (List Int)) (a1 : Int) : Option (Bool) :=
  (exchangepointmill_New a0).bind fun r1 =>
  (exchangepointmill_Deck_Series r1 (7 : Int)).bind fun r2 =>
  (exchangepointref40_Copy_3 r2.1).bind fun r3 =>
  (exchangepointref40_Copy_3 r2.1).bind fun r4 =>
  (loop (exchangepointlaw40_PercentileParts_L0 a1 r2) ((0 : Int), r4.fOut, r4.fIn, r3.fOut, r3.fIn)).bind fun p52 =>
  (percentile_Merge (api_Series.mk r3.fPort r3.fSeconds p52.2.2.2 p52.2.2.1) (api_Series.mk r4.fPort r4.fSeconds p52.2.1 p52.1)).bind fun r78 =>
  (percentile_Merge (api_Series.mk r4.fPort r4.fSeconds p52.2.1 p52.1) (api_Series.mk r3.fPort r3.fSeconds p52.2.2.2 p52.2.2.1)).bind fun r79 =>
  jn (fun m86 : Bool =>
  some m86) (fun j87 =>
  (if ((r78.2 == (0 : Int)) && (r79.2 == (0 : Int))) = true then
  (exchangepointref40_Same r78.1 r2.1).bind fun r89 =>
  (if r89 = true then
  (exchangepointref40_Same r79.1 r2.1).bind fun r91 =>
  (if r91 = true then
  (exchangepointlaw40_awake).bind fun r93 =>
  j87 r93
  else
  j87 false)
  else
  j87 false)
  else
  j87 false))
set_option maxHeartbeats 4000000 in
set_option maxRecDepth 100000 in
theorem exchangepointlaw40_PercentileParts_ac (a0 : (List Int)) (a1 : Int) (r : Bool) (h : exchangepointlaw40_PercentileParts a0 a1 = some r) : AC Try.prog 4 [(.d (.list 1 (a0.map (eI .i64)))), (.d (.int .i64 a1))] [] (.d (.bool r)) [] := by
  refine AC.of_code2 Try.func4 rfl rfl (Nat.le_of_ble_eq_true (by rfl)) fun B hB hN => ?_
  delta exchangepointlaw40_PercentileParts at h
  refine AWp.seq ?_
  refine AWp.region (OpJs.cons (OpJ.assign (ltN hN rfl) (Opd.bool false))
  (OpJs.nil)) (by rfl) (by rfl) ?_
  refine seqQ_n ?_
  refine AWp.ghost (Mat.pat [] [(0, (.d (.list 1 (a0.map (eI .i64))))), (1, (.d (.int .i64 a1)))] [] hB (by rfl) (by rfl) (by rfl)) ?_
  refine AWp.seq ?_
  obtain ⟨r1, hr1, h⟩ := bindS h
  obtain ⟨r2, hr2, h⟩ := bindS h
  refine AWp.region (OpJs.cons (OpJ.move (ltN hN rfl) (Opd.tmp 0 (.d (.list 1 (a0.map (eI .i64))))))
  (OpJs.cons (OpJ.callFn hB fnOk11 (exchangepointmill_New_ac a0 r1 hr1) [(1005, 100000)] (by kernel_rfl) (ltN hN rfl) (by kernel_rfl) (OpdL.cons (Opd.tmp 13 (.d (.list 1 (a0.map (eI .i64))))) OpdL.nil))
  (OpJs.cons (OpJ.callFn hB fnOk12 (exchangepointmill_Deck_Series_ac r1 (7 : Int) r2 hr2) [(0, 100000)] (by kernel_rfl) (ltN hN rfl) (by kernel_rfl) (OpdL.cons (Opd.tmp 14 (.ptr 100000 0 [])) (OpdL.cons (Opd.int .i64 (7)) OpdL.nil)))
  (OpJs.cons (OpJ.alloc hB tyZ30 (nm := 1005) (by decide) (ltN hN rfl))
  (OpJs.cons (OpJ.storeB (bt := 30) (c := (.st [(.d (.int .i64 (0 : Int))), (.d (.int .i64 (0 : Int))), .nils, .nils])) (v := (.d (e_api_Series r2.1))) (c' := (.d (e_api_Series r2.1))) tyS30 (SetAt.here _ _) (by rfl) (by rfl) (by simp) rfl (Opd.tmp 5 (.ptr 1005 0 [])) (Opd.tmp 15 (.d (e_api_Series r2.1))))
  (OpJs.nil)))))) (by rfl) (by rfl) ?_
  refine seqQ_n ?_
  refine AWp.ghost (Mat.pat [] [(1, (.d (.int .i64 a1))), (5, (.ptr 1005 0 []))] [(1005, some (.box 30 (.d (e_api_Series r2.1))))] hB (by rfl) (by rfl) (by rfl)) ?_
  refine AWp.seq ?_
  obtain ⟨r3, hr3, h⟩ := bindS h
  obtain ⟨r4, hr4, h⟩ := bindS h
  refine AWp.draws (by kernel_rfl) (OpJs.cons (OpJ.loadB (bt := 30) (c := (.d (e_api_Series r2.1))) (v := (.d (e_api_Series r2.1))) tyS30 (At.here _) (by rfl) (by rfl) rfl (ltN hN rfl) (Opd.tmp 5 (.ptr 1005 0 [])))
  (OpJs.cons (OpJ.callFn hB fnOk13 (exchangepointref40_Copy_3_ac r2.1 r3 hr3) [(900000, 100200), (900001, 100201)] (by kernel_rfl) (ltN hN rfl) (by kernel_rfl) (OpdL.cons (Opd.tmp 16 (.d (e_api_Series r2.1))) OpdL.nil))
  (OpJs.cons (OpJ.loadB (bt := 30) (c := (.d (e_api_Series r2.1))) (v := (.d (e_api_Series r2.1))) tyS30 (At.here _) (by rfl) (by rfl) rfl (ltN hN rfl) (Opd.tmp 5 (.ptr 1005 0 [])))
  (OpJs.cons (OpJ.callFn hB fnOk13 (exchangepointref40_Copy_3_ac r2.1 r4 hr4) [(900000, 100300), (900001, 100301)] (by kernel_rfl) (ltN hN rfl) (by kernel_rfl) (OpdL.cons (Opd.tmp 18 (.d (e_api_Series r2.1))) OpdL.nil))
  (OpJs.cons (OpJ.alloc hB tyZ30 (nm := 1006) (by decide) (ltN hN rfl))
  (OpJs.cons (OpJ.alloc hB tyZ30 (nm := 1007) (by decide) (ltN hN rfl))
  (OpJs.cons (OpJ.storeB (bt := 30) (c := (.st [(.d (.int .i64 (0 : Int))), (.d (.int .i64 (0 : Int))), .nils, .nils])) (v := (.st [(.d (.int .i64 r3.fPort)), (.d (.int .i64 r3.fSeconds)), (.sref 100200 1 0 r3.fIn.length), (.sref 100201 1 0 r3.fOut.length)])) (c' := (.st [(.d (.int .i64 r3.fPort)), (.d (.int .i64 r3.fSeconds)), (.sref 100200 1 0 r3.fIn.length), (.sref 100201 1 0 r3.fOut.length)])) tyS30 (SetAt.here _ _) (by rfl) (by rfl) (by simp) rfl (Opd.tmp 6 (.ptr 1006 0 [])) (Opd.tmp 17 (.st [(.d (.int .i64 r3.fPort)), (.d (.int .i64 r3.fSeconds)), (.sref 100200 1 0 r3.fIn.length), (.sref 100201 1 0 r3.fOut.length)])))
  (OpJs.cons (OpJ.storeB (bt := 30) (c := (.st [(.d (.int .i64 (0 : Int))), (.d (.int .i64 (0 : Int))), .nils, .nils])) (v := (.st [(.d (.int .i64 r4.fPort)), (.d (.int .i64 r4.fSeconds)), (.sref 100300 1 0 r4.fIn.length), (.sref 100301 1 0 r4.fOut.length)])) (c' := (.st [(.d (.int .i64 r4.fPort)), (.d (.int .i64 r4.fSeconds)), (.sref 100300 1 0 r4.fIn.length), (.sref 100301 1 0 r4.fOut.length)])) tyS30 (SetAt.here _ _) (by rfl) (by rfl) (by simp) rfl (Opd.tmp 7 (.ptr 1007 0 [])) (Opd.tmp 19 (.st [(.d (.int .i64 r4.fPort)), (.d (.int .i64 r4.fSeconds)), (.sref 100300 1 0 r4.fIn.length), (.sref 100301 1 0 r4.fOut.length)])))
  (OpJs.nil))))))))) (by kernel_rfl) (by rfl) (by rfl) ?_
  refine seqQ_n ?_
  refine AWp.ghost (Mat.pat [] [(1, (.d (.int .i64 a1))), (5, (.ptr 1005 0 [])), (6, (.ptr 1006 0 [])), (7, (.ptr 1007 0 []))] [(1005, some (.box 30 (.d (e_api_Series r2.1)))), (1006, some (.box 30 (.st [(.d (.int .i64 r3.fPort)), (.d (.int .i64 r3.fSeconds)), (.sref 100200 1 0 r3.fIn.length), (.sref 100201 1 0 r3.fOut.length)]))), (1007, some (.box 30 (.st [(.d (.int .i64 r4.fPort)), (.d (.int .i64 r4.fSeconds)), (.sref 100300 1 0 r4.fIn.length), (.sref 100301 1 0 r4.fOut.length)]))), (100200, some (.row 3 1 (r3.fIn.map (eI .i64)))), (100201, some (.row 3 1 (r3.fOut.map (eI .i64)))), (100300, some (.row 3 1 (r4.fIn.map (eI .i64)))), (100301, some (.row 3 1 (r4.fOut.map (eI .i64))))] hB (by rfl) (by rfl) (by rfl)) ?_
  refine AWp.seq ?_
  refine AWp.seq ?_
  refine AWp.region (OpJs.cons (OpJ.val (v' := (.ptr 1005 2 [2])) (by rfl) (OpJ.fieldP Try.underlying30 (by rfl) (o := 2) (by rfl) tyS22 (by decide) (obj := (.box 30 (.d (e_api_Series r2.1)))) (ltN hN rfl) (Opd.tmp 5 (.ptr 1005 0 []))))
  (OpJs.cons (OpJ.loadB (bt := 30) (c := (.d (e_api_Series r2.1))) (v := (.d (.list 1 (r2.1.fIn.map (eI .i64))))) tyS22 (At.dst1 (f := (.list 1 (r2.1.fIn.map (eI .i64)))) (by rfl) (by rfl) (At.here _) (by first | rfl | omega)) (by rfl) (by rfl) rfl (ltN hN rfl) (Opd.tmp 20 (.ptr 1005 2 [2])))
  (OpJs.cons (OpJ.val (v' := (.d (.int .i64 (r2.1.fIn.length : Int)))) (by simp) (OpJ.lenD Try.underlying22 (ltN hN rfl) (Opd.tmp 21 (.d (.list 1 (r2.1.fIn.map (eI .i64)))))))
  (OpJs.cons (OpJ.move (ltN hN rfl) (Opd.int .i64 (0)))
  (OpJs.nil))))) (by rfl) (by rfl) ?_
  refine seqQ_n ?_
  refine AWp.ghost (Mat.pat [] [(1, (.d (.int .i64 a1))), (5, (.ptr 1005 0 [])), (6, (.ptr 1006 0 [])), (7, (.ptr 1007 0 [])), (22, (.d (.int .i64 (r2.1.fIn.length : Int)))), (23, (.d (.int .i64 (0 : Int))))] [(1005, some (.box 30 (.d (e_api_Series r2.1)))), (1006, some (.box 30 (.st [(.d (.int .i64 r3.fPort)), (.d (.int .i64 r3.fSeconds)), (.sref 100200 1 0 r3.fIn.length), (.sref 100201 1 0 r3.fOut.length)]))), (1007, some (.box 30 (.st [(.d (.int .i64 r4.fPort)), (.d (.int .i64 r4.fSeconds)), (.sref 100300 1 0 r4.fIn.length), (.sref 100301 1 0 r4.fOut.length)]))), (100200, some (.row 3 1 (r3.fIn.map (eI .i64)))), (100201, some (.row 3 1 (r3.fOut.map (eI .i64)))), (100300, some (.row 3 1 (r4.fIn.map (eI .i64)))), (100301, some (.row 3 1 (r4.fOut.map (eI .i64))))] hB (by rfl) (by rfl) (by rfl)) ?_
  refine AWp.block ?_
  obtain ⟨p52, hx77, h⟩ := bindS h
  refine AWp.ghost (Mat.pat [] ((fun s5 : Int × (List Int) × (List Int) × (List Int) × (List Int) => ([(1, (.d (.int .i64 a1))), (5, (.ptr 1005 0 [])), (6, (.ptr 1006 0 [])), (7, (.ptr 1007 0 [])), (22, (.d (.int .i64 (r2.1.fIn.length : Int)))), (23, (.d (.int .i64 s5.1)))] : EL)) ((0 : Int), r4.fOut, r4.fIn, r3.fOut, r3.fIn)) ((fun s5 : Int × (List Int) × (List Int) × (List Int) × (List Int) => ([(1005, some (.box 30 (.d (e_api_Series r2.1)))), (1006, some (.box 30 (.st [(.d (.int .i64 r3.fPort)), (.d (.int .i64 r3.fSeconds)), (.sref 100200 1 0 s5.2.2.2.2.length), (.sref 100201 1 0 s5.2.2.2.1.length)]))), (1007, some (.box 30 (.st [(.d (.int .i64 r4.fPort)), (.d (.int .i64 r4.fSeconds)), (.sref 100300 1 0 s5.2.2.1.length), (.sref 100301 1 0 s5.2.1.length)]))), (100200, some (.row 3 1 (s5.2.2.2.2.map (eI .i64)))), (100201, some (.row 3 1 (s5.2.2.2.1.map (eI .i64)))), (100300, some (.row 3 1 (s5.2.2.1.map (eI .i64)))), (100301, some (.row 3 1 (s5.2.1.map (eI .i64))))] : OL)) ((0 : Int), r4.fOut, r4.fIn, r3.fOut, r3.fIn)) hB (by rfl) (by rfl) (by rfl)) ?_
  refine AWp.loopS (exchangepointlaw40_PercentileParts_L0 a1 r2) (fun s5 : Int × (List Int) × (List Int) × (List Int) × (List Int) => ([(1, (.d (.int .i64 a1))), (5, (.ptr 1005 0 [])), (6, (.ptr 1006 0 [])), (7, (.ptr 1007 0 [])), (22, (.d (.int .i64 (r2.1.fIn.length : Int)))), (23, (.d (.int .i64 s5.1)))] : EL)) (fun s5 : Int × (List Int) × (List Int) × (List Int) × (List Int) => ([(1005, some (.box 30 (.d (e_api_Series r2.1)))), (1006, some (.box 30 (.st [(.d (.int .i64 r3.fPort)), (.d (.int .i64 r3.fSeconds)), (.sref 100200 1 0 s5.2.2.2.2.length), (.sref 100201 1 0 s5.2.2.2.1.length)]))), (1007, some (.box 30 (.st [(.d (.int .i64 r4.fPort)), (.d (.int .i64 r4.fSeconds)), (.sref 100300 1 0 s5.2.2.1.length), (.sref 100301 1 0 s5.2.1.length)]))), (100200, some (.row 3 1 (s5.2.2.2.2.map (eI .i64)))), (100201, some (.row 3 1 (s5.2.2.2.1.map (eI .i64)))), (100300, some (.row 3 1 (s5.2.2.1.map (eI .i64)))), (100301, some (.row 3 1 (s5.2.1.map (eI .i64))))] : OL)) (fun (p52 : ((List Int) × (List Int) × (List Int) × (List Int))) e E' O' => e = .exit 0 ∧ Mat B E' O' ([(5, (.ptr 1005 0 [])), (6, (.ptr 1006 0 [])), (7, (.ptr 1007 0 []))] : EL) ([(1005, some (.box 30 (.d (e_api_Series r2.1)))), (1006, some (.box 30 (.st [(.d (.int .i64 r3.fPort)), (.d (.int .i64 r3.fSeconds)), (.sref 100200 1 0 p52.2.2.2.length), (.sref 100201 1 0 p52.2.2.1.length)]))), (1007, some (.box 30 (.st [(.d (.int .i64 r4.fPort)), (.d (.int .i64 r4.fSeconds)), (.sref 100300 1 0 p52.2.1.length), (.sref 100301 1 0 p52.1.length)]))), (100200, some (.row 3 1 (p52.2.2.2.map (eI .i64)))), (100201, some (.row 3 1 (p52.2.2.1.map (eI .i64)))), (100300, some (.row 3 1 (p52.2.1.map (eI .i64)))), (100301, some (.row 3 1 (p52.1.map (eI .i64))))] : OL)) hx77 (fun s5 y h => ?_) (fun e E' O' hR => ?_)
  · unfold exchangepointlaw40_PercentileParts_L0 at h
    show AWp _ _ _ _ ([(1, (.d (.int .i64 a1))), (5, (.ptr 1005 0 [])), (6, (.ptr 1006 0 [])), (7, (.ptr 1007 0 [])), (22, (.d (.int .i64 (r2.1.fIn.length : Int)))), (23, (.d (.int .i64 s5.1)))] : EL) ([(1005, some (.box 30 (.d (e_api_Series r2.1)))), (1006, some (.box 30 (.st [(.d (.int .i64 r3.fPort)), (.d (.int .i64 r3.fSeconds)), (.sref 100200 1 0 s5.2.2.2.2.length), (.sref 100201 1 0 s5.2.2.2.1.length)]))), (1007, some (.box 30 (.st [(.d (.int .i64 r4.fPort)), (.d (.int .i64 r4.fSeconds)), (.sref 100300 1 0 s5.2.2.1.length), (.sref 100301 1 0 s5.2.1.length)]))), (100200, some (.row 3 1 (s5.2.2.2.2.map (eI .i64)))), (100201, some (.row 3 1 (s5.2.2.2.1.map (eI .i64)))), (100300, some (.row 3 1 (s5.2.2.1.map (eI .i64)))), (100301, some (.row 3 1 (s5.2.1.map (eI .i64))))] : OL)
    refine AWp.seq ?_
    refine AWp.region (OpJs.cons (OpJ.lss (ltN hN rfl) (Opd.tmp 23 (.d (.int .i64 s5.1))) (Opd.tmp 22 (.d (.int .i64 (r2.1.fIn.length : Int)))))
      (OpJs.nil)) (by rfl) (by rfl) ?_
    refine seqQ_n ?_
    refine AWp.ghost (Mat.pat [] [(1, (.d (.int .i64 a1))), (5, (.ptr 1005 0 [])), (6, (.ptr 1006 0 [])), (7, (.ptr 1007 0 [])), (22, (.d (.int .i64 (r2.1.fIn.length : Int)))), (23, (.d (.int .i64 s5.1))), (24, (.d (.bool (decide (s5.1 < (r2.1.fIn.length : Int))))))] [(1005, some (.box 30 (.d (e_api_Series r2.1)))), (1006, some (.box 30 (.st [(.d (.int .i64 r3.fPort)), (.d (.int .i64 r3.fSeconds)), (.sref 100200 1 0 s5.2.2.2.2.length), (.sref 100201 1 0 s5.2.2.2.1.length)]))), (1007, some (.box 30 (.st [(.d (.int .i64 r4.fPort)), (.d (.int .i64 r4.fSeconds)), (.sref 100300 1 0 s5.2.2.1.length), (.sref 100301 1 0 s5.2.1.length)]))), (100200, some (.row 3 1 (s5.2.2.2.2.map (eI .i64)))), (100201, some (.row 3 1 (s5.2.2.2.1.map (eI .i64)))), (100300, some (.row 3 1 (s5.2.2.1.map (eI .i64)))), (100301, some (.row 3 1 (s5.2.1.map (eI .i64))))] hB (by rfl) (by rfl) (by rfl)) ?_
    refine AWp.seq ?_
    refine AWp.cond (b := (decide (s5.1 < (r2.1.fIn.length : Int)))) (by rfl) (fun hg53 => ?_) (fun hg53 => ?_)
    · replace h := ite_t hg53 h
      refine AWp.skip ?_
      refine seqQ_n ?_
      refine AWp.seq ?_
      refine AWp.block ?_
      refine AWp.seq ?_
      refine AWp.region (OpJs.cons (OpJ.move (ltN hN rfl) (Opd.tmp 23 (.d (.int .i64 s5.1))))
        (OpJs.cons (OpJ.assign (ltN hN rfl) (Opd.tmp 25 (.d (.int .i64 s5.1))))
        (OpJs.nil))) (by rfl) (by rfl) ?_
      refine seqQ_n ?_
      refine AWp.ghost (Mat.pat [] [(1, (.d (.int .i64 a1))), (5, (.ptr 1005 0 [])), (6, (.ptr 1006 0 [])), (7, (.ptr 1007 0 [])), (8, (.d (.int .i64 s5.1))), (22, (.d (.int .i64 (r2.1.fIn.length : Int)))), (23, (.d (.int .i64 s5.1)))] [(1005, some (.box 30 (.d (e_api_Series r2.1)))), (1006, some (.box 30 (.st [(.d (.int .i64 r3.fPort)), (.d (.int .i64 r3.fSeconds)), (.sref 100200 1 0 s5.2.2.2.2.length), (.sref 100201 1 0 s5.2.2.2.1.length)]))), (1007, some (.box 30 (.st [(.d (.int .i64 r4.fPort)), (.d (.int .i64 r4.fSeconds)), (.sref 100300 1 0 s5.2.2.1.length), (.sref 100301 1 0 s5.2.1.length)]))), (100200, some (.row 3 1 (s5.2.2.2.2.map (eI .i64)))), (100201, some (.row 3 1 (s5.2.2.2.1.map (eI .i64)))), (100300, some (.row 3 1 (s5.2.2.1.map (eI .i64)))), (100301, some (.row 3 1 (s5.2.1.map (eI .i64))))] hB (by rfl) (by rfl) (by rfl)) ?_
      refine AWp.seq ?_
      refine AWp.region (OpJs.cons (OpJ.move (ltN hN rfl) (Opd.tmp 1 (.d (.int .i64 a1))))
        (OpJs.cons (OpJ.move (ltN hN rfl) (Opd.tmp 8 (.d (.int .i64 s5.1))))
        (OpJs.cons (OpJ.rem (ltN hN rfl) (Opd.tmp 27 (.d (.int .i64 s5.1))) (Opd.int .i64 (30)) (by decide))
        (OpJs.cons (OpJ.mul (ltN hN rfl) (Opd.int .i64 (2)) (Opd.tmp 28 (.d (.int .i64 (Int.tmod s5.1 (30 : Int))))))
        (OpJs.cons (OpJ.conv Try.underlying3 Try.underlying35 (ltN hN rfl) (Opd.tmp 29 (.d (.int .i64 (w64 ((2 : Int) * (Int.tmod s5.1 (30 : Int))))))))
        (OpJs.cons (OpJ.shr (ltN hN rfl) (Opd.tmp 26 (.d (.int .i64 a1))) (Opd.tmp 30 (.d (.int .u64 (IntKind.u64.wrap (w64 ((2 : Int) * (Int.tmod s5.1 (30 : Int)))))))) (wrap_nonneg rfl _))
        (OpJs.cons (OpJ.bits (op := .and) (by simp) (ltN hN rfl) (Opd.tmp 31 (.d (.int .i64 (shrI .i64 a1 (IntKind.u64.wrap (w64 ((2 : Int) * (Int.tmod s5.1 (30 : Int))))))))) (Opd.int .i64 (3)))
        (OpJs.nil)))))))) (by rfl) (by rfl) ?_
      refine seqQ_n ?_
      refine AWp.ghost (Mat.pat [] [(1, (.d (.int .i64 a1))), (5, (.ptr 1005 0 [])), (6, (.ptr 1006 0 [])), (7, (.ptr 1007 0 [])), (8, (.d (.int .i64 s5.1))), (22, (.d (.int .i64 (r2.1.fIn.length : Int)))), (23, (.d (.int .i64 s5.1))), (32, (.d (.int .i64 (bitI .and .i64 (shrI .i64 a1 (IntKind.u64.wrap (w64 ((2 : Int) * (Int.tmod s5.1 (30 : Int)))))) (3 : Int)))))] [(1005, some (.box 30 (.d (e_api_Series r2.1)))), (1006, some (.box 30 (.st [(.d (.int .i64 r3.fPort)), (.d (.int .i64 r3.fSeconds)), (.sref 100200 1 0 s5.2.2.2.2.length), (.sref 100201 1 0 s5.2.2.2.1.length)]))), (1007, some (.box 30 (.st [(.d (.int .i64 r4.fPort)), (.d (.int .i64 r4.fSeconds)), (.sref 100300 1 0 s5.2.2.1.length), (.sref 100301 1 0 s5.2.1.length)]))), (100200, some (.row 3 1 (s5.2.2.2.2.map (eI .i64)))), (100201, some (.row 3 1 (s5.2.2.2.1.map (eI .i64)))), (100300, some (.row 3 1 (s5.2.2.1.map (eI .i64)))), (100301, some (.row 3 1 (s5.2.1.map (eI .i64))))] hB (by rfl) (by rfl) (by rfl)) ?_
      refine AWp.block ?_
      refine AWp.seq ?_
      refine AWp.region (OpJs.cons (OpJ.eqlI (ltN hN rfl) (Opd.tmp 32 (.d (.int .i64 (bitI .and .i64 (shrI .i64 a1 (IntKind.u64.wrap (w64 ((2 : Int) * (Int.tmod s5.1 (30 : Int)))))) (3 : Int))))) (Opd.int .i64 (1)))
        (OpJs.cons (OpJ.assign (ltN hN rfl) (Opd.tmp 34 (.d (.bool ((bitI .and .i64 (shrI .i64 a1 (IntKind.u64.wrap (w64 ((2 : Int) * (Int.tmod s5.1 (30 : Int)))))) (3 : Int)) == (1 : Int))))))
        (OpJs.nil))) (by rfl) (by rfl) ?_
      refine seqQ_n ?_
      refine AWp.ghost (Mat.pat [] [(1, (.d (.int .i64 a1))), (5, (.ptr 1005 0 [])), (6, (.ptr 1006 0 [])), (7, (.ptr 1007 0 [])), (8, (.d (.int .i64 s5.1))), (22, (.d (.int .i64 (r2.1.fIn.length : Int)))), (23, (.d (.int .i64 s5.1))), (32, (.d (.int .i64 (bitI .and .i64 (shrI .i64 a1 (IntKind.u64.wrap (w64 ((2 : Int) * (Int.tmod s5.1 (30 : Int)))))) (3 : Int))))), (33, (.d (.bool ((bitI .and .i64 (shrI .i64 a1 (IntKind.u64.wrap (w64 ((2 : Int) * (Int.tmod s5.1 (30 : Int)))))) (3 : Int)) == (1 : Int)))))] [(1005, some (.box 30 (.d (e_api_Series r2.1)))), (1006, some (.box 30 (.st [(.d (.int .i64 r3.fPort)), (.d (.int .i64 r3.fSeconds)), (.sref 100200 1 0 s5.2.2.2.2.length), (.sref 100201 1 0 s5.2.2.2.1.length)]))), (1007, some (.box 30 (.st [(.d (.int .i64 r4.fPort)), (.d (.int .i64 r4.fSeconds)), (.sref 100300 1 0 s5.2.2.1.length), (.sref 100301 1 0 s5.2.1.length)]))), (100200, some (.row 3 1 (s5.2.2.2.2.map (eI .i64)))), (100201, some (.row 3 1 (s5.2.2.2.1.map (eI .i64)))), (100300, some (.row 3 1 (s5.2.2.1.map (eI .i64)))), (100301, some (.row 3 1 (s5.2.1.map (eI .i64))))] hB (by rfl) (by rfl) (by rfl)) ?_
      refine AWp.cut h (fun m64 : (List Int) × (List Int) × (List Int) × (List Int) => ([(1, (.d (.int .i64 a1))), (5, (.ptr 1005 0 [])), (6, (.ptr 1006 0 [])), (7, (.ptr 1007 0 [])), (22, (.d (.int .i64 (r2.1.fIn.length : Int)))), (23, (.d (.int .i64 s5.1)))] : EL)) (fun m64 : (List Int) × (List Int) × (List Int) × (List Int) => ([(1005, some (.box 30 (.d (e_api_Series r2.1)))), (1006, some (.box 30 (.st [(.d (.int .i64 r3.fPort)), (.d (.int .i64 r3.fSeconds)), (.sref 100200 1 0 m64.2.2.2.length), (.sref 100201 1 0 m64.2.2.1.length)]))), (1007, some (.box 30 (.st [(.d (.int .i64 r4.fPort)), (.d (.int .i64 r4.fSeconds)), (.sref 100300 1 0 m64.2.1.length), (.sref 100301 1 0 m64.1.length)]))), (100200, some (.row 3 1 (m64.2.2.2.map (eI .i64)))), (100201, some (.row 3 1 (m64.2.2.1.map (eI .i64)))), (100300, some (.row 3 1 (m64.2.1.map (eI .i64)))), (100301, some (.row 3 1 (m64.1.map (eI .i64))))] : OL)) (fun m64 h E' O' hmat => ?_) (fun j65 hjj65 h => ?_)
      · refine blkQ_n ?_
        refine blkQ_n ?_
        refine seqQ_n ?_
        refine AWp.ghost hmat ?_
        refine AWp.region (OpJs.cons (OpJ.add (ltN hN rfl) (Opd.tmp 23 (.d (.int .i64 s5.1))) (Opd.int .i64 (1)))
          (OpJs.cons (OpJ.move (ltN hN rfl) (Opd.tmp 53 (.d (.int .i64 (w64 (s5.1 + (1 : Int)))))))
          (OpJs.nil))) (by rfl) (by rfl) ?_
        obtain rfl := Option.some.inj h
        exact ⟨rfl, (Mat.trans (Mat.pat [] [(1, (.d (.int .i64 a1))), (5, (.ptr 1005 0 [])), (6, (.ptr 1006 0 [])), (7, (.ptr 1007 0 [])), (22, (.d (.int .i64 (r2.1.fIn.length : Int)))), (23, (.d (.int .i64 (w64 (s5.1 + (1 : Int))))))] [(1005, some (.box 30 (.d (e_api_Series r2.1)))), (1006, some (.box 30 (.st [(.d (.int .i64 r3.fPort)), (.d (.int .i64 r3.fSeconds)), (.sref 100200 1 0 m64.2.2.2.length), (.sref 100201 1 0 m64.2.2.1.length)]))), (1007, some (.box 30 (.st [(.d (.int .i64 r4.fPort)), (.d (.int .i64 r4.fSeconds)), (.sref 100300 1 0 m64.2.1.length), (.sref 100301 1 0 m64.1.length)]))), (100200, some (.row 3 1 (m64.2.2.2.map (eI .i64)))), (100201, some (.row 3 1 (m64.2.2.1.map (eI .i64)))), (100300, some (.row 3 1 (m64.2.1.map (eI .i64)))), (100301, some (.row 3 1 (m64.1.map (eI .i64))))] hB (by rfl) (by rfl) (by rfl)) (Mat.pat [] ((fun s5 : Int × (List Int) × (List Int) × (List Int) × (List Int) => ([(1, (.d (.int .i64 a1))), (5, (.ptr 1005 0 [])), (6, (.ptr 1006 0 [])), (7, (.ptr 1007 0 [])), (22, (.d (.int .i64 (r2.1.fIn.length : Int)))), (23, (.d (.int .i64 s5.1)))] : EL)) ((w64 (s5.1 + (1 : Int))), m64.1, m64.2.1, m64.2.2.1, m64.2.2.2)) ((fun s5 : Int × (List Int) × (List Int) × (List Int) × (List Int) => ([(1005, some (.box 30 (.d (e_api_Series r2.1)))), (1006, some (.box 30 (.st [(.d (.int .i64 r3.fPort)), (.d (.int .i64 r3.fSeconds)), (.sref 100200 1 0 s5.2.2.2.2.length), (.sref 100201 1 0 s5.2.2.2.1.length)]))), (1007, some (.box 30 (.st [(.d (.int .i64 r4.fPort)), (.d (.int .i64 r4.fSeconds)), (.sref 100300 1 0 s5.2.2.1.length), (.sref 100301 1 0 s5.2.1.length)]))), (100200, some (.row 3 1 (s5.2.2.2.2.map (eI .i64)))), (100201, some (.row 3 1 (s5.2.2.2.1.map (eI .i64)))), (100300, some (.row 3 1 (s5.2.2.1.map (eI .i64)))), (100301, some (.row 3 1 (s5.2.1.map (eI .i64))))] : OL)) ((w64 (s5.1 + (1 : Int))), m64.1, m64.2.1, m64.2.2.1, m64.2.2.2)) hB (by rfl) (by rfl) (by rfl)))⟩
      · refine AWp.cond (b := ((bitI .and .i64 (shrI .i64 a1 (IntKind.u64.wrap (w64 ((2 : Int) * (Int.tmod s5.1 (30 : Int)))))) (3 : Int)) == (1 : Int))) (by rfl) (fun hg66 => ?_) (fun hg66 => ?_)
        · replace h := ite_t hg66 h
          obtain ⟨x67, hx67, h⟩ := bindS h
          obtain ⟨x68, hx68, h⟩ := bindS h
          obtain ⟨x69, hx69, h⟩ := bindS h
          obtain ⟨x70, hx70, h⟩ := bindS h
          refine AWp.draws (by kernel_rfl) (OpJs.cons (OpJ.val (v' := (.ptr 1006 2 [2])) (by rfl) (OpJ.fieldP Try.underlying30 (by rfl) (o := 2) (by rfl) tyS22 (by decide) (obj := (.box 30 (.st [(.d (.int .i64 r3.fPort)), (.d (.int .i64 r3.fSeconds)), (.sref 100200 1 0 s5.2.2.2.2.length), (.sref 100201 1 0 s5.2.2.2.1.length)]))) (ltN hN rfl) (Opd.tmp 6 (.ptr 1006 0 []))))
            (OpJs.cons (OpJ.loadB (bt := 30) (c := (.st [(.d (.int .i64 r3.fPort)), (.d (.int .i64 r3.fSeconds)), (.sref 100200 1 0 s5.2.2.2.2.length), (.sref 100201 1 0 s5.2.2.2.1.length)])) (v := (.sref 100200 1 0 s5.2.2.2.2.length)) tyS22 (At.st1 (f := (.sref 100200 1 0 s5.2.2.2.2.length)) (by rfl) (by rfl) (At.here _) (by first | rfl | omega)) (by rfl) (by rfl) rfl (ltN hN rfl) (Opd.tmp 35 (.ptr 1006 2 [2])))
            (OpJs.cons (OpJ.move (ltN hN rfl) (Opd.tmp 8 (.d (.int .i64 s5.1))))
            (OpJs.cons (OpJ.val (v' := (.ptr 1006 3 [3])) (by rfl) (OpJ.fieldP Try.underlying30 (by rfl) (o := 3) (by rfl) tyS22 (by decide) (obj := (.box 30 (.st [(.d (.int .i64 r3.fPort)), (.d (.int .i64 r3.fSeconds)), (.sref 100200 1 0 s5.2.2.2.2.length), (.sref 100201 1 0 s5.2.2.2.1.length)]))) (ltN hN rfl) (Opd.tmp 6 (.ptr 1006 0 []))))
            (OpJs.cons (OpJ.loadB (bt := 30) (c := (.st [(.d (.int .i64 r3.fPort)), (.d (.int .i64 r3.fSeconds)), (.sref 100200 1 0 s5.2.2.2.2.length), (.sref 100201 1 0 s5.2.2.2.1.length)])) (v := (.sref 100201 1 0 s5.2.2.2.1.length)) tyS22 (At.st1 (f := (.sref 100201 1 0 s5.2.2.2.1.length)) (by rfl) (by rfl) (At.here _) (by first | rfl | omega)) (by rfl) (by rfl) rfl (ltN hN rfl) (Opd.tmp 38 (.ptr 1006 3 [3])))
            (OpJs.cons (OpJ.move (ltN hN rfl) (Opd.tmp 8 (.d (.int .i64 s5.1))))
            (OpJs.cons (OpJ.val (v' := (.ptr 100200 (s5.1.toNat * 1) [s5.1.toNat])) (by simp) (OpJ.indexS Try.underlying22 tyS3 (obj := (.row 3 1 (s5.2.2.2.2.map (eI .i64)))) (idx_some hx67).1 (by have := idx_lt hx67; first | (simpa using this) | ((try simp only [List.length_map] at this); (try simp only [List.length_map]); omega)) (ltN hN rfl) (Opd.tmp 36 (.sref 100200 1 0 s5.2.2.2.2.length)) (Opd.tmp 37 (.d (.int .i64 s5.1)))))
            (OpJs.cons (OpJ.storeR (e := 3) (sz := 1) (es := s5.2.2.2.2.map (eI .i64)) (es' := (s5.2.2.2.2.set s5.1.toNat (-1 : Int)).map (eI .i64)) tyS3 (get_map (eI .i64) (idx_some hx68).2) (o := 0) (v := (.int .i64 (-1 : Int))) (el' := (.int .i64 (-1 : Int))) (SetAt.here _ _) (by rfl) (map_set _ _ _ _) (by rfl) (by rfl) (Opd.tmp 41 (.ptr 100200 (s5.1.toNat * 1) [s5.1.toNat])) (Opd.int .i64 (-1)))
            (OpJs.cons (OpJ.val (v' := (.ptr 100201 (s5.1.toNat * 1) [s5.1.toNat])) (by simp) (OpJ.indexS Try.underlying22 tyS3 (obj := (.row 3 1 (s5.2.2.2.1.map (eI .i64)))) (idx_some hx69).1 (by have := idx_lt hx69; first | (simpa using this) | ((try simp only [List.length_map] at this); (try simp only [List.length_map]); omega)) (ltN hN rfl) (Opd.tmp 39 (.sref 100201 1 0 s5.2.2.2.1.length)) (Opd.tmp 40 (.d (.int .i64 s5.1)))))
            (OpJs.cons (OpJ.storeR (e := 3) (sz := 1) (es := s5.2.2.2.1.map (eI .i64)) (es' := (s5.2.2.2.1.set s5.1.toNat (-1 : Int)).map (eI .i64)) tyS3 (get_map (eI .i64) (idx_some hx70).2) (o := 0) (v := (.int .i64 (-1 : Int))) (el' := (.int .i64 (-1 : Int))) (SetAt.here _ _) (by rfl) (map_set _ _ _ _) (by rfl) (by rfl) (Opd.tmp 42 (.ptr 100201 (s5.1.toNat * 1) [s5.1.toNat])) (Opd.int .i64 (-1)))
            (OpJs.nil))))))))))) (by kernel_rfl) (by rfl) (by rfl) ?_
          exact hjj65 _ h _ _ (Mat.trans (Mat.pat [] [(1, (.d (.int .i64 a1))), (5, (.ptr 1005 0 [])), (6, (.ptr 1006 0 [])), (7, (.ptr 1007 0 [])), (22, (.d (.int .i64 (r2.1.fIn.length : Int)))), (23, (.d (.int .i64 s5.1)))] [(1005, some (.box 30 (.d (e_api_Series r2.1)))), (1006, some (.box 30 (.st [(.d (.int .i64 r3.fPort)), (.d (.int .i64 r3.fSeconds)), (.sref 100200 1 0 s5.2.2.2.2.length), (.sref 100201 1 0 s5.2.2.2.1.length)]))), (1007, some (.box 30 (.st [(.d (.int .i64 r4.fPort)), (.d (.int .i64 r4.fSeconds)), (.sref 100300 1 0 s5.2.2.1.length), (.sref 100301 1 0 s5.2.1.length)]))), (100200, some (.row 3 1 ((s5.2.2.2.2.set s5.1.toNat (-1 : Int)).map (eI .i64)))), (100201, some (.row 3 1 ((s5.2.2.2.1.set s5.1.toNat (-1 : Int)).map (eI .i64)))), (100300, some (.row 3 1 (s5.2.2.1.map (eI .i64)))), (100301, some (.row 3 1 (s5.2.1.map (eI .i64))))] hB (by rfl) (by rfl) (by rfl)) (Mat.trans (Mat.lenP (Ts := []) (Bs := [(1006, some (.box 30 (.st [(.d (.int .i64 r3.fPort)), (.d (.int .i64 r3.fSeconds)), (.sref 100200 1 0 ((s5.2.2.2.2.set s5.1.toNat (-1 : Int)).length)), (.sref 100201 1 0 s5.2.2.2.1.length)])))]) TwT.nil (TwB.cons (x := (.st [(.d (.int .i64 r3.fPort)), (.d (.int .i64 r3.fSeconds)), (.sref 100200 1 0 s5.2.2.2.2.length), (.sref 100201 1 0 s5.2.2.2.1.length)])) (by rfl) (Tw.st (TwL.cons (Tw.same _) (TwL.cons (Tw.same _) (TwL.cons (Tw.leaf ⟨_, _, _, _, _, rfl, rfl, (by first | rfl | (simp; done) | (simp; omega))⟩) (TwL.cons (Tw.same _) TwL.nil))))) TwB.nil)) (Mat.trans (Mat.lenP (Ts := []) (Bs := [(1006, some (.box 30 (.st [(.d (.int .i64 r3.fPort)), (.d (.int .i64 r3.fSeconds)), (.sref 100200 1 0 ((s5.2.2.2.2.set s5.1.toNat (-1 : Int)).length)), (.sref 100201 1 0 ((s5.2.2.2.1.set s5.1.toNat (-1 : Int)).length))])))]) TwT.nil (TwB.cons (x := (.st [(.d (.int .i64 r3.fPort)), (.d (.int .i64 r3.fSeconds)), (.sref 100200 1 0 ((s5.2.2.2.2.set s5.1.toNat (-1 : Int)).length)), (.sref 100201 1 0 s5.2.2.2.1.length)])) (by rfl) (Tw.st (TwL.cons (Tw.same _) (TwL.cons (Tw.same _) (TwL.cons (Tw.same _) (TwL.cons (Tw.leaf ⟨_, _, _, _, _, rfl, rfl, (by first | rfl | (simp; done) | (simp; omega))⟩) TwL.nil))))) TwB.nil)) (Mat.pat [] ((fun m64 : (List Int) × (List Int) × (List Int) × (List Int) => ([(1, (.d (.int .i64 a1))), (5, (.ptr 1005 0 [])), (6, (.ptr 1006 0 [])), (7, (.ptr 1007 0 [])), (22, (.d (.int .i64 (r2.1.fIn.length : Int)))), (23, (.d (.int .i64 s5.1)))] : EL)) (s5.2.1, s5.2.2.1, (s5.2.2.2.1.set s5.1.toNat (-1 : Int)), (s5.2.2.2.2.set s5.1.toNat (-1 : Int)))) ((fun m64 : (List Int) × (List Int) × (List Int) × (List Int) => ([(1005, some (.box 30 (.d (e_api_Series r2.1)))), (1006, some (.box 30 (.st [(.d (.int .i64 r3.fPort)), (.d (.int .i64 r3.fSeconds)), (.sref 100200 1 0 m64.2.2.2.length), (.sref 100201 1 0 m64.2.2.1.length)]))), (1007, some (.box 30 (.st [(.d (.int .i64 r4.fPort)), (.d (.int .i64 r4.fSeconds)), (.sref 100300 1 0 m64.2.1.length), (.sref 100301 1 0 m64.1.length)]))), (100200, some (.row 3 1 (m64.2.2.2.map (eI .i64)))), (100201, some (.row 3 1 (m64.2.2.1.map (eI .i64)))), (100300, some (.row 3 1 (m64.2.1.map (eI .i64)))), (100301, some (.row 3 1 (m64.1.map (eI .i64))))] : OL)) (s5.2.1, s5.2.2.1, (s5.2.2.2.1.set s5.1.toNat (-1 : Int)), (s5.2.2.2.2.set s5.1.toNat (-1 : Int)))) hB (by rfl) (by rfl) (by rfl)))))
        · replace h := ite_f hg66 h
          refine AWp.seq ?_
          refine AWp.region (OpJs.cons (OpJ.eqlI (ltN hN rfl) (Opd.tmp 32 (.d (.int .i64 (bitI .and .i64 (shrI .i64 a1 (IntKind.u64.wrap (w64 ((2 : Int) * (Int.tmod s5.1 (30 : Int)))))) (3 : Int))))) (Opd.int .i64 (2)))
            (OpJs.cons (OpJ.assign (ltN hN rfl) (Opd.tmp 44 (.d (.bool ((bitI .and .i64 (shrI .i64 a1 (IntKind.u64.wrap (w64 ((2 : Int) * (Int.tmod s5.1 (30 : Int)))))) (3 : Int)) == (2 : Int))))))
            (OpJs.nil))) (by rfl) (by rfl) ?_
          refine seqQ_n ?_
          refine AWp.ghost (Mat.pat [] [(1, (.d (.int .i64 a1))), (5, (.ptr 1005 0 [])), (6, (.ptr 1006 0 [])), (7, (.ptr 1007 0 [])), (8, (.d (.int .i64 s5.1))), (22, (.d (.int .i64 (r2.1.fIn.length : Int)))), (23, (.d (.int .i64 s5.1))), (43, (.d (.bool ((bitI .and .i64 (shrI .i64 a1 (IntKind.u64.wrap (w64 ((2 : Int) * (Int.tmod s5.1 (30 : Int)))))) (3 : Int)) == (2 : Int)))))] [(1005, some (.box 30 (.d (e_api_Series r2.1)))), (1006, some (.box 30 (.st [(.d (.int .i64 r3.fPort)), (.d (.int .i64 r3.fSeconds)), (.sref 100200 1 0 s5.2.2.2.2.length), (.sref 100201 1 0 s5.2.2.2.1.length)]))), (1007, some (.box 30 (.st [(.d (.int .i64 r4.fPort)), (.d (.int .i64 r4.fSeconds)), (.sref 100300 1 0 s5.2.2.1.length), (.sref 100301 1 0 s5.2.1.length)]))), (100200, some (.row 3 1 (s5.2.2.2.2.map (eI .i64)))), (100201, some (.row 3 1 (s5.2.2.2.1.map (eI .i64)))), (100300, some (.row 3 1 (s5.2.2.1.map (eI .i64)))), (100301, some (.row 3 1 (s5.2.1.map (eI .i64))))] hB (by rfl) (by rfl) (by rfl)) ?_
          refine AWp.cond (b := ((bitI .and .i64 (shrI .i64 a1 (IntKind.u64.wrap (w64 ((2 : Int) * (Int.tmod s5.1 (30 : Int)))))) (3 : Int)) == (2 : Int))) (by rfl) (fun hg71 => ?_) (fun hg71 => ?_)
          · replace h := ite_t hg71 h
            obtain ⟨x72, hx72, h⟩ := bindS h
            obtain ⟨x73, hx73, h⟩ := bindS h
            obtain ⟨x74, hx74, h⟩ := bindS h
            obtain ⟨x75, hx75, h⟩ := bindS h
            refine AWp.draws (by kernel_rfl) (OpJs.cons (OpJ.val (v' := (.ptr 1007 2 [2])) (by rfl) (OpJ.fieldP Try.underlying30 (by rfl) (o := 2) (by rfl) tyS22 (by decide) (obj := (.box 30 (.st [(.d (.int .i64 r4.fPort)), (.d (.int .i64 r4.fSeconds)), (.sref 100300 1 0 s5.2.2.1.length), (.sref 100301 1 0 s5.2.1.length)]))) (ltN hN rfl) (Opd.tmp 7 (.ptr 1007 0 []))))
              (OpJs.cons (OpJ.loadB (bt := 30) (c := (.st [(.d (.int .i64 r4.fPort)), (.d (.int .i64 r4.fSeconds)), (.sref 100300 1 0 s5.2.2.1.length), (.sref 100301 1 0 s5.2.1.length)])) (v := (.sref 100300 1 0 s5.2.2.1.length)) tyS22 (At.st1 (f := (.sref 100300 1 0 s5.2.2.1.length)) (by rfl) (by rfl) (At.here _) (by first | rfl | omega)) (by rfl) (by rfl) rfl (ltN hN rfl) (Opd.tmp 45 (.ptr 1007 2 [2])))
              (OpJs.cons (OpJ.move (ltN hN rfl) (Opd.tmp 8 (.d (.int .i64 s5.1))))
              (OpJs.cons (OpJ.val (v' := (.ptr 1007 3 [3])) (by rfl) (OpJ.fieldP Try.underlying30 (by rfl) (o := 3) (by rfl) tyS22 (by decide) (obj := (.box 30 (.st [(.d (.int .i64 r4.fPort)), (.d (.int .i64 r4.fSeconds)), (.sref 100300 1 0 s5.2.2.1.length), (.sref 100301 1 0 s5.2.1.length)]))) (ltN hN rfl) (Opd.tmp 7 (.ptr 1007 0 []))))
              (OpJs.cons (OpJ.loadB (bt := 30) (c := (.st [(.d (.int .i64 r4.fPort)), (.d (.int .i64 r4.fSeconds)), (.sref 100300 1 0 s5.2.2.1.length), (.sref 100301 1 0 s5.2.1.length)])) (v := (.sref 100301 1 0 s5.2.1.length)) tyS22 (At.st1 (f := (.sref 100301 1 0 s5.2.1.length)) (by rfl) (by rfl) (At.here _) (by first | rfl | omega)) (by rfl) (by rfl) rfl (ltN hN rfl) (Opd.tmp 48 (.ptr 1007 3 [3])))
              (OpJs.cons (OpJ.move (ltN hN rfl) (Opd.tmp 8 (.d (.int .i64 s5.1))))
              (OpJs.cons (OpJ.val (v' := (.ptr 100300 (s5.1.toNat * 1) [s5.1.toNat])) (by simp) (OpJ.indexS Try.underlying22 tyS3 (obj := (.row 3 1 (s5.2.2.1.map (eI .i64)))) (idx_some hx72).1 (by have := idx_lt hx72; first | (simpa using this) | ((try simp only [List.length_map] at this); (try simp only [List.length_map]); omega)) (ltN hN rfl) (Opd.tmp 46 (.sref 100300 1 0 s5.2.2.1.length)) (Opd.tmp 47 (.d (.int .i64 s5.1)))))
              (OpJs.cons (OpJ.storeR (e := 3) (sz := 1) (es := s5.2.2.1.map (eI .i64)) (es' := (s5.2.2.1.set s5.1.toNat (-1 : Int)).map (eI .i64)) tyS3 (get_map (eI .i64) (idx_some hx73).2) (o := 0) (v := (.int .i64 (-1 : Int))) (el' := (.int .i64 (-1 : Int))) (SetAt.here _ _) (by rfl) (map_set _ _ _ _) (by rfl) (by rfl) (Opd.tmp 51 (.ptr 100300 (s5.1.toNat * 1) [s5.1.toNat])) (Opd.int .i64 (-1)))
              (OpJs.cons (OpJ.val (v' := (.ptr 100301 (s5.1.toNat * 1) [s5.1.toNat])) (by simp) (OpJ.indexS Try.underlying22 tyS3 (obj := (.row 3 1 (s5.2.1.map (eI .i64)))) (idx_some hx74).1 (by have := idx_lt hx74; first | (simpa using this) | ((try simp only [List.length_map] at this); (try simp only [List.length_map]); omega)) (ltN hN rfl) (Opd.tmp 49 (.sref 100301 1 0 s5.2.1.length)) (Opd.tmp 50 (.d (.int .i64 s5.1)))))
              (OpJs.cons (OpJ.storeR (e := 3) (sz := 1) (es := s5.2.1.map (eI .i64)) (es' := (s5.2.1.set s5.1.toNat (-1 : Int)).map (eI .i64)) tyS3 (get_map (eI .i64) (idx_some hx75).2) (o := 0) (v := (.int .i64 (-1 : Int))) (el' := (.int .i64 (-1 : Int))) (SetAt.here _ _) (by rfl) (map_set _ _ _ _) (by rfl) (by rfl) (Opd.tmp 52 (.ptr 100301 (s5.1.toNat * 1) [s5.1.toNat])) (Opd.int .i64 (-1)))
              (OpJs.nil))))))))))) (by kernel_rfl) (by rfl) (by rfl) ?_
            exact hjj65 _ h _ _ (Mat.trans (Mat.pat [] [(1, (.d (.int .i64 a1))), (5, (.ptr 1005 0 [])), (6, (.ptr 1006 0 [])), (7, (.ptr 1007 0 [])), (22, (.d (.int .i64 (r2.1.fIn.length : Int)))), (23, (.d (.int .i64 s5.1)))] [(1005, some (.box 30 (.d (e_api_Series r2.1)))), (1006, some (.box 30 (.st [(.d (.int .i64 r3.fPort)), (.d (.int .i64 r3.fSeconds)), (.sref 100200 1 0 s5.2.2.2.2.length), (.sref 100201 1 0 s5.2.2.2.1.length)]))), (1007, some (.box 30 (.st [(.d (.int .i64 r4.fPort)), (.d (.int .i64 r4.fSeconds)), (.sref 100300 1 0 s5.2.2.1.length), (.sref 100301 1 0 s5.2.1.length)]))), (100200, some (.row 3 1 (s5.2.2.2.2.map (eI .i64)))), (100201, some (.row 3 1 (s5.2.2.2.1.map (eI .i64)))), (100300, some (.row 3 1 ((s5.2.2.1.set s5.1.toNat (-1 : Int)).map (eI .i64)))), (100301, some (.row 3 1 ((s5.2.1.set s5.1.toNat (-1 : Int)).map (eI .i64))))] hB (by rfl) (by rfl) (by rfl)) (Mat.trans (Mat.lenP (Ts := []) (Bs := [(1007, some (.box 30 (.st [(.d (.int .i64 r4.fPort)), (.d (.int .i64 r4.fSeconds)), (.sref 100300 1 0 ((s5.2.2.1.set s5.1.toNat (-1 : Int)).length)), (.sref 100301 1 0 s5.2.1.length)])))]) TwT.nil (TwB.cons (x := (.st [(.d (.int .i64 r4.fPort)), (.d (.int .i64 r4.fSeconds)), (.sref 100300 1 0 s5.2.2.1.length), (.sref 100301 1 0 s5.2.1.length)])) (by rfl) (Tw.st (TwL.cons (Tw.same _) (TwL.cons (Tw.same _) (TwL.cons (Tw.leaf ⟨_, _, _, _, _, rfl, rfl, (by first | rfl | (simp; done) | (simp; omega))⟩) (TwL.cons (Tw.same _) TwL.nil))))) TwB.nil)) (Mat.trans (Mat.lenP (Ts := []) (Bs := [(1007, some (.box 30 (.st [(.d (.int .i64 r4.fPort)), (.d (.int .i64 r4.fSeconds)), (.sref 100300 1 0 ((s5.2.2.1.set s5.1.toNat (-1 : Int)).length)), (.sref 100301 1 0 ((s5.2.1.set s5.1.toNat (-1 : Int)).length))])))]) TwT.nil (TwB.cons (x := (.st [(.d (.int .i64 r4.fPort)), (.d (.int .i64 r4.fSeconds)), (.sref 100300 1 0 ((s5.2.2.1.set s5.1.toNat (-1 : Int)).length)), (.sref 100301 1 0 s5.2.1.length)])) (by rfl) (Tw.st (TwL.cons (Tw.same _) (TwL.cons (Tw.same _) (TwL.cons (Tw.same _) (TwL.cons (Tw.leaf ⟨_, _, _, _, _, rfl, rfl, (by first | rfl | (simp; done) | (simp; omega))⟩) TwL.nil))))) TwB.nil)) (Mat.pat [] ((fun m64 : (List Int) × (List Int) × (List Int) × (List Int) => ([(1, (.d (.int .i64 a1))), (5, (.ptr 1005 0 [])), (6, (.ptr 1006 0 [])), (7, (.ptr 1007 0 [])), (22, (.d (.int .i64 (r2.1.fIn.length : Int)))), (23, (.d (.int .i64 s5.1)))] : EL)) ((s5.2.1.set s5.1.toNat (-1 : Int)), (s5.2.2.1.set s5.1.toNat (-1 : Int)), s5.2.2.2.1, s5.2.2.2.2)) ((fun m64 : (List Int) × (List Int) × (List Int) × (List Int) => ([(1005, some (.box 30 (.d (e_api_Series r2.1)))), (1006, some (.box 30 (.st [(.d (.int .i64 r3.fPort)), (.d (.int .i64 r3.fSeconds)), (.sref 100200 1 0 m64.2.2.2.length), (.sref 100201 1 0 m64.2.2.1.length)]))), (1007, some (.box 30 (.st [(.d (.int .i64 r4.fPort)), (.d (.int .i64 r4.fSeconds)), (.sref 100300 1 0 m64.2.1.length), (.sref 100301 1 0 m64.1.length)]))), (100200, some (.row 3 1 (m64.2.2.2.map (eI .i64)))), (100201, some (.row 3 1 (m64.2.2.1.map (eI .i64)))), (100300, some (.row 3 1 (m64.2.1.map (eI .i64)))), (100301, some (.row 3 1 (m64.1.map (eI .i64))))] : OL)) ((s5.2.1.set s5.1.toNat (-1 : Int)), (s5.2.2.1.set s5.1.toNat (-1 : Int)), s5.2.2.2.1, s5.2.2.2.2)) hB (by rfl) (by rfl) (by rfl)))))
          · replace h := ite_f hg71 h
            refine AWp.skip ?_
            exact hjj65 _ h _ _ (Mat.pat [] ((fun m64 : (List Int) × (List Int) × (List Int) × (List Int) => ([(1, (.d (.int .i64 a1))), (5, (.ptr 1005 0 [])), (6, (.ptr 1006 0 [])), (7, (.ptr 1007 0 [])), (22, (.d (.int .i64 (r2.1.fIn.length : Int)))), (23, (.d (.int .i64 s5.1)))] : EL)) (s5.2.1, s5.2.2.1, s5.2.2.2.1, s5.2.2.2.2)) ((fun m64 : (List Int) × (List Int) × (List Int) × (List Int) => ([(1005, some (.box 30 (.d (e_api_Series r2.1)))), (1006, some (.box 30 (.st [(.d (.int .i64 r3.fPort)), (.d (.int .i64 r3.fSeconds)), (.sref 100200 1 0 m64.2.2.2.length), (.sref 100201 1 0 m64.2.2.1.length)]))), (1007, some (.box 30 (.st [(.d (.int .i64 r4.fPort)), (.d (.int .i64 r4.fSeconds)), (.sref 100300 1 0 m64.2.1.length), (.sref 100301 1 0 m64.1.length)]))), (100200, some (.row 3 1 (m64.2.2.2.map (eI .i64)))), (100201, some (.row 3 1 (m64.2.2.1.map (eI .i64)))), (100300, some (.row 3 1 (m64.2.1.map (eI .i64)))), (100301, some (.row 3 1 (m64.1.map (eI .i64))))] : OL)) (s5.2.1, s5.2.2.1, s5.2.2.2.1, s5.2.2.2.2)) hB (by rfl) (by rfl) (by rfl))
    · replace h := ite_f hg53 h
      refine AWp.exit ?_
      refine seqQ_e ?_
      obtain rfl := Option.some.inj h
      exact ⟨(fun hc => by cases hc), rfl, (Mat.pat [] ((fun p52 : (List Int) × (List Int) × (List Int) × (List Int) => ([(5, (.ptr 1005 0 [])), (6, (.ptr 1006 0 [])), (7, (.ptr 1007 0 []))] : EL)) (s5.2.1, s5.2.2.1, s5.2.2.2.1, s5.2.2.2.2)) ((fun p52 : (List Int) × (List Int) × (List Int) × (List Int) => ([(1005, some (.box 30 (.d (e_api_Series r2.1)))), (1006, some (.box 30 (.st [(.d (.int .i64 r3.fPort)), (.d (.int .i64 r3.fSeconds)), (.sref 100200 1 0 p52.2.2.2.length), (.sref 100201 1 0 p52.2.2.1.length)]))), (1007, some (.box 30 (.st [(.d (.int .i64 r4.fPort)), (.d (.int .i64 r4.fSeconds)), (.sref 100300 1 0 p52.2.1.length), (.sref 100301 1 0 p52.1.length)]))), (100200, some (.row 3 1 (p52.2.2.2.map (eI .i64)))), (100201, some (.row 3 1 (p52.2.2.1.map (eI .i64)))), (100300, some (.row 3 1 (p52.2.1.map (eI .i64)))), (100301, some (.row 3 1 (p52.1.map (eI .i64))))] : OL)) (s5.2.1, s5.2.2.1, s5.2.2.2.1, s5.2.2.2.2)) hB (by rfl) (by rfl) (by rfl))⟩
  · obtain ⟨rfl, hmat⟩ := hR
    refine blkQ_hit ?_
    refine seqQ_n ?_
    refine AWp.ghost hmat ?_
    refine AWp.seq ?_
    refine AWp.ghost (Mat.freezeP (n := 100200) (e := 3) (sz := 1) (es := p52.2.2.2.map (eI .i64)) (Ts := []) (Bs := [(1006, some (.box 30 (.st [(.d (.int .i64 r3.fPort)), (.d (.int .i64 r3.fSeconds)), (.d (.list 1 (p52.2.2.2.map (eI .i64)))), (.sref 100201 1 0 p52.2.2.1.length)])))]) (by rfl) TwT.nil (TwB.cons (x := (.st [(.d (.int .i64 r3.fPort)), (.d (.int .i64 r3.fSeconds)), (.sref 100200 1 0 p52.2.2.2.length), (.sref 100201 1 0 p52.2.2.1.length)])) (by rfl) (Tw.st (TwL.cons (Tw.same _) (TwL.cons (Tw.same _) (TwL.cons (FrzL.all (by first | rfl | (simp; done) | (simp; omega))) (TwL.cons (Tw.same _) TwL.nil))))) TwB.nil)) ?_
    refine AWp.ghost (Mat.freezeP (n := 100201) (e := 3) (sz := 1) (es := p52.2.2.1.map (eI .i64)) (Ts := []) (Bs := [(1006, some (.box 30 (.st [(.d (.int .i64 r3.fPort)), (.d (.int .i64 r3.fSeconds)), (.d (.list 1 (p52.2.2.2.map (eI .i64)))), (.d (.list 1 (p52.2.2.1.map (eI .i64))))])))]) (by rfl) TwT.nil (TwB.cons (x := (.st [(.d (.int .i64 r3.fPort)), (.d (.int .i64 r3.fSeconds)), (.d (.list 1 (p52.2.2.2.map (eI .i64)))), (.sref 100201 1 0 p52.2.2.1.length)])) (by rfl) (Tw.st (TwL.cons (Tw.same _) (TwL.cons (Tw.same _) (TwL.cons (Tw.same _) (TwL.cons (FrzL.all (by first | rfl | (simp; done) | (simp; omega))) TwL.nil))))) TwB.nil)) ?_
    refine AWp.ghost (Mat.freezeP (n := 100300) (e := 3) (sz := 1) (es := p52.2.1.map (eI .i64)) (Ts := []) (Bs := [(1007, some (.box 30 (.st [(.d (.int .i64 r4.fPort)), (.d (.int .i64 r4.fSeconds)), (.d (.list 1 (p52.2.1.map (eI .i64)))), (.sref 100301 1 0 p52.1.length)])))]) (by rfl) TwT.nil (TwB.cons (x := (.st [(.d (.int .i64 r4.fPort)), (.d (.int .i64 r4.fSeconds)), (.sref 100300 1 0 p52.2.1.length), (.sref 100301 1 0 p52.1.length)])) (by rfl) (Tw.st (TwL.cons (Tw.same _) (TwL.cons (Tw.same _) (TwL.cons (FrzL.all (by first | rfl | (simp; done) | (simp; omega))) (TwL.cons (Tw.same _) TwL.nil))))) TwB.nil)) ?_
    refine AWp.ghost (Mat.freezeP (n := 100301) (e := 3) (sz := 1) (es := p52.1.map (eI .i64)) (Ts := []) (Bs := [(1007, some (.box 30 (.st [(.d (.int .i64 r4.fPort)), (.d (.int .i64 r4.fSeconds)), (.d (.list 1 (p52.2.1.map (eI .i64)))), (.d (.list 1 (p52.1.map (eI .i64))))])))]) (by rfl) TwT.nil (TwB.cons (x := (.st [(.d (.int .i64 r4.fPort)), (.d (.int .i64 r4.fSeconds)), (.d (.list 1 (p52.2.1.map (eI .i64)))), (.sref 100301 1 0 p52.1.length)])) (by rfl) (Tw.st (TwL.cons (Tw.same _) (TwL.cons (Tw.same _) (TwL.cons (Tw.same _) (TwL.cons (FrzL.all (by first | rfl | (simp; done) | (simp; omega))) TwL.nil))))) TwB.nil)) ?_
    obtain ⟨r78, hr78, h⟩ := bindS h
    refine AWp.region (OpJs.cons (OpJ.loadB (bt := 30) (c := (.st [(.d (.int .i64 r3.fPort)), (.d (.int .i64 r3.fSeconds)), (.d (.list 1 (p52.2.2.2.map (eI .i64)))), (.d (.list 1 (p52.2.2.1.map (eI .i64))))])) (v := (.st [(.d (.int .i64 r3.fPort)), (.d (.int .i64 r3.fSeconds)), (.d (.list 1 (p52.2.2.2.map (eI .i64)))), (.d (.list 1 (p52.2.2.1.map (eI .i64))))])) tyS30 (At.here _) (by rfl) (by rfl) rfl (ltN hN rfl) (Opd.tmp 6 (.ptr 1006 0 [])))
      (OpJs.cons (OpJ.loadB (bt := 30) (c := (.st [(.d (.int .i64 r4.fPort)), (.d (.int .i64 r4.fSeconds)), (.d (.list 1 (p52.2.1.map (eI .i64)))), (.d (.list 1 (p52.1.map (eI .i64))))])) (v := (.st [(.d (.int .i64 r4.fPort)), (.d (.int .i64 r4.fSeconds)), (.d (.list 1 (p52.2.1.map (eI .i64)))), (.d (.list 1 (p52.1.map (eI .i64))))])) tyS30 (At.here _) (by rfl) (by rfl) rfl (ltN hN rfl) (Opd.tmp 7 (.ptr 1007 0 [])))
      (OpJs.cons (OpJ.callFn hB fnOk14 (percentile_Merge_ac (api_Series.mk r3.fPort r3.fSeconds p52.2.2.2 p52.2.2.1) (api_Series.mk r4.fPort r4.fSeconds p52.2.1 p52.1) r78 hr78) [] (by kernel_rfl) (ltN hN rfl) (by kernel_rfl) (OpdL.cons (Opd.tw (Opd.tmp 55 (.st [(.d (.int .i64 r3.fPort)), (.d (.int .i64 r3.fSeconds)), (.d (.list 1 (p52.2.2.2.map (eI .i64)))), (.d (.list 1 (p52.2.2.1.map (eI .i64))))])) (Tw.leaf ⟨_, (Co.st (CoL.cons (Co.d _) (CoL.cons (Co.d _) (CoL.cons (Co.d _) (CoL.cons (Co.d _) CoL.nil))))), rfl⟩)) (OpdL.cons (Opd.tw (Opd.tmp 56 (.st [(.d (.int .i64 r4.fPort)), (.d (.int .i64 r4.fSeconds)), (.d (.list 1 (p52.2.1.map (eI .i64)))), (.d (.list 1 (p52.1.map (eI .i64))))])) (Tw.leaf ⟨_, (Co.st (CoL.cons (Co.d _) (CoL.cons (Co.d _) (CoL.cons (Co.d _) (CoL.cons (Co.d _) CoL.nil))))), rfl⟩)) OpdL.nil)))
      (OpJs.cons (OpJ.move (ltN hN rfl) (Opd.tmp 57 (.tup [(.d (e_api_Series r78.1)), (.d (.int .i64 r78.2))])))
      (OpJs.cons (OpJ.extract (v := (.d (e_api_Series r78.1))) (by rfl) rfl (ltN hN rfl) (Opd.tmp 54 (.tup [(.d (e_api_Series r78.1)), (.d (.int .i64 r78.2))])))
      (OpJs.cons (OpJ.extract (v := (.d (.int .i64 r78.2))) (by rfl) rfl (ltN hN rfl) (Opd.tmp 54 (.tup [(.d (e_api_Series r78.1)), (.d (.int .i64 r78.2))])))
      (OpJs.cons (OpJ.alloc hB tyZ30 (nm := 1009) (by decide) (ltN hN rfl))
      (OpJs.cons (OpJ.storeB (bt := 30) (c := (.st [(.d (.int .i64 (0 : Int))), (.d (.int .i64 (0 : Int))), .nils, .nils])) (v := (.d (e_api_Series r78.1))) (c' := (.d (e_api_Series r78.1))) tyS30 (SetAt.here _ _) (by rfl) (by rfl) (by simp) rfl (Opd.tmp 9 (.ptr 1009 0 [])) (Opd.tmp 58 (.d (e_api_Series r78.1))))
      (OpJs.cons (OpJ.assign (ltN hN rfl) (Opd.tmp 59 (.d (.int .i64 r78.2))))
      (OpJs.nil)))))))))) (by rfl) (by rfl) ?_
    refine seqQ_n ?_
    refine AWp.ghost (Mat.pat [] [(5, (.ptr 1005 0 [])), (6, (.ptr 1006 0 [])), (7, (.ptr 1007 0 [])), (9, (.ptr 1009 0 [])), (10, (.d (.int .i64 r78.2)))] [(1005, some (.box 30 (.d (e_api_Series r2.1)))), (1006, some (.box 30 (.st [(.d (.int .i64 r3.fPort)), (.d (.int .i64 r3.fSeconds)), (.d (.list 1 (p52.2.2.2.map (eI .i64)))), (.d (.list 1 (p52.2.2.1.map (eI .i64))))]))), (1007, some (.box 30 (.st [(.d (.int .i64 r4.fPort)), (.d (.int .i64 r4.fSeconds)), (.d (.list 1 (p52.2.1.map (eI .i64)))), (.d (.list 1 (p52.1.map (eI .i64))))]))), (1009, some (.box 30 (.d (e_api_Series r78.1))))] hB (by rfl) (by rfl) (by rfl)) ?_
    refine AWp.seq ?_
    obtain ⟨r79, hr79, h⟩ := bindS h
    refine AWp.region (OpJs.cons (OpJ.loadB (bt := 30) (c := (.st [(.d (.int .i64 r4.fPort)), (.d (.int .i64 r4.fSeconds)), (.d (.list 1 (p52.2.1.map (eI .i64)))), (.d (.list 1 (p52.1.map (eI .i64))))])) (v := (.st [(.d (.int .i64 r4.fPort)), (.d (.int .i64 r4.fSeconds)), (.d (.list 1 (p52.2.1.map (eI .i64)))), (.d (.list 1 (p52.1.map (eI .i64))))])) tyS30 (At.here _) (by rfl) (by rfl) rfl (ltN hN rfl) (Opd.tmp 7 (.ptr 1007 0 [])))
      (OpJs.cons (OpJ.loadB (bt := 30) (c := (.st [(.d (.int .i64 r3.fPort)), (.d (.int .i64 r3.fSeconds)), (.d (.list 1 (p52.2.2.2.map (eI .i64)))), (.d (.list 1 (p52.2.2.1.map (eI .i64))))])) (v := (.st [(.d (.int .i64 r3.fPort)), (.d (.int .i64 r3.fSeconds)), (.d (.list 1 (p52.2.2.2.map (eI .i64)))), (.d (.list 1 (p52.2.2.1.map (eI .i64))))])) tyS30 (At.here _) (by rfl) (by rfl) rfl (ltN hN rfl) (Opd.tmp 6 (.ptr 1006 0 [])))
      (OpJs.cons (OpJ.callFn hB fnOk14 (percentile_Merge_ac (api_Series.mk r4.fPort r4.fSeconds p52.2.1 p52.1) (api_Series.mk r3.fPort r3.fSeconds p52.2.2.2 p52.2.2.1) r79 hr79) [] (by kernel_rfl) (ltN hN rfl) (by kernel_rfl) (OpdL.cons (Opd.tw (Opd.tmp 61 (.st [(.d (.int .i64 r4.fPort)), (.d (.int .i64 r4.fSeconds)), (.d (.list 1 (p52.2.1.map (eI .i64)))), (.d (.list 1 (p52.1.map (eI .i64))))])) (Tw.leaf ⟨_, (Co.st (CoL.cons (Co.d _) (CoL.cons (Co.d _) (CoL.cons (Co.d _) (CoL.cons (Co.d _) CoL.nil))))), rfl⟩)) (OpdL.cons (Opd.tw (Opd.tmp 62 (.st [(.d (.int .i64 r3.fPort)), (.d (.int .i64 r3.fSeconds)), (.d (.list 1 (p52.2.2.2.map (eI .i64)))), (.d (.list 1 (p52.2.2.1.map (eI .i64))))])) (Tw.leaf ⟨_, (Co.st (CoL.cons (Co.d _) (CoL.cons (Co.d _) (CoL.cons (Co.d _) (CoL.cons (Co.d _) CoL.nil))))), rfl⟩)) OpdL.nil)))
      (OpJs.cons (OpJ.move (ltN hN rfl) (Opd.tmp 63 (.tup [(.d (e_api_Series r79.1)), (.d (.int .i64 r79.2))])))
      (OpJs.cons (OpJ.extract (v := (.d (e_api_Series r79.1))) (by rfl) rfl (ltN hN rfl) (Opd.tmp 60 (.tup [(.d (e_api_Series r79.1)), (.d (.int .i64 r79.2))])))
      (OpJs.cons (OpJ.extract (v := (.d (.int .i64 r79.2))) (by rfl) rfl (ltN hN rfl) (Opd.tmp 60 (.tup [(.d (e_api_Series r79.1)), (.d (.int .i64 r79.2))])))
      (OpJs.cons (OpJ.alloc hB tyZ30 (nm := 1011) (by decide) (ltN hN rfl))
      (OpJs.cons (OpJ.storeB (bt := 30) (c := (.st [(.d (.int .i64 (0 : Int))), (.d (.int .i64 (0 : Int))), .nils, .nils])) (v := (.d (e_api_Series r79.1))) (c' := (.d (e_api_Series r79.1))) tyS30 (SetAt.here _ _) (by rfl) (by rfl) (by simp) rfl (Opd.tmp 11 (.ptr 1011 0 [])) (Opd.tmp 64 (.d (e_api_Series r79.1))))
      (OpJs.cons (OpJ.assign (ltN hN rfl) (Opd.tmp 65 (.d (.int .i64 r79.2))))
      (OpJs.nil)))))))))) (by rfl) (by rfl) ?_
    refine seqQ_n ?_
    refine AWp.ghost (Mat.pat [] [(5, (.ptr 1005 0 [])), (9, (.ptr 1009 0 [])), (10, (.d (.int .i64 r78.2))), (11, (.ptr 1011 0 [])), (12, (.d (.int .i64 r79.2)))] [(1005, some (.box 30 (.d (e_api_Series r2.1)))), (1009, some (.box 30 (.d (e_api_Series r78.1)))), (1011, some (.box 30 (.d (e_api_Series r79.1))))] hB (by rfl) (by rfl) (by rfl)) ?_
    refine AWp.seq ?_
    refine AWp.cut h (fun m86 : Bool => ([(4, (.d (.bool m86)))] : EL)) (fun m86 : Bool => ([] : OL)) (fun m86 h E' O' hmat => ?_) (fun j87 hjj87 h => ?_)
    · refine seqQ_n ?_
      refine AWp.ghost hmat ?_
      refine AWp.ret ?_
      obtain rfl := Option.some.inj h
      exact ⟨.inl rfl, _, _, (Mat.pat [] [(4, (.d (.bool m86)))] [] hB (by rfl) (by rfl) (by rfl)), [(.d (.bool m86))], (Res.tmp (by rfl) (by rfl) Res.nil), rfl, by rfl, by rfl, by rfl⟩
    · rcases Bool.eq_false_or_eq_true ((r78.2 == (0 : Int)) && (r79.2 == (0 : Int))) with hg88 | hg88
      · replace h := ite_t hg88 h
        obtain ⟨r89, hr89, h⟩ := bindS h
        rcases Bool.eq_false_or_eq_true r89 with hg90 | hg90
        · replace h := ite_t hg90 h
          obtain ⟨r91, hr91, h⟩ := bindS h
          rcases Bool.eq_false_or_eq_true r91 with hg92 | hg92
          · replace h := ite_t hg92 h
            obtain ⟨r93, hr93, h⟩ := bindS h
            refine AWp.region (OpJs.cons (OpJ.move (ltN hN rfl) (Opd.tmp 10 (.d (.int .i64 r78.2))))
              (OpJs.cons (OpJ.eqlI (ltN hN rfl) (Opd.tmp 66 (.d (.int .i64 r78.2))) (Opd.int .i64 (0)))
              (OpJs.cons (OpJ.move (ltN hN rfl) (Opd.tmp 67 (.d (.bool (r78.2 == (0 : Int))))))
              (OpJs.cons (OpJ.opt' (v := (.d (.int .i64 r79.2))) (OpJ.move (ltN hN rfl) (Opd.tmp 12 (.d (.int .i64 r79.2)))) (by rfl) (GuardV.plain _) (ltN hN rfl) (by rfl) (by rfl) (by rfl) (by rfl) (OptL.keep rfl OptL.nil))
              (OpJs.cons (OpJ.opt' (v := (.d (.bool (r79.2 == (0 : Int))))) (OpJ.eqlI (ltN hN rfl) (Opd.tmp 69 (.d (.int .i64 r79.2))) (Opd.int .i64 (0))) (by rfl) (GuardV.plain _) (ltN hN rfl) (by rfl) (by rfl) (by rfl) (by rfl) (OptL.opt OptL.nil))
              (OpJs.cons (OpJ.pickAnd rfl (ltN hN rfl) (Opd.tmp 68 (.d (.bool (r78.2 == (0 : Int))))) (Opd.tmp 70 (.opt ((r78.2 == (0 : Int)) == true) (.d (.bool (r79.2 == (0 : Int)))))))
              (OpJs.cons (OpJ.val (v' := .d (.bool true)) (by rw [hg88]) (OpJ.move (ltN hN rfl) (Opd.tmp 71 (.d (.bool ((r78.2 == (0 : Int)) && (r79.2 == (0 : Int))))))))
              (OpJs.cons (OpJ.guarded (by rfl) (OpJ.loadB (bt := 30) (c := (.d (e_api_Series r78.1))) (v := (.d (e_api_Series r78.1))) tyS30 (At.here _) (by rfl) (by rfl) rfl (ltN hN rfl) (Opd.tmp 9 (.ptr 1009 0 []))))
              (OpJs.cons (OpJ.guarded (by rfl) (OpJ.loadB (bt := 30) (c := (.d (e_api_Series r2.1))) (v := (.d (e_api_Series r2.1))) tyS30 (At.here _) (by rfl) (by rfl) rfl (ltN hN rfl) (Opd.tmp 5 (.ptr 1005 0 []))))
              (OpJs.cons (OpJ.guarded (by rfl) (OpJ.callFn hB fnOk15 (exchangepointref40_Same_ac r78.1 r2.1 r89 hr89) [] (by kernel_rfl) (ltN hN rfl) (by kernel_rfl) (OpdL.cons (Opd.tmp 73 (.d (e_api_Series r78.1))) (OpdL.cons (Opd.tmp 74 (.d (e_api_Series r2.1))) OpdL.nil))))
              (OpJs.cons (OpJ.pickT (ltN hN rfl) (Opd.tmp 72 (.d (.bool true))) (Opd.tmp 75 (.d (.bool r89))))
              (OpJs.cons (OpJ.val (v' := .d (.bool true)) (by rw [hg90]) (OpJ.move (ltN hN rfl) (Opd.tmp 76 (.d (.bool r89)))))
              (OpJs.cons (OpJ.guarded (by rfl) (OpJ.loadB (bt := 30) (c := (.d (e_api_Series r79.1))) (v := (.d (e_api_Series r79.1))) tyS30 (At.here _) (by rfl) (by rfl) rfl (ltN hN rfl) (Opd.tmp 11 (.ptr 1011 0 []))))
              (OpJs.cons (OpJ.guarded (by rfl) (OpJ.loadB (bt := 30) (c := (.d (e_api_Series r2.1))) (v := (.d (e_api_Series r2.1))) tyS30 (At.here _) (by rfl) (by rfl) rfl (ltN hN rfl) (Opd.tmp 5 (.ptr 1005 0 []))))
              (OpJs.cons (OpJ.guarded (by rfl) (OpJ.callFn hB fnOk15 (exchangepointref40_Same_ac r79.1 r2.1 r91 hr91) [] (by kernel_rfl) (ltN hN rfl) (by kernel_rfl) (OpdL.cons (Opd.tmp 78 (.d (e_api_Series r79.1))) (OpdL.cons (Opd.tmp 79 (.d (e_api_Series r2.1))) OpdL.nil))))
              (OpJs.cons (OpJ.pickT (ltN hN rfl) (Opd.tmp 77 (.d (.bool true))) (Opd.tmp 80 (.d (.bool r91))))
              (OpJs.cons (OpJ.val (v' := .d (.bool true)) (by rw [hg92]) (OpJ.move (ltN hN rfl) (Opd.tmp 81 (.d (.bool r91)))))
              (OpJs.cons (OpJ.guarded (by rfl) (OpJ.callFn hB fnOk9 (exchangepointlaw40_awake_ac  r93 hr93) [] (by kernel_rfl) (ltN hN rfl) (by kernel_rfl) OpdL.nil))
              (OpJs.cons (OpJ.pickT (ltN hN rfl) (Opd.tmp 82 (.d (.bool true))) (Opd.tmp 83 (.d (.bool r93))))
              (OpJs.cons (OpJ.assign (ltN hN rfl) (Opd.tmp 84 (.d (.bool r93))))
              (OpJs.nil))))))))))))))))))))) (by rfl) (by rfl) ?_
            exact hjj87 _ h _ _ (Mat.trans (Mat.pat [] [(4, (.d (.bool r93)))] [] hB (by rfl) (by rfl) (by rfl)) (Mat.pat [] ((fun m86 : Bool => ([(4, (.d (.bool m86)))] : EL)) r93) ((fun m86 : Bool => ([] : OL)) r93) hB (by rfl) (by rfl) (by rfl)))
          · replace h := ite_f hg92 h
            refine AWp.region (OpJs.cons (OpJ.move (ltN hN rfl) (Opd.tmp 10 (.d (.int .i64 r78.2))))
              (OpJs.cons (OpJ.eqlI (ltN hN rfl) (Opd.tmp 66 (.d (.int .i64 r78.2))) (Opd.int .i64 (0)))
              (OpJs.cons (OpJ.move (ltN hN rfl) (Opd.tmp 67 (.d (.bool (r78.2 == (0 : Int))))))
              (OpJs.cons (OpJ.opt' (v := (.d (.int .i64 r79.2))) (OpJ.move (ltN hN rfl) (Opd.tmp 12 (.d (.int .i64 r79.2)))) (by rfl) (GuardV.plain _) (ltN hN rfl) (by rfl) (by rfl) (by rfl) (by rfl) (OptL.keep rfl OptL.nil))
              (OpJs.cons (OpJ.opt' (v := (.d (.bool (r79.2 == (0 : Int))))) (OpJ.eqlI (ltN hN rfl) (Opd.tmp 69 (.d (.int .i64 r79.2))) (Opd.int .i64 (0))) (by rfl) (GuardV.plain _) (ltN hN rfl) (by rfl) (by rfl) (by rfl) (by rfl) (OptL.opt OptL.nil))
              (OpJs.cons (OpJ.pickAnd rfl (ltN hN rfl) (Opd.tmp 68 (.d (.bool (r78.2 == (0 : Int))))) (Opd.tmp 70 (.opt ((r78.2 == (0 : Int)) == true) (.d (.bool (r79.2 == (0 : Int)))))))
              (OpJs.cons (OpJ.val (v' := .d (.bool true)) (by rw [hg88]) (OpJ.move (ltN hN rfl) (Opd.tmp 71 (.d (.bool ((r78.2 == (0 : Int)) && (r79.2 == (0 : Int))))))))
              (OpJs.cons (OpJ.guarded (by rfl) (OpJ.loadB (bt := 30) (c := (.d (e_api_Series r78.1))) (v := (.d (e_api_Series r78.1))) tyS30 (At.here _) (by rfl) (by rfl) rfl (ltN hN rfl) (Opd.tmp 9 (.ptr 1009 0 []))))
              (OpJs.cons (OpJ.guarded (by rfl) (OpJ.loadB (bt := 30) (c := (.d (e_api_Series r2.1))) (v := (.d (e_api_Series r2.1))) tyS30 (At.here _) (by rfl) (by rfl) rfl (ltN hN rfl) (Opd.tmp 5 (.ptr 1005 0 []))))
              (OpJs.cons (OpJ.guarded (by rfl) (OpJ.callFn hB fnOk15 (exchangepointref40_Same_ac r78.1 r2.1 r89 hr89) [] (by kernel_rfl) (ltN hN rfl) (by kernel_rfl) (OpdL.cons (Opd.tmp 73 (.d (e_api_Series r78.1))) (OpdL.cons (Opd.tmp 74 (.d (e_api_Series r2.1))) OpdL.nil))))
              (OpJs.cons (OpJ.pickT (ltN hN rfl) (Opd.tmp 72 (.d (.bool true))) (Opd.tmp 75 (.d (.bool r89))))
              (OpJs.cons (OpJ.val (v' := .d (.bool true)) (by rw [hg90]) (OpJ.move (ltN hN rfl) (Opd.tmp 76 (.d (.bool r89)))))
              (OpJs.cons (OpJ.guarded (by rfl) (OpJ.loadB (bt := 30) (c := (.d (e_api_Series r79.1))) (v := (.d (e_api_Series r79.1))) tyS30 (At.here _) (by rfl) (by rfl) rfl (ltN hN rfl) (Opd.tmp 11 (.ptr 1011 0 []))))
              (OpJs.cons (OpJ.guarded (by rfl) (OpJ.loadB (bt := 30) (c := (.d (e_api_Series r2.1))) (v := (.d (e_api_Series r2.1))) tyS30 (At.here _) (by rfl) (by rfl) rfl (ltN hN rfl) (Opd.tmp 5 (.ptr 1005 0 []))))
              (OpJs.cons (OpJ.guarded (by rfl) (OpJ.callFn hB fnOk15 (exchangepointref40_Same_ac r79.1 r2.1 r91 hr91) [] (by kernel_rfl) (ltN hN rfl) (by kernel_rfl) (OpdL.cons (Opd.tmp 78 (.d (e_api_Series r79.1))) (OpdL.cons (Opd.tmp 79 (.d (e_api_Series r2.1))) OpdL.nil))))
              (OpJs.cons (OpJ.pickT (ltN hN rfl) (Opd.tmp 77 (.d (.bool true))) (Opd.tmp 80 (.d (.bool r91))))
              (OpJs.cons (OpJ.val (v' := .d (.bool false)) (by rw [hg92]) (OpJ.move (ltN hN rfl) (Opd.tmp 81 (.d (.bool r91)))))
              (OpJs.cons (OpJ.skipU (ltN hN rfl) (by rfl))
              (OpJs.cons (OpJ.pickF (ltN hN rfl) (Opd.tmp 82 (.d (.bool false))) (Opd.bool false))
              (OpJs.cons (OpJ.assign (ltN hN rfl) (Opd.tmp 84 (.d (.bool false))))
              (OpJs.nil))))))))))))))))))))) (by rfl) (by rfl) ?_
            exact hjj87 _ h _ _ (Mat.trans (Mat.pat [] [(4, (.d (.bool false)))] [] hB (by rfl) (by rfl) (by rfl)) (Mat.pat [] ((fun m86 : Bool => ([(4, (.d (.bool m86)))] : EL)) false) ((fun m86 : Bool => ([] : OL)) false) hB (by rfl) (by rfl) (by rfl)))
        · replace h := ite_f hg90 h
          refine AWp.region (OpJs.cons (OpJ.move (ltN hN rfl) (Opd.tmp 10 (.d (.int .i64 r78.2))))
            (OpJs.cons (OpJ.eqlI (ltN hN rfl) (Opd.tmp 66 (.d (.int .i64 r78.2))) (Opd.int .i64 (0)))
            (OpJs.cons (OpJ.move (ltN hN rfl) (Opd.tmp 67 (.d (.bool (r78.2 == (0 : Int))))))
            (OpJs.cons (OpJ.opt' (v := (.d (.int .i64 r79.2))) (OpJ.move (ltN hN rfl) (Opd.tmp 12 (.d (.int .i64 r79.2)))) (by rfl) (GuardV.plain _) (ltN hN rfl) (by rfl) (by rfl) (by rfl) (by rfl) (OptL.keep rfl OptL.nil))
            (OpJs.cons (OpJ.opt' (v := (.d (.bool (r79.2 == (0 : Int))))) (OpJ.eqlI (ltN hN rfl) (Opd.tmp 69 (.d (.int .i64 r79.2))) (Opd.int .i64 (0))) (by rfl) (GuardV.plain _) (ltN hN rfl) (by rfl) (by rfl) (by rfl) (by rfl) (OptL.opt OptL.nil))
            (OpJs.cons (OpJ.pickAnd rfl (ltN hN rfl) (Opd.tmp 68 (.d (.bool (r78.2 == (0 : Int))))) (Opd.tmp 70 (.opt ((r78.2 == (0 : Int)) == true) (.d (.bool (r79.2 == (0 : Int)))))))
            (OpJs.cons (OpJ.val (v' := .d (.bool true)) (by rw [hg88]) (OpJ.move (ltN hN rfl) (Opd.tmp 71 (.d (.bool ((r78.2 == (0 : Int)) && (r79.2 == (0 : Int))))))))
            (OpJs.cons (OpJ.guarded (by rfl) (OpJ.loadB (bt := 30) (c := (.d (e_api_Series r78.1))) (v := (.d (e_api_Series r78.1))) tyS30 (At.here _) (by rfl) (by rfl) rfl (ltN hN rfl) (Opd.tmp 9 (.ptr 1009 0 []))))
            (OpJs.cons (OpJ.guarded (by rfl) (OpJ.loadB (bt := 30) (c := (.d (e_api_Series r2.1))) (v := (.d (e_api_Series r2.1))) tyS30 (At.here _) (by rfl) (by rfl) rfl (ltN hN rfl) (Opd.tmp 5 (.ptr 1005 0 []))))
            (OpJs.cons (OpJ.guarded (by rfl) (OpJ.callFn hB fnOk15 (exchangepointref40_Same_ac r78.1 r2.1 r89 hr89) [] (by kernel_rfl) (ltN hN rfl) (by kernel_rfl) (OpdL.cons (Opd.tmp 73 (.d (e_api_Series r78.1))) (OpdL.cons (Opd.tmp 74 (.d (e_api_Series r2.1))) OpdL.nil))))
            (OpJs.cons (OpJ.pickT (ltN hN rfl) (Opd.tmp 72 (.d (.bool true))) (Opd.tmp 75 (.d (.bool r89))))
            (OpJs.cons (OpJ.val (v' := .d (.bool false)) (by rw [hg90]) (OpJ.move (ltN hN rfl) (Opd.tmp 76 (.d (.bool r89)))))
            (OpJs.cons (OpJ.skipU (ltN hN rfl) (by rfl))
            (OpJs.cons (OpJ.skipU (ltN hN rfl) (by rfl))
            (OpJs.cons (OpJ.skipU (ltN hN rfl) (by rfl))
            (OpJs.cons (OpJ.pickF (ltN hN rfl) (Opd.tmp 77 (.d (.bool false))) (Opd.bool false))
            (OpJs.cons (OpJ.move (ltN hN rfl) (Opd.tmp 81 (.d (.bool false))))
            (OpJs.cons (OpJ.skipU (ltN hN rfl) (by rfl))
            (OpJs.cons (OpJ.pickF (ltN hN rfl) (Opd.tmp 82 (.d (.bool false))) (Opd.bool false))
            (OpJs.cons (OpJ.assign (ltN hN rfl) (Opd.tmp 84 (.d (.bool false))))
            (OpJs.nil))))))))))))))))))))) (by rfl) (by rfl) ?_
          exact hjj87 _ h _ _ (Mat.trans (Mat.pat [] [(4, (.d (.bool false)))] [] hB (by rfl) (by rfl) (by rfl)) (Mat.pat [] ((fun m86 : Bool => ([(4, (.d (.bool m86)))] : EL)) false) ((fun m86 : Bool => ([] : OL)) false) hB (by rfl) (by rfl) (by rfl)))
      · replace h := ite_f hg88 h
        refine AWp.region (OpJs.cons (OpJ.move (ltN hN rfl) (Opd.tmp 10 (.d (.int .i64 r78.2))))
          (OpJs.cons (OpJ.eqlI (ltN hN rfl) (Opd.tmp 66 (.d (.int .i64 r78.2))) (Opd.int .i64 (0)))
          (OpJs.cons (OpJ.move (ltN hN rfl) (Opd.tmp 67 (.d (.bool (r78.2 == (0 : Int))))))
          (OpJs.cons (OpJ.opt' (v := (.d (.int .i64 r79.2))) (OpJ.move (ltN hN rfl) (Opd.tmp 12 (.d (.int .i64 r79.2)))) (by rfl) (GuardV.plain _) (ltN hN rfl) (by rfl) (by rfl) (by rfl) (by rfl) (OptL.keep rfl OptL.nil))
          (OpJs.cons (OpJ.opt' (v := (.d (.bool (r79.2 == (0 : Int))))) (OpJ.eqlI (ltN hN rfl) (Opd.tmp 69 (.d (.int .i64 r79.2))) (Opd.int .i64 (0))) (by rfl) (GuardV.plain _) (ltN hN rfl) (by rfl) (by rfl) (by rfl) (by rfl) (OptL.opt OptL.nil))
          (OpJs.cons (OpJ.pickAnd rfl (ltN hN rfl) (Opd.tmp 68 (.d (.bool (r78.2 == (0 : Int))))) (Opd.tmp 70 (.opt ((r78.2 == (0 : Int)) == true) (.d (.bool (r79.2 == (0 : Int)))))))
          (OpJs.cons (OpJ.val (v' := .d (.bool false)) (by rw [hg88]) (OpJ.move (ltN hN rfl) (Opd.tmp 71 (.d (.bool ((r78.2 == (0 : Int)) && (r79.2 == (0 : Int))))))))
          (OpJs.cons (OpJ.skipU (ltN hN rfl) (by rfl))
          (OpJs.cons (OpJ.skipU (ltN hN rfl) (by rfl))
          (OpJs.cons (OpJ.skipU (ltN hN rfl) (by rfl))
          (OpJs.cons (OpJ.pickF (ltN hN rfl) (Opd.tmp 72 (.d (.bool false))) (Opd.bool false))
          (OpJs.cons (OpJ.move (ltN hN rfl) (Opd.tmp 76 (.d (.bool false))))
          (OpJs.cons (OpJ.skipU (ltN hN rfl) (by rfl))
          (OpJs.cons (OpJ.skipU (ltN hN rfl) (by rfl))
          (OpJs.cons (OpJ.skipU (ltN hN rfl) (by rfl))
          (OpJs.cons (OpJ.pickF (ltN hN rfl) (Opd.tmp 77 (.d (.bool false))) (Opd.bool false))
          (OpJs.cons (OpJ.move (ltN hN rfl) (Opd.tmp 81 (.d (.bool false))))
          (OpJs.cons (OpJ.skipU (ltN hN rfl) (by rfl))
          (OpJs.cons (OpJ.pickF (ltN hN rfl) (Opd.tmp 82 (.d (.bool false))) (Opd.bool false))
          (OpJs.cons (OpJ.assign (ltN hN rfl) (Opd.tmp 84 (.d (.bool false))))
          (OpJs.nil))))))))))))))))))))) (by rfl) (by rfl) ?_
        exact hjj87 _ h _ _ (Mat.trans (Mat.pat [] [(4, (.d (.bool false)))] [] hB (by rfl) (by rfl) (by rfl)) (Mat.pat [] ((fun m86 : Bool => ([(4, (.d (.bool m86)))] : EL)) false) ((fun m86 : Bool => ([] : OL)) false) hB (by rfl) (by rfl) (by rfl)))

noncomputable def exchangepointref40_Valid_L0 (a0 : api_Series) (s2 : Int) : Option (((Unit) ⊕ (Unit)) ⊕ (Int)) :=
  (if (decide (s2 < (a0.fIn.length : Int))) = true then
  (idx a0.fIn s2).bind fun x14 =>
  (idx a0.fOut s2).bind fun x15 =>
  (if (((((decide (x14 < (-1 : Int))) || (decide ((1125899906842624 : Int) < x14))) || (decide (x15 < (-1 : Int)))) || (decide ((1125899906842624 : Int) < x15))) || ((x14 == (-1 : Int)) != (x15 == (-1 : Int)))) = true then
  some (.inl (.inl ()))
  else
  some (.inr (w64 (s2 + (1 : Int)))))
  else
  some (.inl (.inr ())))
noncomputable def exchangepointref40_Valid (a0 : api_Series) : Option (Bool) :=
  (if ((((((decide (a0.fPort < (1 : Int))) || (decide ((999 : Int) < a0.fPort))) || (decide (a0.fSeconds < (1 : Int)))) || (decide ((86400 : Int) < a0.fSeconds))) || ((a0.fIn.length : Int) != (a0.fOut.length : Int))) || (decide ((9000 : Int) < (a0.fIn.length : Int)))) = true then
  some false
  else
  (loop (exchangepointref40_Valid_L0 a0) (0 : Int)).bind fun x17 => match x17 with
  | (.inl _) =>
    some false
  | (.inr _) =>
    some true)
set_option maxHeartbeats 4000000 in
set_option maxRecDepth 100000 in
theorem exchangepointref40_Valid_ac (a0 : api_Series) (r : Bool) (h : exchangepointref40_Valid a0 = some r) : AC Try.prog 17 [(.d (e_api_Series a0))] [] (.d (.bool r)) [] := by
  refine AC.of_code2 Try.func17 rfl rfl (Nat.le_of_ble_eq_true (by rfl)) fun B hB hN => ?_
  delta exchangepointref40_Valid at h
  refine AWp.seq ?_
  refine AWp.region (OpJs.cons (OpJ.box hB (nm := 1001) (by decide) (by simp) rfl (ltN hN rfl) (Opd.tmp 0 (.d (e_api_Series a0))))
  (OpJs.cons (OpJ.assign (ltN hN rfl) (Opd.bool false))
  (OpJs.nil))) (by rfl) (by rfl) ?_
  refine seqQ_n ?_
  refine AWp.ghost (Mat.pat [] [(1, (.ptr 1001 0 []))] [(1001, some (.box 30 (.d (e_api_Series a0))))] hB (by rfl) (by rfl) (by rfl)) ?_
  refine AWp.seq ?_
  refine AWp.seq ?_
  refine AWp.region (OpJs.cons (OpJ.val (v' := (.ptr 1001 0 [0])) (by rfl) (OpJ.fieldP Try.underlying30 (by rfl) (o := 0) (by rfl) tyS3 (by decide) (obj := (.box 30 (.d (e_api_Series a0)))) (ltN hN rfl) (Opd.tmp 1 (.ptr 1001 0 []))))
  (OpJs.cons (OpJ.loadB (bt := 30) (c := (.d (e_api_Series a0))) (v := (.d (.int .i64 a0.fPort))) tyS3 (At.dst1 (f := (.int .i64 a0.fPort)) (by rfl) (by rfl) (At.here _) (by first | rfl | omega)) (by rfl) (by rfl) rfl (ltN hN rfl) (Opd.tmp 6 (.ptr 1001 0 [0])))
  (OpJs.cons (OpJ.lss (ltN hN rfl) (Opd.tmp 7 (.d (.int .i64 a0.fPort))) (Opd.int .i64 (1)))
  (OpJs.cons (OpJ.move (ltN hN rfl) (Opd.tmp 8 (.d (.bool (decide (a0.fPort < (1 : Int)))))))
  (OpJs.cons (OpJ.opt' (v := (.ptr 1001 0 [0])) (OpJ.val (v' := (.ptr 1001 0 [0])) (by rfl) (OpJ.fieldP Try.underlying30 (by rfl) (o := 0) (by rfl) tyS3 (by decide) (obj := (.box 30 (.d (e_api_Series a0)))) (ltN hN rfl) (Opd.tmp 1 (.ptr 1001 0 [])))) (by rfl) (GuardV.plain _) (ltN hN rfl) (by rfl) (by rfl) (by rfl) (by rfl) (OptL.keep rfl OptL.nil))
  (OpJs.cons (OpJ.opt' (v := (.d (.int .i64 a0.fPort))) (OpJ.loadB (bt := 30) (c := (.d (e_api_Series a0))) (v := (.d (.int .i64 a0.fPort))) tyS3 (At.dst1 (f := (.int .i64 a0.fPort)) (by rfl) (by rfl) (At.here _) (by first | rfl | omega)) (by rfl) (by rfl) rfl (ltN hN rfl) (Opd.tmp 10 (.ptr 1001 0 [0]))) (by rfl) (GuardV.plain _) (ltN hN rfl) (by rfl) (by rfl) (by rfl) (by rfl) (OptL.opt OptL.nil))
  (OpJs.cons (OpJ.opt' (v := (.d (.bool (decide ((999 : Int) < a0.fPort))))) (OpJ.gtr (ltN hN rfl) (Opd.tmp 11 (.d (.int .i64 a0.fPort))) (Opd.int .i64 (999))) (by rfl) (GuardV.plain _) (ltN hN rfl) (by rfl) (by rfl) (by rfl) (by rfl) (OptL.opt OptL.nil))
  (OpJs.cons (OpJ.pickOr rfl (ltN hN rfl) (Opd.tmp 9 (.d (.bool (decide (a0.fPort < (1 : Int)))))) (Opd.tmp 12 (.opt ((decide (a0.fPort < (1 : Int))) == false) (.d (.bool (decide ((999 : Int) < a0.fPort)))))))
  (OpJs.cons (OpJ.move (ltN hN rfl) (Opd.tmp 13 (.d (.bool ((decide (a0.fPort < (1 : Int))) || (decide ((999 : Int) < a0.fPort)))))))
  (OpJs.cons (OpJ.opt' (v := (.ptr 1001 1 [1])) (OpJ.val (v' := (.ptr 1001 1 [1])) (by rfl) (OpJ.fieldP Try.underlying30 (by rfl) (o := 1) (by rfl) tyS3 (by decide) (obj := (.box 30 (.d (e_api_Series a0)))) (ltN hN rfl) (Opd.tmp 1 (.ptr 1001 0 [])))) (by rfl) (GuardV.plain _) (ltN hN rfl) (by rfl) (by rfl) (by rfl) (by rfl) (OptL.keep rfl OptL.nil))
  (OpJs.cons (OpJ.opt' (v := (.d (.int .i64 a0.fSeconds))) (OpJ.loadB (bt := 30) (c := (.d (e_api_Series a0))) (v := (.d (.int .i64 a0.fSeconds))) tyS3 (At.dst1 (f := (.int .i64 a0.fSeconds)) (by rfl) (by rfl) (At.here _) (by first | rfl | omega)) (by rfl) (by rfl) rfl (ltN hN rfl) (Opd.tmp 15 (.ptr 1001 1 [1]))) (by rfl) (GuardV.plain _) (ltN hN rfl) (by rfl) (by rfl) (by rfl) (by rfl) (OptL.opt OptL.nil))
  (OpJs.cons (OpJ.opt' (v := (.d (.bool (decide (a0.fSeconds < (1 : Int)))))) (OpJ.lss (ltN hN rfl) (Opd.tmp 16 (.d (.int .i64 a0.fSeconds))) (Opd.int .i64 (1))) (by rfl) (GuardV.plain _) (ltN hN rfl) (by rfl) (by rfl) (by rfl) (by rfl) (OptL.opt OptL.nil))
  (OpJs.cons (OpJ.pickOr rfl (ltN hN rfl) (Opd.tmp 14 (.d (.bool ((decide (a0.fPort < (1 : Int))) || (decide ((999 : Int) < a0.fPort)))))) (Opd.tmp 17 (.opt (((decide (a0.fPort < (1 : Int))) || (decide ((999 : Int) < a0.fPort))) == false) (.d (.bool (decide (a0.fSeconds < (1 : Int))))))))
  (OpJs.cons (OpJ.move (ltN hN rfl) (Opd.tmp 18 (.d (.bool (((decide (a0.fPort < (1 : Int))) || (decide ((999 : Int) < a0.fPort))) || (decide (a0.fSeconds < (1 : Int))))))))
  (OpJs.cons (OpJ.opt' (v := (.ptr 1001 1 [1])) (OpJ.val (v' := (.ptr 1001 1 [1])) (by rfl) (OpJ.fieldP Try.underlying30 (by rfl) (o := 1) (by rfl) tyS3 (by decide) (obj := (.box 30 (.d (e_api_Series a0)))) (ltN hN rfl) (Opd.tmp 1 (.ptr 1001 0 [])))) (by rfl) (GuardV.plain _) (ltN hN rfl) (by rfl) (by rfl) (by rfl) (by rfl) (OptL.keep rfl OptL.nil))
  (OpJs.cons (OpJ.opt' (v := (.d (.int .i64 a0.fSeconds))) (OpJ.loadB (bt := 30) (c := (.d (e_api_Series a0))) (v := (.d (.int .i64 a0.fSeconds))) tyS3 (At.dst1 (f := (.int .i64 a0.fSeconds)) (by rfl) (by rfl) (At.here _) (by first | rfl | omega)) (by rfl) (by rfl) rfl (ltN hN rfl) (Opd.tmp 20 (.ptr 1001 1 [1]))) (by rfl) (GuardV.plain _) (ltN hN rfl) (by rfl) (by rfl) (by rfl) (by rfl) (OptL.opt OptL.nil))
  (OpJs.cons (OpJ.opt' (v := (.d (.bool (decide ((86400 : Int) < a0.fSeconds))))) (OpJ.gtr (ltN hN rfl) (Opd.tmp 21 (.d (.int .i64 a0.fSeconds))) (Opd.int .i64 (86400))) (by rfl) (GuardV.plain _) (ltN hN rfl) (by rfl) (by rfl) (by rfl) (by rfl) (OptL.opt OptL.nil))
  (OpJs.cons (OpJ.pickOr rfl (ltN hN rfl) (Opd.tmp 19 (.d (.bool (((decide (a0.fPort < (1 : Int))) || (decide ((999 : Int) < a0.fPort))) || (decide (a0.fSeconds < (1 : Int))))))) (Opd.tmp 22 (.opt ((((decide (a0.fPort < (1 : Int))) || (decide ((999 : Int) < a0.fPort))) || (decide (a0.fSeconds < (1 : Int)))) == false) (.d (.bool (decide ((86400 : Int) < a0.fSeconds)))))))
  (OpJs.cons (OpJ.move (ltN hN rfl) (Opd.tmp 23 (.d (.bool ((((decide (a0.fPort < (1 : Int))) || (decide ((999 : Int) < a0.fPort))) || (decide (a0.fSeconds < (1 : Int)))) || (decide ((86400 : Int) < a0.fSeconds)))))))
  (OpJs.cons (OpJ.opt' (v := (.ptr 1001 2 [2])) (OpJ.val (v' := (.ptr 1001 2 [2])) (by rfl) (OpJ.fieldP Try.underlying30 (by rfl) (o := 2) (by rfl) tyS22 (by decide) (obj := (.box 30 (.d (e_api_Series a0)))) (ltN hN rfl) (Opd.tmp 1 (.ptr 1001 0 [])))) (by rfl) (GuardV.plain _) (ltN hN rfl) (by rfl) (by rfl) (by rfl) (by rfl) (OptL.keep rfl OptL.nil))
  (OpJs.cons (OpJ.opt' (v := (.d (.list 1 (a0.fIn.map (eI .i64))))) (OpJ.loadB (bt := 30) (c := (.d (e_api_Series a0))) (v := (.d (.list 1 (a0.fIn.map (eI .i64))))) tyS22 (At.dst1 (f := (.list 1 (a0.fIn.map (eI .i64)))) (by rfl) (by rfl) (At.here _) (by first | rfl | omega)) (by rfl) (by rfl) rfl (ltN hN rfl) (Opd.tmp 25 (.ptr 1001 2 [2]))) (by rfl) (GuardV.plain _) (ltN hN rfl) (by rfl) (by rfl) (by rfl) (by rfl) (OptL.opt OptL.nil))
  (OpJs.cons (OpJ.opt' (v := (.d (.int .i64 (a0.fIn.length : Int)))) (OpJ.val (v' := (.d (.int .i64 (a0.fIn.length : Int)))) (by simp) (OpJ.lenD Try.underlying22 (ltN hN rfl) (Opd.tmp 26 (.d (.list 1 (a0.fIn.map (eI .i64))))))) (by rfl) (GuardV.plain _) (ltN hN rfl) (by rfl) (by rfl) (by rfl) (by rfl) (OptL.opt OptL.nil))
  (OpJs.cons (OpJ.opt' (v := (.ptr 1001 3 [3])) (OpJ.val (v' := (.ptr 1001 3 [3])) (by rfl) (OpJ.fieldP Try.underlying30 (by rfl) (o := 3) (by rfl) tyS22 (by decide) (obj := (.box 30 (.d (e_api_Series a0)))) (ltN hN rfl) (Opd.tmp 1 (.ptr 1001 0 [])))) (by rfl) (GuardV.plain _) (ltN hN rfl) (by rfl) (by rfl) (by rfl) (by rfl) (OptL.keep rfl OptL.nil))
  (OpJs.cons (OpJ.opt' (v := (.d (.list 1 (a0.fOut.map (eI .i64))))) (OpJ.loadB (bt := 30) (c := (.d (e_api_Series a0))) (v := (.d (.list 1 (a0.fOut.map (eI .i64))))) tyS22 (At.dst1 (f := (.list 1 (a0.fOut.map (eI .i64)))) (by rfl) (by rfl) (At.here _) (by first | rfl | omega)) (by rfl) (by rfl) rfl (ltN hN rfl) (Opd.tmp 28 (.ptr 1001 3 [3]))) (by rfl) (GuardV.plain _) (ltN hN rfl) (by rfl) (by rfl) (by rfl) (by rfl) (OptL.opt OptL.nil))
  (OpJs.cons (OpJ.opt' (v := (.d (.int .i64 (a0.fOut.length : Int)))) (OpJ.val (v' := (.d (.int .i64 (a0.fOut.length : Int)))) (by simp) (OpJ.lenD Try.underlying22 (ltN hN rfl) (Opd.tmp 29 (.d (.list 1 (a0.fOut.map (eI .i64))))))) (by rfl) (GuardV.plain _) (ltN hN rfl) (by rfl) (by rfl) (by rfl) (by rfl) (OptL.opt OptL.nil))
  (OpJs.cons (OpJ.opt' (v := (.d (.bool ((a0.fIn.length : Int) != (a0.fOut.length : Int))))) (OpJ.neqI (ltN hN rfl) (Opd.tmp 27 (.d (.int .i64 (a0.fIn.length : Int)))) (Opd.tmp 30 (.d (.int .i64 (a0.fOut.length : Int))))) (by rfl) (GuardV.plain _) (ltN hN rfl) (by rfl) (by rfl) (by rfl) (by rfl) (OptL.opt (OptL.opt OptL.nil)))
  (OpJs.cons (OpJ.pickOr rfl (ltN hN rfl) (Opd.tmp 24 (.d (.bool ((((decide (a0.fPort < (1 : Int))) || (decide ((999 : Int) < a0.fPort))) || (decide (a0.fSeconds < (1 : Int)))) || (decide ((86400 : Int) < a0.fSeconds)))))) (Opd.tmp 31 (.opt (((((decide (a0.fPort < (1 : Int))) || (decide ((999 : Int) < a0.fPort))) || (decide (a0.fSeconds < (1 : Int)))) || (decide ((86400 : Int) < a0.fSeconds))) == false) (.d (.bool ((a0.fIn.length : Int) != (a0.fOut.length : Int)))))))
  (OpJs.cons (OpJ.move (ltN hN rfl) (Opd.tmp 32 (.d (.bool (((((decide (a0.fPort < (1 : Int))) || (decide ((999 : Int) < a0.fPort))) || (decide (a0.fSeconds < (1 : Int)))) || (decide ((86400 : Int) < a0.fSeconds))) || ((a0.fIn.length : Int) != (a0.fOut.length : Int)))))))
  (OpJs.cons (OpJ.opt' (v := (.ptr 1001 2 [2])) (OpJ.val (v' := (.ptr 1001 2 [2])) (by rfl) (OpJ.fieldP Try.underlying30 (by rfl) (o := 2) (by rfl) tyS22 (by decide) (obj := (.box 30 (.d (e_api_Series a0)))) (ltN hN rfl) (Opd.tmp 1 (.ptr 1001 0 [])))) (by rfl) (GuardV.plain _) (ltN hN rfl) (by rfl) (by rfl) (by rfl) (by rfl) (OptL.keep rfl OptL.nil))
  (OpJs.cons (OpJ.opt' (v := (.d (.list 1 (a0.fIn.map (eI .i64))))) (OpJ.loadB (bt := 30) (c := (.d (e_api_Series a0))) (v := (.d (.list 1 (a0.fIn.map (eI .i64))))) tyS22 (At.dst1 (f := (.list 1 (a0.fIn.map (eI .i64)))) (by rfl) (by rfl) (At.here _) (by first | rfl | omega)) (by rfl) (by rfl) rfl (ltN hN rfl) (Opd.tmp 34 (.ptr 1001 2 [2]))) (by rfl) (GuardV.plain _) (ltN hN rfl) (by rfl) (by rfl) (by rfl) (by rfl) (OptL.opt OptL.nil))
  (OpJs.cons (OpJ.opt' (v := (.d (.int .i64 (a0.fIn.length : Int)))) (OpJ.val (v' := (.d (.int .i64 (a0.fIn.length : Int)))) (by simp) (OpJ.lenD Try.underlying22 (ltN hN rfl) (Opd.tmp 35 (.d (.list 1 (a0.fIn.map (eI .i64))))))) (by rfl) (GuardV.plain _) (ltN hN rfl) (by rfl) (by rfl) (by rfl) (by rfl) (OptL.opt OptL.nil))
  (OpJs.cons (OpJ.opt' (v := (.d (.bool (decide ((9000 : Int) < (a0.fIn.length : Int)))))) (OpJ.gtr (ltN hN rfl) (Opd.tmp 36 (.d (.int .i64 (a0.fIn.length : Int)))) (Opd.int .i64 (9000))) (by rfl) (GuardV.plain _) (ltN hN rfl) (by rfl) (by rfl) (by rfl) (by rfl) (OptL.opt OptL.nil))
  (OpJs.cons (OpJ.pickOr rfl (ltN hN rfl) (Opd.tmp 33 (.d (.bool (((((decide (a0.fPort < (1 : Int))) || (decide ((999 : Int) < a0.fPort))) || (decide (a0.fSeconds < (1 : Int)))) || (decide ((86400 : Int) < a0.fSeconds))) || ((a0.fIn.length : Int) != (a0.fOut.length : Int)))))) (Opd.tmp 37 (.opt ((((((decide (a0.fPort < (1 : Int))) || (decide ((999 : Int) < a0.fPort))) || (decide (a0.fSeconds < (1 : Int)))) || (decide ((86400 : Int) < a0.fSeconds))) || ((a0.fIn.length : Int) != (a0.fOut.length : Int))) == false) (.d (.bool (decide ((9000 : Int) < (a0.fIn.length : Int))))))))
  (OpJs.nil)))))))))))))))))))))))))))))))))) (by rfl) (by rfl) ?_
  refine seqQ_n ?_
  refine AWp.ghost (Mat.pat [] [(1, (.ptr 1001 0 [])), (38, (.d (.bool ((((((decide (a0.fPort < (1 : Int))) || (decide ((999 : Int) < a0.fPort))) || (decide (a0.fSeconds < (1 : Int)))) || (decide ((86400 : Int) < a0.fSeconds))) || ((a0.fIn.length : Int) != (a0.fOut.length : Int))) || (decide ((9000 : Int) < (a0.fIn.length : Int)))))))] [(1001, some (.box 30 (.d (e_api_Series a0))))] hB (by rfl) (by rfl) (by rfl)) ?_
  refine AWp.cond (b := ((((((decide (a0.fPort < (1 : Int))) || (decide ((999 : Int) < a0.fPort))) || (decide (a0.fSeconds < (1 : Int)))) || (decide ((86400 : Int) < a0.fSeconds))) || ((a0.fIn.length : Int) != (a0.fOut.length : Int))) || (decide ((9000 : Int) < (a0.fIn.length : Int))))) (by rfl) (fun hg1 => ?_) (fun hg1 => ?_)
  · replace h := ite_t hg1 h
    refine AWp.seq ?_
    refine AWp.region (OpJs.cons (OpJ.assign (ltN hN rfl) (Opd.bool false))
      (OpJs.nil)) (by rfl) (by rfl) ?_
    refine seqQ_n ?_
    refine AWp.ghost (Mat.pat [] [(2, (.d (.bool false)))] [] hB (by rfl) (by rfl) (by rfl)) ?_
    refine AWp.ret ?_
    refine seqQ_r ?_
    obtain rfl := Option.some.inj h
    exact ⟨.inl rfl, _, _, (Mat.pat [] [(2, (.d (.bool false)))] [] hB (by rfl) (by rfl) (by rfl)), [(.d (.bool false))], (Res.tmp (by rfl) (by rfl) Res.nil), rfl, by rfl, by rfl, by rfl⟩
  · replace h := ite_f hg1 h
    refine AWp.skip ?_
    refine seqQ_n ?_
    refine AWp.seq ?_
    refine AWp.seq ?_
    refine AWp.region (OpJs.cons (OpJ.val (v' := (.ptr 1001 2 [2])) (by rfl) (OpJ.fieldP Try.underlying30 (by rfl) (o := 2) (by rfl) tyS22 (by decide) (obj := (.box 30 (.d (e_api_Series a0)))) (ltN hN rfl) (Opd.tmp 1 (.ptr 1001 0 []))))
      (OpJs.cons (OpJ.loadB (bt := 30) (c := (.d (e_api_Series a0))) (v := (.d (.list 1 (a0.fIn.map (eI .i64))))) tyS22 (At.dst1 (f := (.list 1 (a0.fIn.map (eI .i64)))) (by rfl) (by rfl) (At.here _) (by first | rfl | omega)) (by rfl) (by rfl) rfl (ltN hN rfl) (Opd.tmp 39 (.ptr 1001 2 [2])))
      (OpJs.cons (OpJ.val (v' := (.d (.int .i64 (a0.fIn.length : Int)))) (by simp) (OpJ.lenD Try.underlying22 (ltN hN rfl) (Opd.tmp 40 (.d (.list 1 (a0.fIn.map (eI .i64)))))))
      (OpJs.cons (OpJ.move (ltN hN rfl) (Opd.int .i64 (0)))
      (OpJs.nil))))) (by rfl) (by rfl) ?_
    refine seqQ_n ?_
    refine AWp.ghost (Mat.pat [] [(1, (.ptr 1001 0 [])), (41, (.d (.int .i64 (a0.fIn.length : Int)))), (42, (.d (.int .i64 (0 : Int))))] [(1001, some (.box 30 (.d (e_api_Series a0))))] hB (by rfl) (by rfl) (by rfl)) ?_
    refine AWp.block ?_
    obtain ⟨x17, hx18, h⟩ := bindS h
    refine AWp.ghost (Mat.pat [] ((fun s2 : Int => ([(1, (.ptr 1001 0 [])), (41, (.d (.int .i64 (a0.fIn.length : Int)))), (42, (.d (.int .i64 s2)))] : EL)) (0 : Int)) ((fun s2 : Int => ([(1001, some (.box 30 (.d (e_api_Series a0))))] : OL)) (0 : Int)) hB (by rfl) (by rfl) (by rfl)) ?_
    refine AWp.loopS (exchangepointref40_Valid_L0 a0) (fun s2 : Int => ([(1, (.ptr 1001 0 [])), (41, (.d (.int .i64 (a0.fIn.length : Int)))), (42, (.d (.int .i64 s2)))] : EL)) (fun s2 : Int => ([(1001, some (.box 30 (.d (e_api_Series a0))))] : OL)) (fun (x : (Unit) ⊕ (Unit)) e E' O' => match x with | (.inl _p) => e = .ret ∧ Mat B E' O' ([(2, (.d (.bool false)))] : EL) ([] : OL) | (.inr _p) => e = .exit 0 ∧ Mat B E' O' ([] : EL) ([] : OL)) hx18 (fun s2 y h => ?_) (fun e E' O' hR => ?_)
    · unfold exchangepointref40_Valid_L0 at h
      show AWp _ _ _ _ ([(1, (.ptr 1001 0 [])), (41, (.d (.int .i64 (a0.fIn.length : Int)))), (42, (.d (.int .i64 s2)))] : EL) ([(1001, some (.box 30 (.d (e_api_Series a0))))] : OL)
      refine AWp.seq ?_
      refine AWp.region (OpJs.cons (OpJ.lss (ltN hN rfl) (Opd.tmp 42 (.d (.int .i64 s2))) (Opd.tmp 41 (.d (.int .i64 (a0.fIn.length : Int)))))
        (OpJs.nil)) (by rfl) (by rfl) ?_
      refine seqQ_n ?_
      refine AWp.ghost (Mat.pat [] [(1, (.ptr 1001 0 [])), (41, (.d (.int .i64 (a0.fIn.length : Int)))), (42, (.d (.int .i64 s2))), (43, (.d (.bool (decide (s2 < (a0.fIn.length : Int))))))] [(1001, some (.box 30 (.d (e_api_Series a0))))] hB (by rfl) (by rfl) (by rfl)) ?_
      refine AWp.seq ?_
      refine AWp.cond (b := (decide (s2 < (a0.fIn.length : Int)))) (by rfl) (fun hg13 => ?_) (fun hg13 => ?_)
      · replace h := ite_t hg13 h
        refine AWp.skip ?_
        refine seqQ_n ?_
        refine AWp.seq ?_
        refine AWp.block ?_
        refine AWp.seq ?_
        refine AWp.region (OpJs.cons (OpJ.move (ltN hN rfl) (Opd.tmp 42 (.d (.int .i64 s2))))
          (OpJs.cons (OpJ.assign (ltN hN rfl) (Opd.tmp 44 (.d (.int .i64 s2))))
          (OpJs.nil))) (by rfl) (by rfl) ?_
        refine seqQ_n ?_
        refine AWp.ghost (Mat.pat [] [(1, (.ptr 1001 0 [])), (3, (.d (.int .i64 s2))), (41, (.d (.int .i64 (a0.fIn.length : Int)))), (42, (.d (.int .i64 s2)))] [(1001, some (.box 30 (.d (e_api_Series a0))))] hB (by rfl) (by rfl) (by rfl)) ?_
        refine AWp.seq ?_
        obtain ⟨x14, hx14, h⟩ := bindS h
        obtain ⟨x15, hx15, h⟩ := bindS h
        refine AWp.draws (by kernel_rfl) (OpJs.cons (OpJ.val (v' := (.ptr 1001 2 [2])) (by rfl) (OpJ.fieldP Try.underlying30 (by rfl) (o := 2) (by rfl) tyS22 (by decide) (obj := (.box 30 (.d (e_api_Series a0)))) (ltN hN rfl) (Opd.tmp 1 (.ptr 1001 0 []))))
          (OpJs.cons (OpJ.loadB (bt := 30) (c := (.d (e_api_Series a0))) (v := (.d (.list 1 (a0.fIn.map (eI .i64))))) tyS22 (At.dst1 (f := (.list 1 (a0.fIn.map (eI .i64)))) (by rfl) (by rfl) (At.here _) (by first | rfl | omega)) (by rfl) (by rfl) rfl (ltN hN rfl) (Opd.tmp 45 (.ptr 1001 2 [2])))
          (OpJs.cons (OpJ.move (ltN hN rfl) (Opd.tmp 3 (.d (.int .i64 s2))))
          (OpJs.cons (OpJ.indexD (el := (.int .i64 x14)) Try.underlying22 tyS3 (idx_some hx14).1 (get_map (eI .i64) (idx_some hx14).2) (ltN hN rfl) (Opd.tmp 46 (.d (.list 1 (a0.fIn.map (eI .i64))))) (Opd.tmp 47 (.d (.int .i64 s2))))
          (OpJs.cons (OpJ.loadD tyS3 (by rfl) (by rfl) (ltN hN rfl) (Opd.tmp 48 (.dptr (.int .i64 x14))))
          (OpJs.cons (OpJ.val (v' := (.ptr 1001 3 [3])) (by rfl) (OpJ.fieldP Try.underlying30 (by rfl) (o := 3) (by rfl) tyS22 (by decide) (obj := (.box 30 (.d (e_api_Series a0)))) (ltN hN rfl) (Opd.tmp 1 (.ptr 1001 0 []))))
          (OpJs.cons (OpJ.loadB (bt := 30) (c := (.d (e_api_Series a0))) (v := (.d (.list 1 (a0.fOut.map (eI .i64))))) tyS22 (At.dst1 (f := (.list 1 (a0.fOut.map (eI .i64)))) (by rfl) (by rfl) (At.here _) (by first | rfl | omega)) (by rfl) (by rfl) rfl (ltN hN rfl) (Opd.tmp 50 (.ptr 1001 3 [3])))
          (OpJs.cons (OpJ.move (ltN hN rfl) (Opd.tmp 3 (.d (.int .i64 s2))))
          (OpJs.cons (OpJ.indexD (el := (.int .i64 x15)) Try.underlying22 tyS3 (idx_some hx15).1 (get_map (eI .i64) (idx_some hx15).2) (ltN hN rfl) (Opd.tmp 51 (.d (.list 1 (a0.fOut.map (eI .i64))))) (Opd.tmp 52 (.d (.int .i64 s2))))
          (OpJs.cons (OpJ.loadD tyS3 (by rfl) (by rfl) (ltN hN rfl) (Opd.tmp 53 (.dptr (.int .i64 x15))))
          (OpJs.cons (OpJ.assign (ltN hN rfl) (Opd.tmp 49 (.d (.int .i64 x14))))
          (OpJs.cons (OpJ.assign (ltN hN rfl) (Opd.tmp 54 (.d (.int .i64 x15))))
          (OpJs.nil))))))))))))) (by kernel_rfl) (by rfl) (by rfl) ?_
        refine seqQ_n ?_
        refine AWp.ghost (Mat.pat [] [(1, (.ptr 1001 0 [])), (4, (.d (.int .i64 x14))), (5, (.d (.int .i64 x15))), (41, (.d (.int .i64 (a0.fIn.length : Int)))), (42, (.d (.int .i64 s2)))] [(1001, some (.box 30 (.d (e_api_Series a0))))] hB (by rfl) (by rfl) (by rfl)) ?_
        refine AWp.seq ?_
        refine AWp.region (OpJs.cons (OpJ.move (ltN hN rfl) (Opd.tmp 4 (.d (.int .i64 x14))))
          (OpJs.cons (OpJ.lss (ltN hN rfl) (Opd.tmp 55 (.d (.int .i64 x14))) (Opd.int .i64 (-1)))
          (OpJs.cons (OpJ.move (ltN hN rfl) (Opd.tmp 56 (.d (.bool (decide (x14 < (-1 : Int)))))))
          (OpJs.cons (OpJ.opt' (v := (.d (.int .i64 x14))) (OpJ.move (ltN hN rfl) (Opd.tmp 4 (.d (.int .i64 x14)))) (by rfl) (GuardV.plain _) (ltN hN rfl) (by rfl) (by rfl) (by rfl) (by rfl) (OptL.keep rfl OptL.nil))
          (OpJs.cons (OpJ.opt' (v := (.d (.bool (decide ((1125899906842624 : Int) < x14))))) (OpJ.gtr (ltN hN rfl) (Opd.tmp 58 (.d (.int .i64 x14))) (Opd.int .i64 (1125899906842624))) (by rfl) (GuardV.plain _) (ltN hN rfl) (by rfl) (by rfl) (by rfl) (by rfl) (OptL.opt OptL.nil))
          (OpJs.cons (OpJ.pickOr rfl (ltN hN rfl) (Opd.tmp 57 (.d (.bool (decide (x14 < (-1 : Int)))))) (Opd.tmp 59 (.opt ((decide (x14 < (-1 : Int))) == false) (.d (.bool (decide ((1125899906842624 : Int) < x14)))))))
          (OpJs.cons (OpJ.move (ltN hN rfl) (Opd.tmp 60 (.d (.bool ((decide (x14 < (-1 : Int))) || (decide ((1125899906842624 : Int) < x14)))))))
          (OpJs.cons (OpJ.opt' (v := (.d (.int .i64 x15))) (OpJ.move (ltN hN rfl) (Opd.tmp 5 (.d (.int .i64 x15)))) (by rfl) (GuardV.plain _) (ltN hN rfl) (by rfl) (by rfl) (by rfl) (by rfl) (OptL.keep rfl OptL.nil))
          (OpJs.cons (OpJ.opt' (v := (.d (.bool (decide (x15 < (-1 : Int)))))) (OpJ.lss (ltN hN rfl) (Opd.tmp 62 (.d (.int .i64 x15))) (Opd.int .i64 (-1))) (by rfl) (GuardV.plain _) (ltN hN rfl) (by rfl) (by rfl) (by rfl) (by rfl) (OptL.opt OptL.nil))
          (OpJs.cons (OpJ.pickOr rfl (ltN hN rfl) (Opd.tmp 61 (.d (.bool ((decide (x14 < (-1 : Int))) || (decide ((1125899906842624 : Int) < x14)))))) (Opd.tmp 63 (.opt (((decide (x14 < (-1 : Int))) || (decide ((1125899906842624 : Int) < x14))) == false) (.d (.bool (decide (x15 < (-1 : Int))))))))
          (OpJs.cons (OpJ.move (ltN hN rfl) (Opd.tmp 64 (.d (.bool (((decide (x14 < (-1 : Int))) || (decide ((1125899906842624 : Int) < x14))) || (decide (x15 < (-1 : Int))))))))
          (OpJs.cons (OpJ.opt' (v := (.d (.int .i64 x15))) (OpJ.move (ltN hN rfl) (Opd.tmp 5 (.d (.int .i64 x15)))) (by rfl) (GuardV.plain _) (ltN hN rfl) (by rfl) (by rfl) (by rfl) (by rfl) (OptL.keep rfl OptL.nil))
          (OpJs.cons (OpJ.opt' (v := (.d (.bool (decide ((1125899906842624 : Int) < x15))))) (OpJ.gtr (ltN hN rfl) (Opd.tmp 66 (.d (.int .i64 x15))) (Opd.int .i64 (1125899906842624))) (by rfl) (GuardV.plain _) (ltN hN rfl) (by rfl) (by rfl) (by rfl) (by rfl) (OptL.opt OptL.nil))
          (OpJs.cons (OpJ.pickOr rfl (ltN hN rfl) (Opd.tmp 65 (.d (.bool (((decide (x14 < (-1 : Int))) || (decide ((1125899906842624 : Int) < x14))) || (decide (x15 < (-1 : Int))))))) (Opd.tmp 67 (.opt ((((decide (x14 < (-1 : Int))) || (decide ((1125899906842624 : Int) < x14))) || (decide (x15 < (-1 : Int)))) == false) (.d (.bool (decide ((1125899906842624 : Int) < x15)))))))
          (OpJs.cons (OpJ.move (ltN hN rfl) (Opd.tmp 68 (.d (.bool ((((decide (x14 < (-1 : Int))) || (decide ((1125899906842624 : Int) < x14))) || (decide (x15 < (-1 : Int)))) || (decide ((1125899906842624 : Int) < x15)))))))
          (OpJs.cons (OpJ.opt' (v := (.d (.int .i64 x14))) (OpJ.move (ltN hN rfl) (Opd.tmp 4 (.d (.int .i64 x14)))) (by rfl) (GuardV.plain _) (ltN hN rfl) (by rfl) (by rfl) (by rfl) (by rfl) (OptL.keep rfl OptL.nil))
          (OpJs.cons (OpJ.opt' (v := (.d (.bool (x14 == (-1 : Int))))) (OpJ.eqlI (ltN hN rfl) (Opd.tmp 70 (.d (.int .i64 x14))) (Opd.int .i64 (-1))) (by rfl) (GuardV.plain _) (ltN hN rfl) (by rfl) (by rfl) (by rfl) (by rfl) (OptL.opt OptL.nil))
          (OpJs.cons (OpJ.opt' (v := (.d (.int .i64 x15))) (OpJ.move (ltN hN rfl) (Opd.tmp 5 (.d (.int .i64 x15)))) (by rfl) (GuardV.plain _) (ltN hN rfl) (by rfl) (by rfl) (by rfl) (by rfl) (OptL.keep rfl OptL.nil))
          (OpJs.cons (OpJ.opt' (v := (.d (.bool (x15 == (-1 : Int))))) (OpJ.eqlI (ltN hN rfl) (Opd.tmp 72 (.d (.int .i64 x15))) (Opd.int .i64 (-1))) (by rfl) (GuardV.plain _) (ltN hN rfl) (by rfl) (by rfl) (by rfl) (by rfl) (OptL.opt OptL.nil))
          (OpJs.cons (OpJ.opt' (v := (.d (.bool ((x14 == (-1 : Int)) != (x15 == (-1 : Int)))))) (OpJ.neqB Try.underlying4 (ltN hN rfl) (Opd.tmp 71 (.d (.bool (x14 == (-1 : Int))))) (Opd.tmp 73 (.d (.bool (x15 == (-1 : Int)))))) (by rfl) (GuardV.plain _) (ltN hN rfl) (by rfl) (by rfl) (by rfl) (by rfl) (OptL.opt (OptL.opt OptL.nil)))
          (OpJs.cons (OpJ.pickOr rfl (ltN hN rfl) (Opd.tmp 69 (.d (.bool ((((decide (x14 < (-1 : Int))) || (decide ((1125899906842624 : Int) < x14))) || (decide (x15 < (-1 : Int)))) || (decide ((1125899906842624 : Int) < x15)))))) (Opd.tmp 74 (.opt (((((decide (x14 < (-1 : Int))) || (decide ((1125899906842624 : Int) < x14))) || (decide (x15 < (-1 : Int)))) || (decide ((1125899906842624 : Int) < x15))) == false) (.d (.bool ((x14 == (-1 : Int)) != (x15 == (-1 : Int))))))))
          (OpJs.nil)))))))))))))))))))))) (by rfl) (by rfl) ?_
        refine seqQ_n ?_
        refine AWp.ghost (Mat.pat [] [(1, (.ptr 1001 0 [])), (41, (.d (.int .i64 (a0.fIn.length : Int)))), (42, (.d (.int .i64 s2))), (75, (.d (.bool (((((decide (x14 < (-1 : Int))) || (decide ((1125899906842624 : Int) < x14))) || (decide (x15 < (-1 : Int)))) || (decide ((1125899906842624 : Int) < x15))) || ((x14 == (-1 : Int)) != (x15 == (-1 : Int)))))))] [(1001, some (.box 30 (.d (e_api_Series a0))))] hB (by rfl) (by rfl) (by rfl)) ?_
        refine AWp.cond (b := (((((decide (x14 < (-1 : Int))) || (decide ((1125899906842624 : Int) < x14))) || (decide (x15 < (-1 : Int)))) || (decide ((1125899906842624 : Int) < x15))) || ((x14 == (-1 : Int)) != (x15 == (-1 : Int))))) (by rfl) (fun hg16 => ?_) (fun hg16 => ?_)
        · replace h := ite_t hg16 h
          refine AWp.seq ?_
          refine AWp.region (OpJs.cons (OpJ.assign (ltN hN rfl) (Opd.bool false))
            (OpJs.nil)) (by rfl) (by rfl) ?_
          refine seqQ_n ?_
          refine AWp.ghost (Mat.pat [] [(2, (.d (.bool false)))] [] hB (by rfl) (by rfl) (by rfl)) ?_
          refine AWp.ret ?_
          refine blkQ_r ?_
          refine seqQ_r ?_
          obtain rfl := Option.some.inj h
          exact ⟨(fun hc => by cases hc), rfl, (Mat.pat [] ((fun _ : Unit => ([(2, (.d (.bool false)))] : EL)) ()) ((fun _ : Unit => ([] : OL)) ()) hB (by rfl) (by rfl) (by rfl))⟩
        · replace h := ite_f hg16 h
          refine AWp.skip ?_
          refine blkQ_n ?_
          refine seqQ_n ?_
          refine AWp.region (OpJs.cons (OpJ.add (ltN hN rfl) (Opd.tmp 42 (.d (.int .i64 s2))) (Opd.int .i64 (1)))
            (OpJs.cons (OpJ.move (ltN hN rfl) (Opd.tmp 76 (.d (.int .i64 (w64 (s2 + (1 : Int)))))))
            (OpJs.nil))) (by rfl) (by rfl) ?_
          obtain rfl := Option.some.inj h
          exact ⟨rfl, (Mat.trans (Mat.pat [] [(1, (.ptr 1001 0 [])), (41, (.d (.int .i64 (a0.fIn.length : Int)))), (42, (.d (.int .i64 (w64 (s2 + (1 : Int))))))] [(1001, some (.box 30 (.d (e_api_Series a0))))] hB (by rfl) (by rfl) (by rfl)) (Mat.pat [] ((fun s2 : Int => ([(1, (.ptr 1001 0 [])), (41, (.d (.int .i64 (a0.fIn.length : Int)))), (42, (.d (.int .i64 s2)))] : EL)) (w64 (s2 + (1 : Int)))) ((fun s2 : Int => ([(1001, some (.box 30 (.d (e_api_Series a0))))] : OL)) (w64 (s2 + (1 : Int)))) hB (by rfl) (by rfl) (by rfl)))⟩
      · replace h := ite_f hg13 h
        refine AWp.exit ?_
        refine seqQ_e ?_
        obtain rfl := Option.some.inj h
        exact ⟨(fun hc => by cases hc), rfl, (Mat.pat [] ((fun _ : Unit => ([] : EL)) ()) ((fun _ : Unit => ([] : OL)) ()) hB (by rfl) (by rfl) (by rfl))⟩
    · rcases x17 with _ | _
      · obtain ⟨rfl, hmat⟩ := hR
        refine blkQ_r ?_
        refine seqQ_r ?_
        obtain rfl := Option.some.inj h
        exact ⟨.inl rfl, _, _, (Mat.trans hmat (Mat.pat [] [(2, (.d (.bool false)))] [] hB (by rfl) (by rfl) (by rfl))), [(.d (.bool false))], (Res.tmp (by rfl) (by rfl) Res.nil), rfl, by rfl, by rfl, by rfl⟩
      · obtain ⟨rfl, hmat⟩ := hR
        refine blkQ_hit ?_
        refine seqQ_n ?_
        refine AWp.ghost hmat ?_
        refine AWp.seq ?_
        refine AWp.region (OpJs.cons (OpJ.assign (ltN hN rfl) (Opd.bool true))
          (OpJs.nil)) (by rfl) (by rfl) ?_
        refine seqQ_n ?_
        refine AWp.ghost (Mat.pat [] [(2, (.d (.bool true)))] [] hB (by rfl) (by rfl) (by rfl)) ?_
        refine AWp.ret ?_
        obtain rfl := Option.some.inj h
        exact ⟨.inl rfl, _, _, (Mat.pat [] [(2, (.d (.bool true)))] [] hB (by rfl) (by rfl) (by rfl)), [(.d (.bool true))], (Res.tmp (by rfl) (by rfl) Res.nil), rfl, by rfl, by rfl, by rfl⟩

noncomputable def percentile_Rates_L0 (a0 : (List Int)) (a1 : Int) (s3 : Int × (List Int)) : Option (((Int) ⊕ ((List Int))) ⊕ (Int × (List Int))) :=
  (if (decide (s3.1 < (a0.length : Int))) = true then
  jn (fun m38 : (List Int) =>
  some (.inr ((w64 (s3.1 + (1 : Int))), m38))) (fun j39 =>
  (idx a0 s3.1).bind fun x40 =>
  (if (x40 == (-1 : Int)) = true then
  j39 s3.2
  else
  (percentile_Rate x40 a1).bind fun r42 =>
  (if (r42.2 != (0 : Int)) = true then
  some (.inl (.inl r42.2))
  else
  chk (decide ((s3.2 ++ ([r42.1] : List Int)).length ≤ LIM)) <|
  j39 (s3.2 ++ ([r42.1] : List Int)))))
  else
  some (.inl (.inr s3.2)))
noncomputable def percentile_Rates (a0 : (List Int)) (a1 : Int) : Option ((List Int) × Int) :=
  (percentile_length a1).bind fun r1 =>
  (if (!r1) = true then
  some (([] : List Int), (1 : Int))
  else
  (loop (percentile_Rates_L0 a0 a1) ((0 : Int), ([] : List Int))).bind fun x45 => match x45 with
  | (.inl p30) =>
    some (([] : List Int), p30)
  | (.inr p31) =>
    some (p31, (0 : Int)))
set_option maxHeartbeats 4000000 in
set_option maxRecDepth 100000 in
theorem percentile_Rates_ac (a0 : (List Int)) (a1 : Int) (r : (List Int) × Int) (h : percentile_Rates a0 a1 = some r) : AC Try.prog 22 [(.d (.list 1 (a0.map (eI .i64)))), (.d (.int .i64 a1))] [] (.tup [(.d (.list 1 (r.1.map (eI .i64)))), (.d (.int .i64 r.2))]) [] := by
  refine AC.of_code2 Try.func22 rfl rfl (Nat.le_of_ble_eq_true (by rfl)) fun B hB hN => ?_
  delta percentile_Rates at h
  refine AWp.seq ?_
  refine AWp.region (OpJs.cons (OpJ.assign (ltN hN rfl) Opd.nils)
  (OpJs.cons (OpJ.assign (ltN hN rfl) (Opd.int .i64 (0)))
  (OpJs.nil))) (by rfl) (by rfl) ?_
  refine seqQ_n ?_
  refine AWp.ghost (Mat.pat [] [(0, (.d (.list 1 (a0.map (eI .i64))))), (1, (.d (.int .i64 a1)))] [] hB (by rfl) (by rfl) (by rfl)) ?_
  refine AWp.seq ?_
  refine AWp.seq ?_
  obtain ⟨r1, hr1, h⟩ := bindS h
  refine AWp.region (OpJs.cons (OpJ.move (ltN hN rfl) (Opd.tmp 1 (.d (.int .i64 a1))))
  (OpJs.cons (OpJ.callFn hB fnOk35 (percentile_length_ac a1 r1 hr1) [] (by kernel_rfl) (ltN hN rfl) (by kernel_rfl) (OpdL.cons (Opd.tmp 11 (.d (.int .i64 a1))) OpdL.nil))
  (OpJs.cons (OpJ.not (ltN hN rfl) (Opd.tmp 12 (.d (.bool r1))))
  (OpJs.nil)))) (by rfl) (by rfl) ?_
  refine seqQ_n ?_
  refine AWp.ghost (Mat.pat [] [(0, (.d (.list 1 (a0.map (eI .i64))))), (1, (.d (.int .i64 a1))), (13, (.d (.bool (!r1))))] [] hB (by rfl) (by rfl) (by rfl)) ?_
  refine AWp.cond (b := (!r1)) (by rfl) (fun hg2 => ?_) (fun hg2 => ?_)
  · replace h := ite_t hg2 h
    refine AWp.seq ?_
    refine AWp.region (OpJs.cons (OpJ.assign (ltN hN rfl) Opd.nils)
      (OpJs.cons (OpJ.assign (ltN hN rfl) (Opd.int .i64 (1)))
      (OpJs.nil))) (by rfl) (by rfl) ?_
    refine seqQ_n ?_
    refine AWp.ghost (Mat.pat [] [(4, .nils), (5, (.d (.int .i64 (1 : Int))))] [] hB (by rfl) (by rfl) (by rfl)) ?_
    refine AWp.ret ?_
    refine seqQ_r ?_
    obtain rfl := Option.some.inj h
    exact ⟨.inl rfl, _, _, (Mat.trans (Mat.coeP (Ts := [(4, (.d (.list 1 (([] : List Int).map (eI .i64)))))]) (Bs := []) (TwT.cons (x := .nils) (by rfl) (Tw.leaf ⟨_, (Co.nils 1), rfl⟩) TwT.nil) TwB.nil) (Mat.pat [] [(4, (.d (.list 1 (([] : List Int).map (eI .i64))))), (5, (.d (.int .i64 (1 : Int))))] [] hB (by rfl) (by rfl) (by rfl))), [(.d (.list 1 (([] : List Int).map (eI .i64)))), (.d (.int .i64 (1 : Int)))], (Res.tmp (by rfl) (by rfl) (Res.tmp (by rfl) (by rfl) Res.nil)), rfl, by rfl, by rfl, by rfl⟩
  · replace h := ite_f hg2 h
    refine AWp.skip ?_
    refine seqQ_n ?_
    refine AWp.seq ?_
    refine AWp.region (OpJs.cons (OpJ.assign (ltN hN rfl) Opd.nils)
      (OpJs.nil)) (by rfl) (by rfl) ?_
    refine seqQ_n ?_
    refine AWp.ghost (Mat.pat [] [(0, (.d (.list 1 (a0.map (eI .i64))))), (1, (.d (.int .i64 a1))), (6, .nils)] [] hB (by rfl) (by rfl) (by rfl)) ?_
    refine AWp.seq ?_
    refine AWp.seq ?_
    refine AWp.region (OpJs.cons (OpJ.move (ltN hN rfl) (Opd.tmp 0 (.d (.list 1 (a0.map (eI .i64))))))
      (OpJs.cons (OpJ.val (v' := (.d (.int .i64 (a0.length : Int)))) (by simp) (OpJ.lenD Try.underlying22 (ltN hN rfl) (Opd.tmp 14 (.d (.list 1 (a0.map (eI .i64)))))))
      (OpJs.cons (OpJ.move (ltN hN rfl) (Opd.int .i64 (0)))
      (OpJs.nil)))) (by rfl) (by rfl) ?_
    refine seqQ_n ?_
    refine AWp.ghost (Mat.pat [] [(1, (.d (.int .i64 a1))), (6, .nils), (14, (.d (.list 1 (a0.map (eI .i64))))), (15, (.d (.int .i64 (a0.length : Int)))), (16, (.d (.int .i64 (0 : Int))))] [] hB (by rfl) (by rfl) (by rfl)) ?_
    refine AWp.block ?_
    obtain ⟨x45, hx46, h⟩ := bindS h
    refine AWp.ghost (Mat.trans (Mat.beginP (n := 3006) (e := 3) (sz := 1) (Ts := [(6, (.sref 3006 1 0 0))]) (Bs := []) hB (by decide) (by rfl) (by decide) (TwT.cons (x := .nils) (by rfl) (Tw.leaf ⟨rfl, rfl⟩) TwT.nil) TwB.nil) (Mat.pat [] ((fun s3 : Int × (List Int) => ([(1, (.d (.int .i64 a1))), (6, (.sref 3006 1 0 s3.2.length)), (14, (.d (.list 1 (a0.map (eI .i64))))), (15, (.d (.int .i64 (a0.length : Int)))), (16, (.d (.int .i64 s3.1)))] : EL)) ((0 : Int), ([] : List Int))) ((fun s3 : Int × (List Int) => ([(3006, some (.row 3 1 (s3.2.map (eI .i64))))] : OL)) ((0 : Int), ([] : List Int))) hB (by rfl) (by rfl) (by rfl))) ?_
    refine AWp.loopS (percentile_Rates_L0 a0 a1) (fun s3 : Int × (List Int) => ([(1, (.d (.int .i64 a1))), (6, (.sref 3006 1 0 s3.2.length)), (14, (.d (.list 1 (a0.map (eI .i64))))), (15, (.d (.int .i64 (a0.length : Int)))), (16, (.d (.int .i64 s3.1)))] : EL)) (fun s3 : Int × (List Int) => ([(3006, some (.row 3 1 (s3.2.map (eI .i64))))] : OL)) (fun (x : (Int) ⊕ ((List Int))) e E' O' => match x with | (.inl p30) => e = .ret ∧ Mat B E' O' ([(4, .nils), (5, (.d (.int .i64 p30)))] : EL) ([] : OL) | (.inr p31) => e = .exit 0 ∧ Mat B E' O' ([(6, (.sref 3006 1 0 p31.length))] : EL) ([(3006, some (.row 3 1 (p31.map (eI .i64))))] : OL)) hx46 (fun s3 y h => ?_) (fun e E' O' hR => ?_)
    · unfold percentile_Rates_L0 at h
      show AWp _ _ _ _ ([(1, (.d (.int .i64 a1))), (6, (.sref 3006 1 0 s3.2.length)), (14, (.d (.list 1 (a0.map (eI .i64))))), (15, (.d (.int .i64 (a0.length : Int)))), (16, (.d (.int .i64 s3.1)))] : EL) ([(3006, some (.row 3 1 (s3.2.map (eI .i64))))] : OL)
      refine AWp.seq ?_
      refine AWp.region (OpJs.cons (OpJ.lss (ltN hN rfl) (Opd.tmp 16 (.d (.int .i64 s3.1))) (Opd.tmp 15 (.d (.int .i64 (a0.length : Int)))))
        (OpJs.nil)) (by rfl) (by rfl) ?_
      refine seqQ_n ?_
      refine AWp.ghost (Mat.pat [] [(1, (.d (.int .i64 a1))), (6, (.sref 3006 1 0 s3.2.length)), (14, (.d (.list 1 (a0.map (eI .i64))))), (15, (.d (.int .i64 (a0.length : Int)))), (16, (.d (.int .i64 s3.1))), (17, (.d (.bool (decide (s3.1 < (a0.length : Int))))))] [(3006, some (.row 3 1 (s3.2.map (eI .i64))))] hB (by rfl) (by rfl) (by rfl)) ?_
      refine AWp.seq ?_
      refine AWp.cond (b := (decide (s3.1 < (a0.length : Int)))) (by rfl) (fun hg32 => ?_) (fun hg32 => ?_)
      · replace h := ite_t hg32 h
        refine AWp.skip ?_
        refine seqQ_n ?_
        refine AWp.seq ?_
        refine AWp.cut h (fun m38 : (List Int) => ([(1, (.d (.int .i64 a1))), (6, (.sref 3006 1 0 m38.length)), (14, (.d (.list 1 (a0.map (eI .i64))))), (15, (.d (.int .i64 (a0.length : Int)))), (16, (.d (.int .i64 s3.1)))] : EL)) (fun m38 : (List Int) => ([(3006, some (.row 3 1 (m38.map (eI .i64))))] : OL)) (fun m38 h E' O' hmat => ?_) (fun j39 hjj39 h => ?_)
        · refine seqQ_n ?_
          refine AWp.ghost hmat ?_
          refine AWp.region (OpJs.cons (OpJ.add (ltN hN rfl) (Opd.tmp 16 (.d (.int .i64 s3.1))) (Opd.int .i64 (1)))
            (OpJs.cons (OpJ.move (ltN hN rfl) (Opd.tmp 35 (.d (.int .i64 (w64 (s3.1 + (1 : Int)))))))
            (OpJs.nil))) (by rfl) (by rfl) ?_
          obtain rfl := Option.some.inj h
          exact ⟨rfl, (Mat.trans (Mat.pat [] [(1, (.d (.int .i64 a1))), (6, (.sref 3006 1 0 m38.length)), (14, (.d (.list 1 (a0.map (eI .i64))))), (15, (.d (.int .i64 (a0.length : Int)))), (16, (.d (.int .i64 (w64 (s3.1 + (1 : Int))))))] [(3006, some (.row 3 1 (m38.map (eI .i64))))] hB (by rfl) (by rfl) (by rfl)) (Mat.pat [] ((fun s3 : Int × (List Int) => ([(1, (.d (.int .i64 a1))), (6, (.sref 3006 1 0 s3.2.length)), (14, (.d (.list 1 (a0.map (eI .i64))))), (15, (.d (.int .i64 (a0.length : Int)))), (16, (.d (.int .i64 s3.1)))] : EL)) ((w64 (s3.1 + (1 : Int))), m38)) ((fun s3 : Int × (List Int) => ([(3006, some (.row 3 1 (s3.2.map (eI .i64))))] : OL)) ((w64 (s3.1 + (1 : Int))), m38)) hB (by rfl) (by rfl) (by rfl)))⟩
        · refine AWp.block ?_
          refine AWp.seq ?_
          obtain ⟨x40, hx40, h⟩ := bindS h
          refine AWp.region (OpJs.cons (OpJ.indexD (el := (.int .i64 x40)) Try.underlying22 tyS3 (idx_some hx40).1 (get_map (eI .i64) (idx_some hx40).2) (ltN hN rfl) (Opd.tmp 14 (.d (.list 1 (a0.map (eI .i64))))) (Opd.tmp 16 (.d (.int .i64 s3.1))))
            (OpJs.cons (OpJ.loadD tyS3 (by rfl) (by rfl) (ltN hN rfl) (Opd.tmp 18 (.dptr (.int .i64 x40))))
            (OpJs.cons (OpJ.assign (ltN hN rfl) (Opd.tmp 19 (.d (.int .i64 x40))))
            (OpJs.nil)))) (by rfl) (by rfl) ?_
          refine seqQ_n ?_
          refine AWp.ghost (Mat.pat [] [(1, (.d (.int .i64 a1))), (6, (.sref 3006 1 0 s3.2.length)), (8, (.d (.int .i64 x40))), (14, (.d (.list 1 (a0.map (eI .i64))))), (15, (.d (.int .i64 (a0.length : Int)))), (16, (.d (.int .i64 s3.1)))] [(3006, some (.row 3 1 (s3.2.map (eI .i64))))] hB (by rfl) (by rfl) (by rfl)) ?_
          refine AWp.seq ?_
          refine AWp.seq ?_
          refine AWp.region (OpJs.cons (OpJ.move (ltN hN rfl) (Opd.tmp 8 (.d (.int .i64 x40))))
            (OpJs.cons (OpJ.eqlI (ltN hN rfl) (Opd.tmp 20 (.d (.int .i64 x40))) (Opd.int .i64 (-1)))
            (OpJs.nil))) (by rfl) (by rfl) ?_
          refine seqQ_n ?_
          refine AWp.ghost (Mat.pat [] [(1, (.d (.int .i64 a1))), (6, (.sref 3006 1 0 s3.2.length)), (8, (.d (.int .i64 x40))), (14, (.d (.list 1 (a0.map (eI .i64))))), (15, (.d (.int .i64 (a0.length : Int)))), (16, (.d (.int .i64 s3.1))), (21, (.d (.bool (x40 == (-1 : Int)))))] [(3006, some (.row 3 1 (s3.2.map (eI .i64))))] hB (by rfl) (by rfl) (by rfl)) ?_
          refine AWp.cond (b := (x40 == (-1 : Int))) (by rfl) (fun hg41 => ?_) (fun hg41 => ?_)
          · replace h := ite_t hg41 h
            refine AWp.exit ?_
            refine seqQ_e ?_
            refine blkQ_hit ?_
            exact hjj39 _ h _ _ (Mat.pat [] ((fun m38 : (List Int) => ([(1, (.d (.int .i64 a1))), (6, (.sref 3006 1 0 m38.length)), (14, (.d (.list 1 (a0.map (eI .i64))))), (15, (.d (.int .i64 (a0.length : Int)))), (16, (.d (.int .i64 s3.1)))] : EL)) s3.2) ((fun m38 : (List Int) => ([(3006, some (.row 3 1 (m38.map (eI .i64))))] : OL)) s3.2) hB (by rfl) (by rfl) (by rfl))
          · replace h := ite_f hg41 h
            refine AWp.skip ?_
            refine seqQ_n ?_
            refine AWp.seq ?_
            obtain ⟨r42, hr42, h⟩ := bindS h
            refine AWp.region (OpJs.cons (OpJ.move (ltN hN rfl) (Opd.tmp 8 (.d (.int .i64 x40))))
              (OpJs.cons (OpJ.move (ltN hN rfl) (Opd.tmp 1 (.d (.int .i64 a1))))
              (OpJs.cons (OpJ.callFn hB fnOk20 (percentile_Rate_ac x40 a1 r42 hr42) [] (by kernel_rfl) (ltN hN rfl) (by kernel_rfl) (OpdL.cons (Opd.tmp 23 (.d (.int .i64 x40))) (OpdL.cons (Opd.tmp 24 (.d (.int .i64 a1))) OpdL.nil)))
              (OpJs.cons (OpJ.move (ltN hN rfl) (Opd.tmp 25 (.tup [(.d (.int .i64 r42.1)), (.d (.int .i64 r42.2))])))
              (OpJs.cons (OpJ.extract (v := (.d (.int .i64 r42.1))) (by rfl) rfl (ltN hN rfl) (Opd.tmp 22 (.tup [(.d (.int .i64 r42.1)), (.d (.int .i64 r42.2))])))
              (OpJs.cons (OpJ.extract (v := (.d (.int .i64 r42.2))) (by rfl) rfl (ltN hN rfl) (Opd.tmp 22 (.tup [(.d (.int .i64 r42.1)), (.d (.int .i64 r42.2))])))
              (OpJs.cons (OpJ.assign (ltN hN rfl) (Opd.tmp 26 (.d (.int .i64 r42.1))))
              (OpJs.cons (OpJ.assign (ltN hN rfl) (Opd.tmp 27 (.d (.int .i64 r42.2))))
              (OpJs.nil))))))))) (by rfl) (by rfl) ?_
            refine seqQ_n ?_
            refine AWp.ghost (Mat.pat [] [(1, (.d (.int .i64 a1))), (6, (.sref 3006 1 0 s3.2.length)), (9, (.d (.int .i64 r42.1))), (10, (.d (.int .i64 r42.2))), (14, (.d (.list 1 (a0.map (eI .i64))))), (15, (.d (.int .i64 (a0.length : Int)))), (16, (.d (.int .i64 s3.1)))] [(3006, some (.row 3 1 (s3.2.map (eI .i64))))] hB (by rfl) (by rfl) (by rfl)) ?_
            refine AWp.seq ?_
            refine AWp.seq ?_
            refine AWp.region (OpJs.cons (OpJ.move (ltN hN rfl) (Opd.tmp 10 (.d (.int .i64 r42.2))))
              (OpJs.cons (OpJ.neqI (ltN hN rfl) (Opd.tmp 28 (.d (.int .i64 r42.2))) (Opd.int .i64 (0)))
              (OpJs.nil))) (by rfl) (by rfl) ?_
            refine seqQ_n ?_
            refine AWp.ghost (Mat.pat [] [(1, (.d (.int .i64 a1))), (6, (.sref 3006 1 0 s3.2.length)), (9, (.d (.int .i64 r42.1))), (10, (.d (.int .i64 r42.2))), (14, (.d (.list 1 (a0.map (eI .i64))))), (15, (.d (.int .i64 (a0.length : Int)))), (16, (.d (.int .i64 s3.1))), (29, (.d (.bool (r42.2 != (0 : Int)))))] [(3006, some (.row 3 1 (s3.2.map (eI .i64))))] hB (by rfl) (by rfl) (by rfl)) ?_
            refine AWp.cond (b := (r42.2 != (0 : Int))) (by rfl) (fun hg43 => ?_) (fun hg43 => ?_)
            · replace h := ite_t hg43 h
              refine AWp.seq ?_
              refine AWp.region (OpJs.cons (OpJ.move (ltN hN rfl) (Opd.tmp 10 (.d (.int .i64 r42.2))))
                (OpJs.cons (OpJ.assign (ltN hN rfl) Opd.nils)
                (OpJs.cons (OpJ.assign (ltN hN rfl) (Opd.tmp 30 (.d (.int .i64 r42.2))))
                (OpJs.nil)))) (by rfl) (by rfl) ?_
              refine seqQ_n ?_
              refine AWp.ghost (Mat.pat [] [(4, .nils), (5, (.d (.int .i64 r42.2)))] [] hB (by rfl) (by rfl) (by rfl)) ?_
              refine AWp.ret ?_
              refine seqQ_r ?_
              refine blkQ_r ?_
              refine seqQ_r ?_
              obtain rfl := Option.some.inj h
              exact ⟨(fun hc => by cases hc), rfl, (Mat.pat [] ((fun p30 : Int => ([(4, .nils), (5, (.d (.int .i64 p30)))] : EL)) r42.2) ((fun p30 : Int => ([] : OL)) r42.2) hB (by rfl) (by rfl) (by rfl))⟩
            · replace h := ite_f hg43 h
              refine AWp.skip ?_
              refine seqQ_n ?_
              obtain ⟨hc44, h⟩ := chk_some h
              refine AWp.region (OpJs.cons (OpJ.move (ltN hN rfl) (Opd.tmp 6 (.sref 3006 1 0 s3.2.length)))
                (OpJs.cons (OpJ.move (ltN hN rfl) (Opd.tmp 9 (.d (.int .i64 r42.1))))
                (OpJs.cons (OpJ.buildSlice Try.underlying22 tyS3 tyZD3 (by rfl) (by decide) (by decide) (Opds.cons (Opd.tmp 32 (.d (.int .i64 r42.1))) Opds.nil) (by kernel_rfl) (es := ([(.int .i64 r42.1)] : List D)) (by rfl) (by rfl) (by kernel_rfl) (by simp) (ltN hN rfl))
                (OpJs.cons (OpJ.append hB Try.underlying22 tyE3 (nm := 1034) (by decide) (es := s3.2.map (eI .i64)) (ys := ([r42.1] : List Int).map (eI .i64)) (es' := (s3.2 ++ ([r42.1] : List Int)).map (eI .i64)) (len := (s3.2 ++ ([r42.1] : List Int)).length) (by simp) (by simp) (map_sz (f := (eI .i64)) (fun _ => rfl)) (by rw [List.length_map]; exact lim_mulN hc44 (by decide)) (by rw [List.length_map]; exact lim_leN hc44) (ltN hN rfl) (by simp) (Opd.tmp 31 (.sref 3006 1 0 s3.2.length)) (Opd.tmp 33 (.d (.list 1 (([r42.1] : List Int).map (eI .i64))))))
                (OpJs.cons (OpJ.assign (ltN hN rfl) (Opd.tmp 34 (.sref 1034 1 0 ((s3.2 ++ ([r42.1] : List Int)).length))))
                (OpJs.nil)))))) (by rfl) (by rfl) ?_
              refine blkQ_n ?_
              exact hjj39 _ h _ _ (Mat.trans (Mat.pat [] [(1, (.d (.int .i64 a1))), (6, (.sref 1034 1 0 ((s3.2 ++ ([r42.1] : List Int)).length))), (14, (.d (.list 1 (a0.map (eI .i64))))), (15, (.d (.int .i64 (a0.length : Int)))), (16, (.d (.int .i64 s3.1)))] [(1034, some (.row 3 1 ((s3.2 ++ ([r42.1] : List Int)).map (eI .i64))))] hB (by rfl) (by rfl) (by rfl)) (Mat.pat [(3006, 1034)] ((fun m38 : (List Int) => ([(1, (.d (.int .i64 a1))), (6, (.sref 3006 1 0 m38.length)), (14, (.d (.list 1 (a0.map (eI .i64))))), (15, (.d (.int .i64 (a0.length : Int)))), (16, (.d (.int .i64 s3.1)))] : EL)) (s3.2 ++ ([r42.1] : List Int))) ((fun m38 : (List Int) => ([(3006, some (.row 3 1 (m38.map (eI .i64))))] : OL)) (s3.2 ++ ([r42.1] : List Int))) hB (by rfl) (by rfl) (by rfl)))
      · replace h := ite_f hg32 h
        refine AWp.exit ?_
        refine seqQ_e ?_
        obtain rfl := Option.some.inj h
        exact ⟨(fun hc => by cases hc), rfl, (Mat.pat [] ((fun p31 : (List Int) => ([(6, (.sref 3006 1 0 p31.length))] : EL)) s3.2) ((fun p31 : (List Int) => ([(3006, some (.row 3 1 (p31.map (eI .i64))))] : OL)) s3.2) hB (by rfl) (by rfl) (by rfl))⟩
    · rcases x45 with p30 | p31
      · obtain ⟨rfl, hmat⟩ := hR
        refine blkQ_r ?_
        refine seqQ_r ?_
        obtain rfl := Option.some.inj h
        exact ⟨.inl rfl, _, _, (Mat.trans hmat (Mat.trans (Mat.coeP (Ts := [(4, (.d (.list 1 (([] : List Int).map (eI .i64)))))]) (Bs := []) (TwT.cons (x := .nils) (by rfl) (Tw.leaf ⟨_, (Co.nils 1), rfl⟩) TwT.nil) TwB.nil) (Mat.pat [] [(4, (.d (.list 1 (([] : List Int).map (eI .i64))))), (5, (.d (.int .i64 p30)))] [] hB (by rfl) (by rfl) (by rfl)))), [(.d (.list 1 (([] : List Int).map (eI .i64)))), (.d (.int .i64 p30))], (Res.tmp (by rfl) (by rfl) (Res.tmp (by rfl) (by rfl) Res.nil)), rfl, by rfl, by rfl, by rfl⟩
      · obtain ⟨rfl, hmat⟩ := hR
        refine blkQ_hit ?_
        refine seqQ_n ?_
        refine AWp.ghost hmat ?_
        refine AWp.seq ?_
        refine AWp.region (OpJs.cons (OpJ.move (ltN hN rfl) (Opd.tmp 6 (.sref 3006 1 0 p31.length)))
          (OpJs.cons (OpJ.assign (ltN hN rfl) (Opd.tmp 36 (.sref 3006 1 0 p31.length)))
          (OpJs.cons (OpJ.assign (ltN hN rfl) (Opd.int .i64 (0)))
          (OpJs.nil)))) (by rfl) (by rfl) ?_
        refine seqQ_n ?_
        refine AWp.ghost (Mat.pat [] [(4, (.sref 3006 1 0 p31.length)), (5, (.d (.int .i64 (0 : Int))))] [(3006, some (.row 3 1 (p31.map (eI .i64))))] hB (by rfl) (by rfl) (by rfl)) ?_
        refine AWp.ret ?_
        obtain rfl := Option.some.inj h
        exact ⟨.inl rfl, _, _, (Mat.trans (Mat.freezeP (n := 3006) (e := 3) (sz := 1) (es := p31.map (eI .i64)) (Ts := [(4, (.d (.list 1 (p31.map (eI .i64)))))]) (Bs := []) (by rfl) (TwT.cons (x := (.sref 3006 1 0 p31.length)) (by rfl) (FrzL.all (by first | rfl | (simp; done) | (simp; omega))) TwT.nil) TwB.nil) (Mat.pat [] [(4, (.d (.list 1 (p31.map (eI .i64))))), (5, (.d (.int .i64 (0 : Int))))] [] hB (by rfl) (by rfl) (by rfl))), [(.d (.list 1 (p31.map (eI .i64)))), (.d (.int .i64 (0 : Int)))], (Res.tmp (by rfl) (by rfl) (Res.tmp (by rfl) (by rfl) Res.nil)), rfl, by rfl, by rfl, by rfl⟩


end Go.Proofs.Ytgbfjigliajbkaa
