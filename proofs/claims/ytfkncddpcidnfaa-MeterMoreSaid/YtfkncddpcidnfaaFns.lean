/- Printed by gen.py: the Go functions as plain functions, and that the code does what they say. -/
import Derived.Test.YtfkncddpcidnfaaChecked
import Derived.Test.YtfkncddpcidnfaaVcN
import Derived.KernelRfl
namespace Go.Proofs.Ytfkncddpcidnfaa
open Go Go.Vc
structure api_Bucket where
  fLevel : Int
  fRate : Int
  fBurst : Int
def e_api_Bucket (x : api_Bucket) : D := .st [(.int .i64 x.fLevel), (.int .i64 x.fRate), (.int .i64 x.fBurst)]

theorem fnOk7 : FnOk Try.prog 7 := ⟨by kernel_rfl⟩

theorem tyZS26 : TyZ Try.prog 26 (.st [(.d (.int .i64 (0 : Int))), (.d (.int .i64 (0 : Int))), (.d (.int .i64 (0 : Int)))]) := ⟨by kernel_rfl, fun w => by kernel_rfl⟩

theorem tyZ26 : TyZ Try.prog 26 (.d (.st [(.int .i64 (0 : Int)), (.int .i64 (0 : Int)), (.int .i64 (0 : Int))])) := ⟨by kernel_rfl, fun w => by kernel_rfl⟩

theorem tyS26 : TyS Try.prog 26 3 true := ⟨by kernel_rfl, by kernel_rfl⟩

theorem tyE3 : TyE Try.prog 3 1 8 := ⟨by kernel_rfl, by decide⟩

theorem tyZD3 : TyZ Try.prog 3 (.d (.int .i64 (0 : Int))) := ⟨by kernel_rfl, fun w => by kernel_rfl⟩

theorem tyS3 : TyS Try.prog 3 1 false := ⟨by kernel_rfl, by kernel_rfl⟩

theorem fnOk11 : FnOk Try.prog 11 := ⟨by kernel_rfl⟩

theorem fnOk8 : FnOk Try.prog 8 := ⟨by kernel_rfl⟩

theorem held26 : Program.stoodInHeld Try.prog 26 = false := by kernel_rfl

theorem eqg26 : Program.eqGuardType Try.prog (Program.depth Try.prog) 26 = false := by kernel_rfl

theorem fnOk9 : FnOk Try.prog 9 := ⟨by kernel_rfl⟩

theorem fnOk6 : FnOk Try.prog 6 := ⟨by kernel_rfl⟩

theorem fnOk10 : FnOk Try.prog 10 := ⟨by kernel_rfl⟩

noncomputable def exchangepointmake_Mod (a0 : Int) (a1 : Int) : Option (Int) :=
  chk (decide (a1 ≠ 0)) <|
  jn (fun m3 : Int =>
  some m3) (fun j4 =>
  (if (decide ((Int.tmod a0 a1) < (0 : Int))) = true then
  j4 (w64 ((Int.tmod a0 a1) + a1))
  else
  j4 (Int.tmod a0 a1)))
set_option maxHeartbeats 4000000 in
set_option maxRecDepth 100000 in
theorem exchangepointmake_Mod_ac (a0 : Int) (a1 : Int) (r : Int) (h : exchangepointmake_Mod a0 a1 = some r) : AC Try.prog 7 [(.d (.int .i64 a0)), (.d (.int .i64 a1))] [] (.d (.int .i64 r)) [] := by
  refine AC.of_code2 Try.func7 rfl rfl (Nat.le_of_ble_eq_true (by rfl)) fun B hB hN => ?_
  delta exchangepointmake_Mod at h
  refine AWp.seq ?_
  refine AWp.region (OpJs.cons (OpJ.assign (ltN hN rfl) (Opd.int .i64 (0)))
  (OpJs.nil)) (by rfl) (by rfl) ?_
  refine seqQ_n ?_
  refine AWp.ghost (Mat.pat [] [(0, (.d (.int .i64 a0))), (1, (.d (.int .i64 a1)))] [] hB (by rfl) (by rfl) (by rfl)) ?_
  refine AWp.seq ?_
  obtain ⟨hc1, h⟩ := chk_some h
  refine AWp.region (OpJs.cons (OpJ.move (ltN hN rfl) (Opd.tmp 0 (.d (.int .i64 a0))))
  (OpJs.cons (OpJ.move (ltN hN rfl) (Opd.tmp 1 (.d (.int .i64 a1))))
  (OpJs.cons (OpJ.rem (ltN hN rfl) (Opd.tmp 6 (.d (.int .i64 a0))) (Opd.tmp 7 (.d (.int .i64 a1))) (of_decide_eq_true hc1))
  (OpJs.cons (OpJ.assign (ltN hN rfl) (Opd.tmp 8 (.d (.int .i64 (Int.tmod a0 a1)))))
  (OpJs.nil))))) (by rfl) (by rfl) ?_
  refine seqQ_n ?_
  refine AWp.ghost (Mat.pat [] [(1, (.d (.int .i64 a1))), (5, (.d (.int .i64 (Int.tmod a0 a1))))] [] hB (by rfl) (by rfl) (by rfl)) ?_
  refine AWp.seq ?_
  refine AWp.seq ?_
  refine AWp.region (OpJs.cons (OpJ.move (ltN hN rfl) (Opd.tmp 5 (.d (.int .i64 (Int.tmod a0 a1)))))
  (OpJs.cons (OpJ.lss (ltN hN rfl) (Opd.tmp 9 (.d (.int .i64 (Int.tmod a0 a1)))) (Opd.int .i64 (0)))
  (OpJs.nil))) (by rfl) (by rfl) ?_
  refine seqQ_n ?_
  refine AWp.ghost (Mat.pat [] [(1, (.d (.int .i64 a1))), (5, (.d (.int .i64 (Int.tmod a0 a1)))), (10, (.d (.bool (decide ((Int.tmod a0 a1) < (0 : Int))))))] [] hB (by rfl) (by rfl) (by rfl)) ?_
  refine AWp.cut h (fun m3 : Int => ([(5, (.d (.int .i64 m3)))] : EL)) (fun m3 : Int => ([] : OL)) (fun m3 h E' O' hmat => ?_) (fun j4 hjj4 h => ?_)
  · refine seqQ_n ?_
    refine AWp.ghost hmat ?_
    refine AWp.seq ?_
    refine AWp.region (OpJs.cons (OpJ.move (ltN hN rfl) (Opd.tmp 5 (.d (.int .i64 m3))))
      (OpJs.cons (OpJ.assign (ltN hN rfl) (Opd.tmp 14 (.d (.int .i64 m3))))
      (OpJs.nil))) (by rfl) (by rfl) ?_
    refine seqQ_n ?_
    refine AWp.ghost (Mat.pat [] [(4, (.d (.int .i64 m3)))] [] hB (by rfl) (by rfl) (by rfl)) ?_
    refine AWp.ret ?_
    obtain rfl := Option.some.inj h
    exact ⟨.inl rfl, _, _, (Mat.pat [] [(4, (.d (.int .i64 m3)))] [] hB (by rfl) (by rfl) (by rfl)), [(.d (.int .i64 m3))], (Res.tmp (by rfl) (by rfl) Res.nil), rfl, by rfl, by rfl, by rfl⟩
  · refine AWp.cond (b := (decide ((Int.tmod a0 a1) < (0 : Int)))) (by rfl) (fun hg5 => ?_) (fun hg5 => ?_)
    · replace h := ite_t hg5 h
      refine AWp.region (OpJs.cons (OpJ.move (ltN hN rfl) (Opd.tmp 5 (.d (.int .i64 (Int.tmod a0 a1)))))
        (OpJs.cons (OpJ.move (ltN hN rfl) (Opd.tmp 1 (.d (.int .i64 a1))))
        (OpJs.cons (OpJ.add (ltN hN rfl) (Opd.tmp 11 (.d (.int .i64 (Int.tmod a0 a1)))) (Opd.tmp 12 (.d (.int .i64 a1))))
        (OpJs.cons (OpJ.assign (ltN hN rfl) (Opd.tmp 13 (.d (.int .i64 (w64 ((Int.tmod a0 a1) + a1))))))
        (OpJs.nil))))) (by rfl) (by rfl) ?_
      exact hjj4 _ h _ _ (Mat.trans (Mat.pat [] [(5, (.d (.int .i64 (w64 ((Int.tmod a0 a1) + a1)))))] [] hB (by rfl) (by rfl) (by rfl)) (Mat.pat [] ((fun m3 : Int => ([(5, (.d (.int .i64 m3)))] : EL)) (w64 ((Int.tmod a0 a1) + a1))) ((fun m3 : Int => ([] : OL)) (w64 ((Int.tmod a0 a1) + a1))) hB (by rfl) (by rfl) (by rfl)))
    · replace h := ite_f hg5 h
      refine AWp.skip ?_
      exact hjj4 _ h _ _ (Mat.pat [] ((fun m3 : Int => ([(5, (.d (.int .i64 m3)))] : EL)) (Int.tmod a0 a1)) ((fun m3 : Int => ([] : OL)) (Int.tmod a0 a1)) hB (by rfl) (by rfl) (by rfl))

noncomputable def meter_Tick (a0 : api_Bucket) : Option (api_Bucket) :=
  some (api_Bucket.mk (minI (w64 (a0.fLevel + a0.fRate)) a0.fBurst) a0.fRate a0.fBurst)
set_option maxHeartbeats 4000000 in
set_option maxRecDepth 100000 in
theorem meter_Tick_ac (a0 : api_Bucket) (r : api_Bucket) (h : meter_Tick a0 = some r) : AC Try.prog 11 [(.d (e_api_Bucket a0))] [] (.d (e_api_Bucket r)) [] := by
  refine AC.of_code2 Try.func11 rfl rfl (Nat.le_of_ble_eq_true (by rfl)) fun B hB hN => ?_
  delta meter_Tick at h
  refine AWp.seq ?_
  refine AWp.region (OpJs.cons (OpJ.box hB (nm := 1001) (by decide) (by simp) rfl (ltN hN rfl) (Opd.tmp 0 (.d (e_api_Bucket a0))))
  (OpJs.cons (OpJ.alloc hB tyZ26 (nm := 1002) (by decide) (ltN hN rfl))
  (OpJs.nil))) (by rfl) (by rfl) ?_
  refine seqQ_n ?_
  refine AWp.ghost (Mat.pat [] [(1, (.ptr 1001 0 [])), (2, (.ptr 1002 0 []))] [(1001, some (.box 26 (.d (e_api_Bucket a0)))), (1002, some (.box 26 (.d (.st [(.int .i64 (0 : Int)), (.int .i64 (0 : Int)), (.int .i64 (0 : Int))]))))] hB (by rfl) (by rfl) (by rfl)) ?_
  refine AWp.seq ?_
  refine AWp.region (OpJs.cons (OpJ.val (v' := (.ptr 1001 0 [0])) (by rfl) (OpJ.fieldP Try.underlying26 (by rfl) (o := 0) (by rfl) tyS3 (by decide) (obj := (.box 26 (.d (e_api_Bucket a0)))) (ltN hN rfl) (Opd.tmp 1 (.ptr 1001 0 []))))
  (OpJs.cons (OpJ.loadB (bt := 26) (c := (.d (e_api_Bucket a0))) (v := (.d (.int .i64 a0.fLevel))) tyS3 (At.dst1 (f := (.int .i64 a0.fLevel)) (by rfl) (by rfl) (At.here _) (by first | rfl | omega)) (by rfl) (by rfl) rfl (ltN hN rfl) (Opd.tmp 3 (.ptr 1001 0 [0])))
  (OpJs.cons (OpJ.val (v' := (.ptr 1001 1 [1])) (by rfl) (OpJ.fieldP Try.underlying26 (by rfl) (o := 1) (by rfl) tyS3 (by decide) (obj := (.box 26 (.d (e_api_Bucket a0)))) (ltN hN rfl) (Opd.tmp 1 (.ptr 1001 0 []))))
  (OpJs.cons (OpJ.loadB (bt := 26) (c := (.d (e_api_Bucket a0))) (v := (.d (.int .i64 a0.fRate))) tyS3 (At.dst1 (f := (.int .i64 a0.fRate)) (by rfl) (by rfl) (At.here _) (by first | rfl | omega)) (by rfl) (by rfl) rfl (ltN hN rfl) (Opd.tmp 5 (.ptr 1001 1 [1])))
  (OpJs.cons (OpJ.add (ltN hN rfl) (Opd.tmp 4 (.d (.int .i64 a0.fLevel))) (Opd.tmp 6 (.d (.int .i64 a0.fRate))))
  (OpJs.cons (OpJ.val (v' := (.ptr 1001 2 [2])) (by rfl) (OpJ.fieldP Try.underlying26 (by rfl) (o := 2) (by rfl) tyS3 (by decide) (obj := (.box 26 (.d (e_api_Bucket a0)))) (ltN hN rfl) (Opd.tmp 1 (.ptr 1001 0 []))))
  (OpJs.cons (OpJ.loadB (bt := 26) (c := (.d (e_api_Bucket a0))) (v := (.d (.int .i64 a0.fBurst))) tyS3 (At.dst1 (f := (.int .i64 a0.fBurst)) (by rfl) (by rfl) (At.here _) (by first | rfl | omega)) (by rfl) (by rfl) rfl (ltN hN rfl) (Opd.tmp 8 (.ptr 1001 2 [2])))
  (OpJs.cons (OpJ.min (ltN hN rfl) (Opd.tmp 7 (.d (.int .i64 (w64 (a0.fLevel + a0.fRate))))) (Opd.tmp 9 (.d (.int .i64 a0.fBurst))))
  (OpJs.cons (OpJ.val (v' := (.ptr 1001 0 [0])) (by rfl) (OpJ.fieldP Try.underlying26 (by rfl) (o := 0) (by rfl) tyS3 (by decide) (obj := (.box 26 (.d (e_api_Bucket a0)))) (ltN hN rfl) (Opd.tmp 1 (.ptr 1001 0 []))))
  (OpJs.cons (OpJ.storeB (bt := 26) (c := (.d (e_api_Bucket a0))) (v := (.d (.int .i64 (minI (w64 (a0.fLevel + a0.fRate)) a0.fBurst)))) (c' := (.d (.st [(.int .i64 (minI (w64 (a0.fLevel + a0.fRate)) a0.fBurst)), (.int .i64 a0.fRate), (.int .i64 a0.fBurst)]))) tyS3 (SetAt.dst1 (f := (.int .i64 a0.fLevel)) (f' := (.int .i64 (minI (w64 (a0.fLevel + a0.fRate)) a0.fBurst))) (by rfl) (by rfl) (SetAt.here _ _) (by rfl) (by rfl) (by first | rfl | omega)) (by rfl) (by rfl) (by simp) rfl (Opd.tmp 11 (.ptr 1001 0 [0])) (Opd.tmp 10 (.d (.int .i64 (minI (w64 (a0.fLevel + a0.fRate)) a0.fBurst)))))
  (OpJs.nil))))))))))) (by rfl) (by rfl) ?_
  refine seqQ_n ?_
  refine AWp.ghost (Mat.pat [] [(1, (.ptr 1001 0 [])), (2, (.ptr 1002 0 []))] [(1001, some (.box 26 (.d (.st [(.int .i64 (minI (w64 (a0.fLevel + a0.fRate)) a0.fBurst)), (.int .i64 a0.fRate), (.int .i64 a0.fBurst)])))), (1002, some (.box 26 (.d (.st [(.int .i64 (0 : Int)), (.int .i64 (0 : Int)), (.int .i64 (0 : Int))]))))] hB (by rfl) (by rfl) (by rfl)) ?_
  refine AWp.seq ?_
  refine AWp.region (OpJs.cons (OpJ.loadB (bt := 26) (c := (.d (.st [(.int .i64 (minI (w64 (a0.fLevel + a0.fRate)) a0.fBurst)), (.int .i64 a0.fRate), (.int .i64 a0.fBurst)]))) (v := (.d (.st [(.int .i64 (minI (w64 (a0.fLevel + a0.fRate)) a0.fBurst)), (.int .i64 a0.fRate), (.int .i64 a0.fBurst)]))) tyS26 (At.here _) (by rfl) (by rfl) rfl (ltN hN rfl) (Opd.tmp 1 (.ptr 1001 0 [])))
  (OpJs.cons (OpJ.storeB (bt := 26) (c := (.d (.st [(.int .i64 (0 : Int)), (.int .i64 (0 : Int)), (.int .i64 (0 : Int))]))) (v := (.d (.st [(.int .i64 (minI (w64 (a0.fLevel + a0.fRate)) a0.fBurst)), (.int .i64 a0.fRate), (.int .i64 a0.fBurst)]))) (c' := (.d (.st [(.int .i64 (minI (w64 (a0.fLevel + a0.fRate)) a0.fBurst)), (.int .i64 a0.fRate), (.int .i64 a0.fBurst)]))) tyS26 (SetAt.here _ _) (by rfl) (by rfl) (by simp) rfl (Opd.tmp 2 (.ptr 1002 0 [])) (Opd.tmp 12 (.d (.st [(.int .i64 (minI (w64 (a0.fLevel + a0.fRate)) a0.fBurst)), (.int .i64 a0.fRate), (.int .i64 a0.fBurst)]))))
  (OpJs.nil))) (by rfl) (by rfl) ?_
  refine seqQ_n ?_
  refine AWp.ghost (Mat.pat [] [(2, (.ptr 1002 0 []))] [(1002, some (.box 26 (.d (.st [(.int .i64 (minI (w64 (a0.fLevel + a0.fRate)) a0.fBurst)), (.int .i64 a0.fRate), (.int .i64 a0.fBurst)]))))] hB (by rfl) (by rfl) (by rfl)) ?_
  refine AWp.ret ?_
  obtain rfl := Option.some.inj h
  exact ⟨.inl rfl, _, _, (Mat.pat [] [(2, (.ptr 1002 0 []))] [(1002, some (.box 26 (.d (.st [(.int .i64 (minI (w64 (a0.fLevel + a0.fRate)) a0.fBurst)), (.int .i64 a0.fRate), (.int .i64 a0.fBurst)]))))] hB (by rfl) (by rfl) (by rfl)), [(.d (.st [(.int .i64 (minI (w64 (a0.fLevel + a0.fRate)) a0.fBurst)), (.int .i64 a0.fRate), (.int .i64 a0.fBurst)]))], (Res.cell (c := (.d (.st [(.int .i64 (minI (w64 (a0.fLevel + a0.fRate)) a0.fBurst)), (.int .i64 a0.fRate), (.int .i64 a0.fBurst)]))) (by rfl) (by rfl) tyS26 (by rfl) (by rfl) (by rfl) Res.nil), rfl, by rfl, by rfl, by rfl⟩

noncomputable def meter_Run_L0 (a1 : (List Int)) (s1 : Int × (List Int) × api_Bucket) : Option ((((List Int) × api_Bucket)) ⊕ (Int × (List Int) × api_Bucket)) :=
  (if (decide (s1.1 < (a1.length : Int))) = true then
  (idx a1 s1.1).bind fun x12 =>
  (meter_Tick (api_Bucket.mk (w64 (s1.2.2.fLevel - (maxI (0 : Int) (minI x12 s1.2.2.fLevel)))) s1.2.2.fRate s1.2.2.fBurst)).bind fun r13 =>
  chk (decide ((s1.2.1 ++ ([(maxI (0 : Int) (minI x12 s1.2.2.fLevel))] : List Int)).length ≤ LIM)) <|
  some (.inr ((w64 (s1.1 + (1 : Int))), (s1.2.1 ++ ([(maxI (0 : Int) (minI x12 s1.2.2.fLevel))] : List Int)), r13))
  else
  some (.inl (s1.2.1, s1.2.2)))
noncomputable def meter_Run (a0 : api_Bucket) (a1 : (List Int)) : Option (api_Bucket × (List Int)) :=
  (loop (meter_Run_L0 a1) ((0 : Int), ([] : List Int), a0)).bind fun p10 =>
  some (p10.2, p10.1)
set_option maxHeartbeats 4000000 in
set_option maxRecDepth 100000 in
theorem meter_Run_ac (a0 : api_Bucket) (a1 : (List Int)) (r : api_Bucket × (List Int)) (h : meter_Run a0 a1 = some r) : AC Try.prog 8 [(.d (e_api_Bucket a0)), (.d (.list 1 (a1.map (eI .i64))))] [] (.tup [(.d (e_api_Bucket r.1)), (.d (.list 1 (r.2.map (eI .i64))))]) [] := by
  refine AC.of_code2 Try.func8 rfl rfl (Nat.le_of_ble_eq_true (by rfl)) fun B hB hN => ?_
  delta meter_Run at h
  refine AWp.seq ?_
  refine AWp.region (OpJs.cons (OpJ.box hB (nm := 1002) (by decide) (by simp) rfl (ltN hN rfl) (Opd.tmp 0 (.d (e_api_Bucket a0))))
  (OpJs.cons (OpJ.alloc hB tyZ26 (nm := 1004) (by decide) (ltN hN rfl))
  (OpJs.cons (OpJ.assign (ltN hN rfl) Opd.nils)
  (OpJs.nil)))) (by rfl) (by rfl) ?_
  refine seqQ_n ?_
  refine AWp.ghost (Mat.pat [] [(1, (.d (.list 1 (a1.map (eI .i64))))), (2, (.ptr 1002 0 [])), (4, (.ptr 1004 0 []))] [(1002, some (.box 26 (.d (e_api_Bucket a0)))), (1004, some (.box 26 (.d (.st [(.int .i64 (0 : Int)), (.int .i64 (0 : Int)), (.int .i64 (0 : Int))]))))] hB (by rfl) (by rfl) (by rfl)) ?_
  refine AWp.seq ?_
  refine AWp.region (OpJs.cons (OpJ.assign (ltN hN rfl) Opd.nils)
  (OpJs.nil)) (by rfl) (by rfl) ?_
  refine seqQ_n ?_
  refine AWp.ghost (Mat.pat [] [(1, (.d (.list 1 (a1.map (eI .i64))))), (2, (.ptr 1002 0 [])), (4, (.ptr 1004 0 [])), (6, .nils)] [(1002, some (.box 26 (.d (e_api_Bucket a0)))), (1004, some (.box 26 (.d (.st [(.int .i64 (0 : Int)), (.int .i64 (0 : Int)), (.int .i64 (0 : Int))]))))] hB (by rfl) (by rfl) (by rfl)) ?_
  refine AWp.seq ?_
  refine AWp.seq ?_
  refine AWp.region (OpJs.cons (OpJ.move (ltN hN rfl) (Opd.tmp 1 (.d (.list 1 (a1.map (eI .i64))))))
  (OpJs.cons (OpJ.val (v' := (.d (.int .i64 (a1.length : Int)))) (by simp) (OpJ.lenD Try.underlying22 (ltN hN rfl) (Opd.tmp 10 (.d (.list 1 (a1.map (eI .i64)))))))
  (OpJs.cons (OpJ.move (ltN hN rfl) (Opd.int .i64 (0)))
  (OpJs.nil)))) (by rfl) (by rfl) ?_
  refine seqQ_n ?_
  refine AWp.ghost (Mat.pat [] [(2, (.ptr 1002 0 [])), (4, (.ptr 1004 0 [])), (6, .nils), (10, (.d (.list 1 (a1.map (eI .i64))))), (11, (.d (.int .i64 (a1.length : Int)))), (12, (.d (.int .i64 (0 : Int))))] [(1002, some (.box 26 (.d (e_api_Bucket a0)))), (1004, some (.box 26 (.d (.st [(.int .i64 (0 : Int)), (.int .i64 (0 : Int)), (.int .i64 (0 : Int))]))))] hB (by rfl) (by rfl) (by rfl)) ?_
  refine AWp.block ?_
  obtain ⟨p10, hx16, h⟩ := bindS h
  refine AWp.ghost (Mat.trans (Mat.begin (n := 3006) (e := 3) (sz := 1) (k := 6) hB (by decide) (by rfl) (by decide) (by rfl)) (Mat.pat [] ((fun s1 : Int × (List Int) × api_Bucket => ([(2, (.ptr 1002 0 [])), (4, (.ptr 1004 0 [])), (6, (.sref 3006 1 0 s1.2.1.length)), (10, (.d (.list 1 (a1.map (eI .i64))))), (11, (.d (.int .i64 (a1.length : Int)))), (12, (.d (.int .i64 s1.1)))] : EL)) ((0 : Int), ([] : List Int), a0)) ((fun s1 : Int × (List Int) × api_Bucket => ([(1002, some (.box 26 (.d (e_api_Bucket s1.2.2)))), (1004, some (.box 26 (.d (.st [(.int .i64 (0 : Int)), (.int .i64 (0 : Int)), (.int .i64 (0 : Int))])))), (3006, some (.row 3 1 (s1.2.1.map (eI .i64))))] : OL)) ((0 : Int), ([] : List Int), a0)) hB (by rfl) (by rfl) (by rfl))) ?_
  refine AWp.loopS (meter_Run_L0 a1) (fun s1 : Int × (List Int) × api_Bucket => ([(2, (.ptr 1002 0 [])), (4, (.ptr 1004 0 [])), (6, (.sref 3006 1 0 s1.2.1.length)), (10, (.d (.list 1 (a1.map (eI .i64))))), (11, (.d (.int .i64 (a1.length : Int)))), (12, (.d (.int .i64 s1.1)))] : EL)) (fun s1 : Int × (List Int) × api_Bucket => ([(1002, some (.box 26 (.d (e_api_Bucket s1.2.2)))), (1004, some (.box 26 (.d (.st [(.int .i64 (0 : Int)), (.int .i64 (0 : Int)), (.int .i64 (0 : Int))])))), (3006, some (.row 3 1 (s1.2.1.map (eI .i64))))] : OL)) (fun (p10 : ((List Int) × api_Bucket)) e E' O' => e = .exit 0 ∧ Mat B E' O' ([(2, (.ptr 1002 0 [])), (4, (.ptr 1004 0 [])), (6, (.sref 3006 1 0 p10.1.length))] : EL) ([(1002, some (.box 26 (.d (e_api_Bucket p10.2)))), (1004, some (.box 26 (.d (.st [(.int .i64 (0 : Int)), (.int .i64 (0 : Int)), (.int .i64 (0 : Int))])))), (3006, some (.row 3 1 (p10.1.map (eI .i64))))] : OL)) hx16 (fun s1 y h => ?_) (fun e E' O' hR => ?_)
  · unfold meter_Run_L0 at h
    show AWp _ _ _ _ ([(2, (.ptr 1002 0 [])), (4, (.ptr 1004 0 [])), (6, (.sref 3006 1 0 s1.2.1.length)), (10, (.d (.list 1 (a1.map (eI .i64))))), (11, (.d (.int .i64 (a1.length : Int)))), (12, (.d (.int .i64 s1.1)))] : EL) ([(1002, some (.box 26 (.d (e_api_Bucket s1.2.2)))), (1004, some (.box 26 (.d (.st [(.int .i64 (0 : Int)), (.int .i64 (0 : Int)), (.int .i64 (0 : Int))])))), (3006, some (.row 3 1 (s1.2.1.map (eI .i64))))] : OL)
    refine AWp.seq ?_
    refine AWp.region (OpJs.cons (OpJ.lss (ltN hN rfl) (Opd.tmp 12 (.d (.int .i64 s1.1))) (Opd.tmp 11 (.d (.int .i64 (a1.length : Int)))))
      (OpJs.nil)) (by rfl) (by rfl) ?_
    refine seqQ_n ?_
    refine AWp.ghost (Mat.pat [] [(2, (.ptr 1002 0 [])), (4, (.ptr 1004 0 [])), (6, (.sref 3006 1 0 s1.2.1.length)), (10, (.d (.list 1 (a1.map (eI .i64))))), (11, (.d (.int .i64 (a1.length : Int)))), (12, (.d (.int .i64 s1.1))), (13, (.d (.bool (decide (s1.1 < (a1.length : Int))))))] [(1002, some (.box 26 (.d (e_api_Bucket s1.2.2)))), (1004, some (.box 26 (.d (.st [(.int .i64 (0 : Int)), (.int .i64 (0 : Int)), (.int .i64 (0 : Int))])))), (3006, some (.row 3 1 (s1.2.1.map (eI .i64))))] hB (by rfl) (by rfl) (by rfl)) ?_
    refine AWp.seq ?_
    refine AWp.cond (b := (decide (s1.1 < (a1.length : Int)))) (by rfl) (fun hg11 => ?_) (fun hg11 => ?_)
    · replace h := ite_t hg11 h
      refine AWp.skip ?_
      refine seqQ_n ?_
      refine AWp.seq ?_
      refine AWp.block ?_
      refine AWp.seq ?_
      obtain ⟨x12, hx12, h⟩ := bindS h
      refine AWp.region (OpJs.cons (OpJ.indexD (el := (.int .i64 x12)) Try.underlying22 tyS3 (idx_some hx12).1 (get_map (eI .i64) (idx_some hx12).2) (ltN hN rfl) (Opd.tmp 10 (.d (.list 1 (a1.map (eI .i64))))) (Opd.tmp 12 (.d (.int .i64 s1.1))))
        (OpJs.cons (OpJ.loadD tyS3 (by rfl) (by rfl) (ltN hN rfl) (Opd.tmp 14 (.dptr (.int .i64 x12))))
        (OpJs.cons (OpJ.assign (ltN hN rfl) (Opd.tmp 15 (.d (.int .i64 x12))))
        (OpJs.nil)))) (by rfl) (by rfl) ?_
      refine seqQ_n ?_
      refine AWp.ghost (Mat.pat [] [(2, (.ptr 1002 0 [])), (4, (.ptr 1004 0 [])), (6, (.sref 3006 1 0 s1.2.1.length)), (8, (.d (.int .i64 x12))), (10, (.d (.list 1 (a1.map (eI .i64))))), (11, (.d (.int .i64 (a1.length : Int)))), (12, (.d (.int .i64 s1.1)))] [(1002, some (.box 26 (.d (e_api_Bucket s1.2.2)))), (1004, some (.box 26 (.d (.st [(.int .i64 (0 : Int)), (.int .i64 (0 : Int)), (.int .i64 (0 : Int))])))), (3006, some (.row 3 1 (s1.2.1.map (eI .i64))))] hB (by rfl) (by rfl) (by rfl)) ?_
      refine AWp.seq ?_
      refine AWp.region (OpJs.cons (OpJ.move (ltN hN rfl) (Opd.tmp 8 (.d (.int .i64 x12))))
        (OpJs.cons (OpJ.val (v' := (.ptr 1002 0 [0])) (by rfl) (OpJ.fieldP Try.underlying26 (by rfl) (o := 0) (by rfl) tyS3 (by decide) (obj := (.box 26 (.d (e_api_Bucket s1.2.2)))) (ltN hN rfl) (Opd.tmp 2 (.ptr 1002 0 []))))
        (OpJs.cons (OpJ.loadB (bt := 26) (c := (.d (e_api_Bucket s1.2.2))) (v := (.d (.int .i64 s1.2.2.fLevel))) tyS3 (At.dst1 (f := (.int .i64 s1.2.2.fLevel)) (by rfl) (by rfl) (At.here _) (by first | rfl | omega)) (by rfl) (by rfl) rfl (ltN hN rfl) (Opd.tmp 17 (.ptr 1002 0 [0])))
        (OpJs.cons (OpJ.min (ltN hN rfl) (Opd.tmp 16 (.d (.int .i64 x12))) (Opd.tmp 18 (.d (.int .i64 s1.2.2.fLevel))))
        (OpJs.cons (OpJ.max (ltN hN rfl) (Opd.int .i64 (0)) (Opd.tmp 19 (.d (.int .i64 (minI x12 s1.2.2.fLevel)))))
        (OpJs.cons (OpJ.assign (ltN hN rfl) (Opd.tmp 20 (.d (.int .i64 (maxI (0 : Int) (minI x12 s1.2.2.fLevel))))))
        (OpJs.nil))))))) (by rfl) (by rfl) ?_
      refine seqQ_n ?_
      refine AWp.ghost (Mat.pat [] [(2, (.ptr 1002 0 [])), (4, (.ptr 1004 0 [])), (6, (.sref 3006 1 0 s1.2.1.length)), (9, (.d (.int .i64 (maxI (0 : Int) (minI x12 s1.2.2.fLevel))))), (10, (.d (.list 1 (a1.map (eI .i64))))), (11, (.d (.int .i64 (a1.length : Int)))), (12, (.d (.int .i64 s1.1)))] [(1002, some (.box 26 (.d (e_api_Bucket s1.2.2)))), (1004, some (.box 26 (.d (.st [(.int .i64 (0 : Int)), (.int .i64 (0 : Int)), (.int .i64 (0 : Int))])))), (3006, some (.row 3 1 (s1.2.1.map (eI .i64))))] hB (by rfl) (by rfl) (by rfl)) ?_
      refine AWp.seq ?_
      refine AWp.region (OpJs.cons (OpJ.val (v' := (.ptr 1002 0 [0])) (by rfl) (OpJ.fieldP Try.underlying26 (by rfl) (o := 0) (by rfl) tyS3 (by decide) (obj := (.box 26 (.d (e_api_Bucket s1.2.2)))) (ltN hN rfl) (Opd.tmp 2 (.ptr 1002 0 []))))
        (OpJs.cons (OpJ.loadB (bt := 26) (c := (.d (e_api_Bucket s1.2.2))) (v := (.d (.int .i64 s1.2.2.fLevel))) tyS3 (At.dst1 (f := (.int .i64 s1.2.2.fLevel)) (by rfl) (by rfl) (At.here _) (by first | rfl | omega)) (by rfl) (by rfl) rfl (ltN hN rfl) (Opd.tmp 21 (.ptr 1002 0 [0])))
        (OpJs.cons (OpJ.move (ltN hN rfl) (Opd.tmp 9 (.d (.int .i64 (maxI (0 : Int) (minI x12 s1.2.2.fLevel))))))
        (OpJs.cons (OpJ.sub (ltN hN rfl) (Opd.tmp 22 (.d (.int .i64 s1.2.2.fLevel))) (Opd.tmp 23 (.d (.int .i64 (maxI (0 : Int) (minI x12 s1.2.2.fLevel))))))
        (OpJs.cons (OpJ.val (v' := (.ptr 1002 0 [0])) (by rfl) (OpJ.fieldP Try.underlying26 (by rfl) (o := 0) (by rfl) tyS3 (by decide) (obj := (.box 26 (.d (e_api_Bucket s1.2.2)))) (ltN hN rfl) (Opd.tmp 2 (.ptr 1002 0 []))))
        (OpJs.cons (OpJ.storeB (bt := 26) (c := (.d (e_api_Bucket s1.2.2))) (v := (.d (.int .i64 (w64 (s1.2.2.fLevel - (maxI (0 : Int) (minI x12 s1.2.2.fLevel))))))) (c' := (.d (.st [(.int .i64 (w64 (s1.2.2.fLevel - (maxI (0 : Int) (minI x12 s1.2.2.fLevel))))), (.int .i64 s1.2.2.fRate), (.int .i64 s1.2.2.fBurst)]))) tyS3 (SetAt.dst1 (f := (.int .i64 s1.2.2.fLevel)) (f' := (.int .i64 (w64 (s1.2.2.fLevel - (maxI (0 : Int) (minI x12 s1.2.2.fLevel)))))) (by rfl) (by rfl) (SetAt.here _ _) (by rfl) (by rfl) (by first | rfl | omega)) (by rfl) (by rfl) (by simp) rfl (Opd.tmp 25 (.ptr 1002 0 [0])) (Opd.tmp 24 (.d (.int .i64 (w64 (s1.2.2.fLevel - (maxI (0 : Int) (minI x12 s1.2.2.fLevel))))))))
        (OpJs.nil))))))) (by rfl) (by rfl) ?_
      refine seqQ_n ?_
      refine AWp.ghost (Mat.pat [] [(2, (.ptr 1002 0 [])), (4, (.ptr 1004 0 [])), (6, (.sref 3006 1 0 s1.2.1.length)), (9, (.d (.int .i64 (maxI (0 : Int) (minI x12 s1.2.2.fLevel))))), (10, (.d (.list 1 (a1.map (eI .i64))))), (11, (.d (.int .i64 (a1.length : Int)))), (12, (.d (.int .i64 s1.1)))] [(1002, some (.box 26 (.d (.st [(.int .i64 (w64 (s1.2.2.fLevel - (maxI (0 : Int) (minI x12 s1.2.2.fLevel))))), (.int .i64 s1.2.2.fRate), (.int .i64 s1.2.2.fBurst)])))), (1004, some (.box 26 (.d (.st [(.int .i64 (0 : Int)), (.int .i64 (0 : Int)), (.int .i64 (0 : Int))])))), (3006, some (.row 3 1 (s1.2.1.map (eI .i64))))] hB (by rfl) (by rfl) (by rfl)) ?_
      refine AWp.seq ?_
      obtain ⟨r13, hr13, h⟩ := bindS h
      refine AWp.region (OpJs.cons (OpJ.loadB (bt := 26) (c := (.d (.st [(.int .i64 (w64 (s1.2.2.fLevel - (maxI (0 : Int) (minI x12 s1.2.2.fLevel))))), (.int .i64 s1.2.2.fRate), (.int .i64 s1.2.2.fBurst)]))) (v := (.d (.st [(.int .i64 (w64 (s1.2.2.fLevel - (maxI (0 : Int) (minI x12 s1.2.2.fLevel))))), (.int .i64 s1.2.2.fRate), (.int .i64 s1.2.2.fBurst)]))) tyS26 (At.here _) (by rfl) (by rfl) rfl (ltN hN rfl) (Opd.tmp 2 (.ptr 1002 0 [])))
        (OpJs.cons (OpJ.callFn hB fnOk11 (meter_Tick_ac (api_Bucket.mk (w64 (s1.2.2.fLevel - (maxI (0 : Int) (minI x12 s1.2.2.fLevel)))) s1.2.2.fRate s1.2.2.fBurst) r13 hr13) [] (by kernel_rfl) (ltN hN rfl) (by kernel_rfl) (OpdL.cons (Opd.tmp 26 (.d (.st [(.int .i64 (w64 (s1.2.2.fLevel - (maxI (0 : Int) (minI x12 s1.2.2.fLevel))))), (.int .i64 s1.2.2.fRate), (.int .i64 s1.2.2.fBurst)]))) OpdL.nil))
        (OpJs.cons (OpJ.storeB (bt := 26) (c := (.d (.st [(.int .i64 (w64 (s1.2.2.fLevel - (maxI (0 : Int) (minI x12 s1.2.2.fLevel))))), (.int .i64 s1.2.2.fRate), (.int .i64 s1.2.2.fBurst)]))) (v := (.d (e_api_Bucket r13))) (c' := (.d (e_api_Bucket r13))) tyS26 (SetAt.here _ _) (by rfl) (by rfl) (by simp) rfl (Opd.tmp 2 (.ptr 1002 0 [])) (Opd.tmp 27 (.d (e_api_Bucket r13))))
        (OpJs.nil)))) (by rfl) (by rfl) ?_
      refine seqQ_n ?_
      refine AWp.ghost (Mat.pat [] [(2, (.ptr 1002 0 [])), (4, (.ptr 1004 0 [])), (6, (.sref 3006 1 0 s1.2.1.length)), (9, (.d (.int .i64 (maxI (0 : Int) (minI x12 s1.2.2.fLevel))))), (10, (.d (.list 1 (a1.map (eI .i64))))), (11, (.d (.int .i64 (a1.length : Int)))), (12, (.d (.int .i64 s1.1)))] [(1002, some (.box 26 (.d (e_api_Bucket r13)))), (1004, some (.box 26 (.d (.st [(.int .i64 (0 : Int)), (.int .i64 (0 : Int)), (.int .i64 (0 : Int))])))), (3006, some (.row 3 1 (s1.2.1.map (eI .i64))))] hB (by rfl) (by rfl) (by rfl)) ?_
      obtain ⟨hc14, h⟩ := chk_some h
      refine AWp.region (OpJs.cons (OpJ.move (ltN hN rfl) (Opd.tmp 6 (.sref 3006 1 0 s1.2.1.length)))
        (OpJs.cons (OpJ.move (ltN hN rfl) (Opd.tmp 9 (.d (.int .i64 (maxI (0 : Int) (minI x12 s1.2.2.fLevel))))))
        (OpJs.cons (OpJ.buildSlice Try.underlying22 tyS3 tyZD3 (by rfl) (by decide) (by decide) (Opds.cons (Opd.tmp 29 (.d (.int .i64 (maxI (0 : Int) (minI x12 s1.2.2.fLevel))))) Opds.nil) (by kernel_rfl) (es := ([(.int .i64 (maxI (0 : Int) (minI x12 s1.2.2.fLevel)))] : List D)) (by rfl) (by rfl) (by kernel_rfl) (by simp) (ltN hN rfl))
        (OpJs.cons (OpJ.append hB Try.underlying22 tyE3 (nm := 1031) (by decide) (es := s1.2.1.map (eI .i64)) (ys := ([(maxI (0 : Int) (minI x12 s1.2.2.fLevel))] : List Int).map (eI .i64)) (es' := (s1.2.1 ++ ([(maxI (0 : Int) (minI x12 s1.2.2.fLevel))] : List Int)).map (eI .i64)) (len := (s1.2.1 ++ ([(maxI (0 : Int) (minI x12 s1.2.2.fLevel))] : List Int)).length) (by simp) (by simp) (map_sz (f := (eI .i64)) (fun _ => rfl)) (by rw [List.length_map]; exact lim_mulN hc14 (by decide)) (by rw [List.length_map]; exact lim_leN hc14) (ltN hN rfl) (by simp) (Opd.tmp 28 (.sref 3006 1 0 s1.2.1.length)) (Opd.tmp 30 (.d (.list 1 (([(maxI (0 : Int) (minI x12 s1.2.2.fLevel))] : List Int).map (eI .i64))))))
        (OpJs.cons (OpJ.assign (ltN hN rfl) (Opd.tmp 31 (.sref 1031 1 0 ((s1.2.1 ++ ([(maxI (0 : Int) (minI x12 s1.2.2.fLevel))] : List Int)).length))))
        (OpJs.nil)))))) (by rfl) (by rfl) ?_
      refine blkQ_n ?_
      refine seqQ_n ?_
      refine AWp.ghost (Mat.pat [] [(2, (.ptr 1002 0 [])), (4, (.ptr 1004 0 [])), (6, (.sref 1031 1 0 ((s1.2.1 ++ ([(maxI (0 : Int) (minI x12 s1.2.2.fLevel))] : List Int)).length))), (10, (.d (.list 1 (a1.map (eI .i64))))), (11, (.d (.int .i64 (a1.length : Int)))), (12, (.d (.int .i64 s1.1)))] [(1002, some (.box 26 (.d (e_api_Bucket r13)))), (1004, some (.box 26 (.d (.st [(.int .i64 (0 : Int)), (.int .i64 (0 : Int)), (.int .i64 (0 : Int))])))), (1031, some (.row 3 1 ((s1.2.1 ++ ([(maxI (0 : Int) (minI x12 s1.2.2.fLevel))] : List Int)).map (eI .i64))))] hB (by rfl) (by rfl) (by rfl)) ?_
      refine AWp.region (OpJs.cons (OpJ.add (ltN hN rfl) (Opd.tmp 12 (.d (.int .i64 s1.1))) (Opd.int .i64 (1)))
        (OpJs.cons (OpJ.move (ltN hN rfl) (Opd.tmp 32 (.d (.int .i64 (w64 (s1.1 + (1 : Int)))))))
        (OpJs.nil))) (by rfl) (by rfl) ?_
      obtain rfl := Option.some.inj h
      exact ⟨rfl, (Mat.trans (Mat.pat [] [(2, (.ptr 1002 0 [])), (4, (.ptr 1004 0 [])), (6, (.sref 1031 1 0 ((s1.2.1 ++ ([(maxI (0 : Int) (minI x12 s1.2.2.fLevel))] : List Int)).length))), (10, (.d (.list 1 (a1.map (eI .i64))))), (11, (.d (.int .i64 (a1.length : Int)))), (12, (.d (.int .i64 (w64 (s1.1 + (1 : Int))))))] [(1002, some (.box 26 (.d (e_api_Bucket r13)))), (1004, some (.box 26 (.d (.st [(.int .i64 (0 : Int)), (.int .i64 (0 : Int)), (.int .i64 (0 : Int))])))), (1031, some (.row 3 1 ((s1.2.1 ++ ([(maxI (0 : Int) (minI x12 s1.2.2.fLevel))] : List Int)).map (eI .i64))))] hB (by rfl) (by rfl) (by rfl)) (Mat.pat [(3006, 1031)] ((fun s1 : Int × (List Int) × api_Bucket => ([(2, (.ptr 1002 0 [])), (4, (.ptr 1004 0 [])), (6, (.sref 3006 1 0 s1.2.1.length)), (10, (.d (.list 1 (a1.map (eI .i64))))), (11, (.d (.int .i64 (a1.length : Int)))), (12, (.d (.int .i64 s1.1)))] : EL)) ((w64 (s1.1 + (1 : Int))), (s1.2.1 ++ ([(maxI (0 : Int) (minI x12 s1.2.2.fLevel))] : List Int)), r13)) ((fun s1 : Int × (List Int) × api_Bucket => ([(1002, some (.box 26 (.d (e_api_Bucket s1.2.2)))), (1004, some (.box 26 (.d (.st [(.int .i64 (0 : Int)), (.int .i64 (0 : Int)), (.int .i64 (0 : Int))])))), (3006, some (.row 3 1 (s1.2.1.map (eI .i64))))] : OL)) ((w64 (s1.1 + (1 : Int))), (s1.2.1 ++ ([(maxI (0 : Int) (minI x12 s1.2.2.fLevel))] : List Int)), r13)) hB (by rfl) (by rfl) (by rfl)))⟩
    · replace h := ite_f hg11 h
      refine AWp.exit ?_
      refine seqQ_e ?_
      obtain rfl := Option.some.inj h
      exact ⟨(fun hc => by cases hc), rfl, (Mat.pat [] ((fun p10 : (List Int) × api_Bucket => ([(2, (.ptr 1002 0 [])), (4, (.ptr 1004 0 [])), (6, (.sref 3006 1 0 p10.1.length))] : EL)) (s1.2.1, s1.2.2)) ((fun p10 : (List Int) × api_Bucket => ([(1002, some (.box 26 (.d (e_api_Bucket p10.2)))), (1004, some (.box 26 (.d (.st [(.int .i64 (0 : Int)), (.int .i64 (0 : Int)), (.int .i64 (0 : Int))])))), (3006, some (.row 3 1 (p10.1.map (eI .i64))))] : OL)) (s1.2.1, s1.2.2)) hB (by rfl) (by rfl) (by rfl))⟩
  · obtain ⟨rfl, hmat⟩ := hR
    refine blkQ_hit ?_
    refine seqQ_n ?_
    refine AWp.ghost hmat ?_
    refine AWp.seq ?_
    refine AWp.region (OpJs.cons (OpJ.loadB (bt := 26) (c := (.d (e_api_Bucket p10.2))) (v := (.d (e_api_Bucket p10.2))) tyS26 (At.here _) (by rfl) (by rfl) rfl (ltN hN rfl) (Opd.tmp 2 (.ptr 1002 0 [])))
      (OpJs.cons (OpJ.move (ltN hN rfl) (Opd.tmp 6 (.sref 3006 1 0 p10.1.length)))
      (OpJs.cons (OpJ.storeB (bt := 26) (c := (.d (.st [(.int .i64 (0 : Int)), (.int .i64 (0 : Int)), (.int .i64 (0 : Int))]))) (v := (.d (e_api_Bucket p10.2))) (c' := (.d (e_api_Bucket p10.2))) tyS26 (SetAt.here _ _) (by rfl) (by rfl) (by simp) rfl (Opd.tmp 4 (.ptr 1004 0 [])) (Opd.tmp 33 (.d (e_api_Bucket p10.2))))
      (OpJs.cons (OpJ.assign (ltN hN rfl) (Opd.tmp 34 (.sref 3006 1 0 p10.1.length)))
      (OpJs.nil))))) (by rfl) (by rfl) ?_
    refine seqQ_n ?_
    refine AWp.ghost (Mat.pat [] [(4, (.ptr 1004 0 [])), (5, (.sref 3006 1 0 p10.1.length))] [(1004, some (.box 26 (.d (e_api_Bucket p10.2)))), (3006, some (.row 3 1 (p10.1.map (eI .i64))))] hB (by rfl) (by rfl) (by rfl)) ?_
    refine AWp.ret ?_
    obtain rfl := Option.some.inj h
    exact ⟨.inl rfl, _, _, (Mat.trans (Mat.freezeAll (n := 3006) (k := 5) (by rfl) (by rfl) (by simp)) (Mat.pat [] [(4, (.ptr 1004 0 [])), (5, (.d (.list 1 (p10.1.map (eI .i64)))))] [(1004, some (.box 26 (.d (e_api_Bucket p10.2))))] hB (by rfl) (by rfl) (by rfl))), [(.d (e_api_Bucket p10.2)), (.d (.list 1 (p10.1.map (eI .i64))))], (Res.cell (c := (.d (e_api_Bucket p10.2))) (by rfl) (by rfl) tyS26 (by rfl) (by rfl) (by rfl) (Res.tmp (by rfl) (by rfl) Res.nil)), rfl, by rfl, by rfl, by rfl⟩

noncomputable def meter_New (a0 : Int) (a1 : Int) : Option (api_Bucket) :=
  some (api_Bucket.mk a1 a0 a1)
set_option maxHeartbeats 4000000 in
set_option maxRecDepth 100000 in
theorem meter_New_ac (a0 : Int) (a1 : Int) (r : api_Bucket) (h : meter_New a0 a1 = some r) : AC Try.prog 9 [(.d (.int .i64 a0)), (.d (.int .i64 a1))] [] (.d (e_api_Bucket r)) [] := by
  refine AC.of_code2 Try.func9 rfl rfl (Nat.le_of_ble_eq_true (by rfl)) fun B hB hN => ?_
  delta meter_New at h
  refine AWp.seq ?_
  refine AWp.region (OpJs.cons (OpJ.alloc hB tyZ26 (nm := 1004) (by decide) (ltN hN rfl))
  (OpJs.nil)) (by rfl) (by rfl) ?_
  refine seqQ_n ?_
  refine AWp.ghost (Mat.pat [] [(0, (.d (.int .i64 a0))), (1, (.d (.int .i64 a1))), (4, (.ptr 1004 0 []))] [(1004, some (.box 26 (.d (.st [(.int .i64 (0 : Int)), (.int .i64 (0 : Int)), (.int .i64 (0 : Int))]))))] hB (by rfl) (by rfl) (by rfl)) ?_
  refine AWp.seq ?_
  refine AWp.region (OpJs.cons (OpJ.move (ltN hN rfl) (Opd.tmp 1 (.d (.int .i64 a1))))
  (OpJs.cons (OpJ.move (ltN hN rfl) (Opd.tmp 0 (.d (.int .i64 a0))))
  (OpJs.cons (OpJ.move (ltN hN rfl) (Opd.tmp 1 (.d (.int .i64 a1))))
  (OpJs.cons (OpJ.coe (v := (.st [(.d (.int .i64 a1)), (.d (.int .i64 a0)), (.d (.int .i64 a1))])) (y := (.st [(.int .i64 a1), (.int .i64 a0), (.int .i64 a1)])) (Co.st (CoL.cons (Co.d _) (CoL.cons (Co.d _) (CoL.cons (Co.d _) CoL.nil)))) rfl (OpJ.build (places := [(0, 1), (1, 1), (2, 1)]) ⟨Try.underlying26, fun w => by kernel_rfl⟩ tyZS26 (Opds.cons (Opd.tmp 5 (.d (.int .i64 a1))) (Opds.cons (Opd.tmp 6 (.d (.int .i64 a0))) (Opds.cons (Opd.tmp 7 (.d (.int .i64 a1))) Opds.nil))) (by kernel_rfl) (r := (.st [(.d (.int .i64 a1)), (.d (.int .i64 a0)), (.d (.int .i64 a1))])) (by rfl) (ltN hN rfl)))
  (OpJs.cons (OpJ.storeB (bt := 26) (c := (.d (.st [(.int .i64 (0 : Int)), (.int .i64 (0 : Int)), (.int .i64 (0 : Int))]))) (v := (.d (.st [(.int .i64 a1), (.int .i64 a0), (.int .i64 a1)]))) (c' := (.d (.st [(.int .i64 a1), (.int .i64 a0), (.int .i64 a1)]))) tyS26 (SetAt.here _ _) (by rfl) (by rfl) (by simp) rfl (Opd.tmp 4 (.ptr 1004 0 [])) (Opd.tmp 8 (.d (.st [(.int .i64 a1), (.int .i64 a0), (.int .i64 a1)]))))
  (OpJs.nil)))))) (by rfl) (by rfl) ?_
  refine seqQ_n ?_
  refine AWp.ghost (Mat.pat [] [(4, (.ptr 1004 0 []))] [(1004, some (.box 26 (.d (.st [(.int .i64 a1), (.int .i64 a0), (.int .i64 a1)]))))] hB (by rfl) (by rfl) (by rfl)) ?_
  refine AWp.ret ?_
  obtain rfl := Option.some.inj h
  exact ⟨.inl rfl, _, _, (Mat.pat [] [(4, (.ptr 1004 0 []))] [(1004, some (.box 26 (.d (.st [(.int .i64 a1), (.int .i64 a0), (.int .i64 a1)]))))] hB (by rfl) (by rfl) (by rfl)), [(.d (.st [(.int .i64 a1), (.int .i64 a0), (.int .i64 a1)]))], (Res.cell (c := (.d (.st [(.int .i64 a1), (.int .i64 a0), (.int .i64 a1)]))) (by rfl) (by rfl) tyS26 (by rfl) (by rfl) (by rfl) Res.nil), rfl, by rfl, by rfl, by rfl⟩

noncomputable def exchangepointlaw12_awake : Option (Bool) :=
  (meter_New (1 : Int) (2 : Int)).bind fun r1 =>
  (meter_Run r1 ([(5 : Int), (5 : Int), (5 : Int)] : List Int)).bind fun r2 =>
  jn (fun m9 : Bool =>
  some m9) (fun j10 =>
  (if ((r2.2.length : Int) == (3 : Int)) = true then
  (idx r2.2 (0 : Int)).bind fun x12 =>
  (if (x12 == (2 : Int)) = true then
  (idx r2.2 (1 : Int)).bind fun x14 =>
  (if (x14 == (1 : Int)) = true then
  (idx r2.2 (2 : Int)).bind fun x16 =>
  j10 (x16 == (1 : Int))
  else
  j10 false)
  else
  j10 false)
  else
  j10 false))
set_option maxHeartbeats 4000000 in
set_option maxRecDepth 100000 in
theorem exchangepointlaw12_awake_ac (r : Bool) (h : exchangepointlaw12_awake = some r) : AC Try.prog 6 [] [] (.d (.bool r)) [] := by
  refine AC.of_code2 Try.func6 rfl rfl (Nat.le_of_ble_eq_true (by rfl)) fun B hB hN => ?_
  delta exchangepointlaw12_awake at h
  refine AWp.seq ?_
  refine AWp.region (OpJs.cons (OpJ.assign (ltN hN rfl) (Opd.bool false))
  (OpJs.nil)) (by rfl) (by rfl) ?_
  refine seqQ_n ?_
  refine AWp.ghost (Mat.pat [] [] [] hB (by rfl) (by rfl) (by rfl)) ?_
  refine AWp.seq ?_
  obtain ⟨r1, hr1, h⟩ := bindS h
  obtain ⟨r2, hr2, h⟩ := bindS h
  refine AWp.region (OpJs.cons (OpJ.callFn hB fnOk9 (meter_New_ac (1 : Int) (2 : Int) r1 hr1) [] (by kernel_rfl) (ltN hN rfl) (by kernel_rfl) (OpdL.cons (Opd.int .i64 (1)) (OpdL.cons (Opd.int .i64 (2)) OpdL.nil)))
  (OpJs.cons (OpJ.buildSlice Try.underlying22 tyS3 tyZD3 (by rfl) (by decide) (by decide) (Opds.cons (Opd.int .i64 (5)) (Opds.cons (Opd.int .i64 (5)) (Opds.cons (Opd.int .i64 (5)) Opds.nil))) (by kernel_rfl) (es := ([(.int .i64 (5 : Int)), (.int .i64 (5 : Int)), (.int .i64 (5 : Int))] : List D)) (by rfl) (by rfl) (by kernel_rfl) (by simp) (ltN hN rfl))
  (OpJs.cons (OpJ.callFn hB fnOk8 (meter_Run_ac r1 ([(5 : Int), (5 : Int), (5 : Int)] : List Int) r2 hr2) [] (by kernel_rfl) (ltN hN rfl) (by kernel_rfl) (OpdL.cons (Opd.tmp 4 (.d (e_api_Bucket r1))) (OpdL.cons (Opd.tmp 5 (.d (.list 1 (([(5 : Int), (5 : Int), (5 : Int)] : List Int).map (eI .i64))))) OpdL.nil)))
  (OpJs.cons (OpJ.move (ltN hN rfl) (Opd.tmp 6 (.tup [(.d (e_api_Bucket r2.1)), (.d (.list 1 (r2.2.map (eI .i64))))])))
  (OpJs.cons (OpJ.extract (v := (.d (e_api_Bucket r2.1))) (by rfl) rfl (ltN hN rfl) (Opd.tmp 3 (.tup [(.d (e_api_Bucket r2.1)), (.d (.list 1 (r2.2.map (eI .i64))))])))
  (OpJs.cons (OpJ.extract (v := (.d (.list 1 (r2.2.map (eI .i64))))) (by rfl) rfl (ltN hN rfl) (Opd.tmp 3 (.tup [(.d (e_api_Bucket r2.1)), (.d (.list 1 (r2.2.map (eI .i64))))])))
  (OpJs.cons (OpJ.alloc hB tyZ26 (nm := 1001) (by decide) (ltN hN rfl))
  (OpJs.cons (OpJ.storeB (bt := 26) (c := (.d (.st [(.int .i64 (0 : Int)), (.int .i64 (0 : Int)), (.int .i64 (0 : Int))]))) (v := (.d (e_api_Bucket r2.1))) (c' := (.d (e_api_Bucket r2.1))) tyS26 (SetAt.here _ _) (by rfl) (by rfl) (by simp) rfl (Opd.tmp 1 (.ptr 1001 0 [])) (Opd.tmp 7 (.d (e_api_Bucket r2.1))))
  (OpJs.cons (OpJ.assign (ltN hN rfl) (Opd.tmp 8 (.d (.list 1 (r2.2.map (eI .i64))))))
  (OpJs.nil)))))))))) (by rfl) (by rfl) ?_
  refine seqQ_n ?_
  refine AWp.ghost (Mat.pat [] [(2, (.d (.list 1 (r2.2.map (eI .i64)))))] [] hB (by rfl) (by rfl) (by rfl)) ?_
  refine AWp.seq ?_
  refine AWp.cut h (fun m9 : Bool => ([(0, (.d (.bool m9)))] : EL)) (fun m9 : Bool => ([] : OL)) (fun m9 h E' O' hmat => ?_) (fun j10 hjj10 h => ?_)
  · refine seqQ_n ?_
    refine AWp.ghost hmat ?_
    refine AWp.ret ?_
    obtain rfl := Option.some.inj h
    exact ⟨.inl rfl, _, _, (Mat.pat [] [(0, (.d (.bool m9)))] [] hB (by rfl) (by rfl) (by rfl)), [(.d (.bool m9))], (Res.tmp (by rfl) (by rfl) Res.nil), rfl, by rfl, by rfl, by rfl⟩
  · rcases Bool.eq_false_or_eq_true ((r2.2.length : Int) == (3 : Int)) with hg11 | hg11
    · replace h := ite_t hg11 h
      obtain ⟨x12, hx12, h⟩ := bindS h
      rcases Bool.eq_false_or_eq_true (x12 == (2 : Int)) with hg13 | hg13
      · replace h := ite_t hg13 h
        obtain ⟨x14, hx14, h⟩ := bindS h
        rcases Bool.eq_false_or_eq_true (x14 == (1 : Int)) with hg15 | hg15
        · replace h := ite_t hg15 h
          obtain ⟨x16, hx16, h⟩ := bindS h
          refine AWp.region (OpJs.cons (OpJ.move (ltN hN rfl) (Opd.tmp 2 (.d (.list 1 (r2.2.map (eI .i64))))))
            (OpJs.cons (OpJ.val (v' := (.d (.int .i64 (r2.2.length : Int)))) (by simp) (OpJ.lenD Try.underlying22 (ltN hN rfl) (Opd.tmp 9 (.d (.list 1 (r2.2.map (eI .i64)))))))
            (OpJs.cons (OpJ.eqlI (ltN hN rfl) (Opd.tmp 10 (.d (.int .i64 (r2.2.length : Int)))) (Opd.int .i64 (3)))
            (OpJs.cons (OpJ.val (v' := .d (.bool true)) (by rw [hg11]) (OpJ.move (ltN hN rfl) (Opd.tmp 11 (.d (.bool ((r2.2.length : Int) == (3 : Int)))))))
            (OpJs.cons (OpJ.guarded (by rfl) (OpJ.move (ltN hN rfl) (Opd.tmp 2 (.d (.list 1 (r2.2.map (eI .i64)))))))
            (OpJs.cons (OpJ.guarded (by rfl) (OpJ.indexD (el := (.int .i64 x12)) Try.underlying22 tyS3 (idx_some hx12).1 (get_map (eI .i64) (idx_some hx12).2) (ltN hN rfl) (Opd.tmp 13 (.d (.list 1 (r2.2.map (eI .i64))))) (Opd.int .i64 (0))))
            (OpJs.cons (OpJ.guarded (by rfl) (OpJ.loadD tyS3 (by rfl) (by rfl) (ltN hN rfl) (Opd.tmp 14 (.dptr (.int .i64 x12)))))
            (OpJs.cons (OpJ.guarded (by rfl) (OpJ.eqlI (ltN hN rfl) (Opd.tmp 15 (.d (.int .i64 x12))) (Opd.int .i64 (2))))
            (OpJs.cons (OpJ.pickT (ltN hN rfl) (Opd.tmp 12 (.d (.bool true))) (Opd.tmp 16 (.d (.bool (x12 == (2 : Int))))))
            (OpJs.cons (OpJ.val (v' := .d (.bool true)) (by rw [hg13]) (OpJ.move (ltN hN rfl) (Opd.tmp 17 (.d (.bool (x12 == (2 : Int)))))))
            (OpJs.cons (OpJ.guarded (by rfl) (OpJ.move (ltN hN rfl) (Opd.tmp 2 (.d (.list 1 (r2.2.map (eI .i64)))))))
            (OpJs.cons (OpJ.guarded (by rfl) (OpJ.indexD (el := (.int .i64 x14)) Try.underlying22 tyS3 (idx_some hx14).1 (get_map (eI .i64) (idx_some hx14).2) (ltN hN rfl) (Opd.tmp 19 (.d (.list 1 (r2.2.map (eI .i64))))) (Opd.int .i64 (1))))
            (OpJs.cons (OpJ.guarded (by rfl) (OpJ.loadD tyS3 (by rfl) (by rfl) (ltN hN rfl) (Opd.tmp 20 (.dptr (.int .i64 x14)))))
            (OpJs.cons (OpJ.guarded (by rfl) (OpJ.eqlI (ltN hN rfl) (Opd.tmp 21 (.d (.int .i64 x14))) (Opd.int .i64 (1))))
            (OpJs.cons (OpJ.pickT (ltN hN rfl) (Opd.tmp 18 (.d (.bool true))) (Opd.tmp 22 (.d (.bool (x14 == (1 : Int))))))
            (OpJs.cons (OpJ.val (v' := .d (.bool true)) (by rw [hg15]) (OpJ.move (ltN hN rfl) (Opd.tmp 23 (.d (.bool (x14 == (1 : Int)))))))
            (OpJs.cons (OpJ.guarded (by rfl) (OpJ.move (ltN hN rfl) (Opd.tmp 2 (.d (.list 1 (r2.2.map (eI .i64)))))))
            (OpJs.cons (OpJ.guarded (by rfl) (OpJ.indexD (el := (.int .i64 x16)) Try.underlying22 tyS3 (idx_some hx16).1 (get_map (eI .i64) (idx_some hx16).2) (ltN hN rfl) (Opd.tmp 25 (.d (.list 1 (r2.2.map (eI .i64))))) (Opd.int .i64 (2))))
            (OpJs.cons (OpJ.guarded (by rfl) (OpJ.loadD tyS3 (by rfl) (by rfl) (ltN hN rfl) (Opd.tmp 26 (.dptr (.int .i64 x16)))))
            (OpJs.cons (OpJ.guarded (by rfl) (OpJ.eqlI (ltN hN rfl) (Opd.tmp 27 (.d (.int .i64 x16))) (Opd.int .i64 (1))))
            (OpJs.cons (OpJ.pickT (ltN hN rfl) (Opd.tmp 24 (.d (.bool true))) (Opd.tmp 28 (.d (.bool (x16 == (1 : Int))))))
            (OpJs.cons (OpJ.assign (ltN hN rfl) (Opd.tmp 29 (.d (.bool (x16 == (1 : Int))))))
            (OpJs.nil))))))))))))))))))))))) (by rfl) (by rfl) ?_
          exact hjj10 _ h _ _ (Mat.trans (Mat.pat [] [(0, (.d (.bool (x16 == (1 : Int)))))] [] hB (by rfl) (by rfl) (by rfl)) (Mat.pat [] ((fun m9 : Bool => ([(0, (.d (.bool m9)))] : EL)) (x16 == (1 : Int))) ((fun m9 : Bool => ([] : OL)) (x16 == (1 : Int))) hB (by rfl) (by rfl) (by rfl)))
        · replace h := ite_f hg15 h
          refine AWp.region (OpJs.cons (OpJ.move (ltN hN rfl) (Opd.tmp 2 (.d (.list 1 (r2.2.map (eI .i64))))))
            (OpJs.cons (OpJ.val (v' := (.d (.int .i64 (r2.2.length : Int)))) (by simp) (OpJ.lenD Try.underlying22 (ltN hN rfl) (Opd.tmp 9 (.d (.list 1 (r2.2.map (eI .i64)))))))
            (OpJs.cons (OpJ.eqlI (ltN hN rfl) (Opd.tmp 10 (.d (.int .i64 (r2.2.length : Int)))) (Opd.int .i64 (3)))
            (OpJs.cons (OpJ.val (v' := .d (.bool true)) (by rw [hg11]) (OpJ.move (ltN hN rfl) (Opd.tmp 11 (.d (.bool ((r2.2.length : Int) == (3 : Int)))))))
            (OpJs.cons (OpJ.guarded (by rfl) (OpJ.move (ltN hN rfl) (Opd.tmp 2 (.d (.list 1 (r2.2.map (eI .i64)))))))
            (OpJs.cons (OpJ.guarded (by rfl) (OpJ.indexD (el := (.int .i64 x12)) Try.underlying22 tyS3 (idx_some hx12).1 (get_map (eI .i64) (idx_some hx12).2) (ltN hN rfl) (Opd.tmp 13 (.d (.list 1 (r2.2.map (eI .i64))))) (Opd.int .i64 (0))))
            (OpJs.cons (OpJ.guarded (by rfl) (OpJ.loadD tyS3 (by rfl) (by rfl) (ltN hN rfl) (Opd.tmp 14 (.dptr (.int .i64 x12)))))
            (OpJs.cons (OpJ.guarded (by rfl) (OpJ.eqlI (ltN hN rfl) (Opd.tmp 15 (.d (.int .i64 x12))) (Opd.int .i64 (2))))
            (OpJs.cons (OpJ.pickT (ltN hN rfl) (Opd.tmp 12 (.d (.bool true))) (Opd.tmp 16 (.d (.bool (x12 == (2 : Int))))))
            (OpJs.cons (OpJ.val (v' := .d (.bool true)) (by rw [hg13]) (OpJ.move (ltN hN rfl) (Opd.tmp 17 (.d (.bool (x12 == (2 : Int)))))))
            (OpJs.cons (OpJ.guarded (by rfl) (OpJ.move (ltN hN rfl) (Opd.tmp 2 (.d (.list 1 (r2.2.map (eI .i64)))))))
            (OpJs.cons (OpJ.guarded (by rfl) (OpJ.indexD (el := (.int .i64 x14)) Try.underlying22 tyS3 (idx_some hx14).1 (get_map (eI .i64) (idx_some hx14).2) (ltN hN rfl) (Opd.tmp 19 (.d (.list 1 (r2.2.map (eI .i64))))) (Opd.int .i64 (1))))
            (OpJs.cons (OpJ.guarded (by rfl) (OpJ.loadD tyS3 (by rfl) (by rfl) (ltN hN rfl) (Opd.tmp 20 (.dptr (.int .i64 x14)))))
            (OpJs.cons (OpJ.guarded (by rfl) (OpJ.eqlI (ltN hN rfl) (Opd.tmp 21 (.d (.int .i64 x14))) (Opd.int .i64 (1))))
            (OpJs.cons (OpJ.pickT (ltN hN rfl) (Opd.tmp 18 (.d (.bool true))) (Opd.tmp 22 (.d (.bool (x14 == (1 : Int))))))
            (OpJs.cons (OpJ.val (v' := .d (.bool false)) (by rw [hg15]) (OpJ.move (ltN hN rfl) (Opd.tmp 23 (.d (.bool (x14 == (1 : Int)))))))
            (OpJs.cons (OpJ.skipU (ltN hN rfl) (by rfl))
            (OpJs.cons (OpJ.skipU (ltN hN rfl) (by rfl))
            (OpJs.cons (OpJ.skipU (ltN hN rfl) (by rfl))
            (OpJs.cons (OpJ.skipU (ltN hN rfl) (by rfl))
            (OpJs.cons (OpJ.pickF (ltN hN rfl) (Opd.tmp 24 (.d (.bool false))) (Opd.bool false))
            (OpJs.cons (OpJ.assign (ltN hN rfl) (Opd.tmp 29 (.d (.bool false))))
            (OpJs.nil))))))))))))))))))))))) (by rfl) (by rfl) ?_
          exact hjj10 _ h _ _ (Mat.trans (Mat.pat [] [(0, (.d (.bool false)))] [] hB (by rfl) (by rfl) (by rfl)) (Mat.pat [] ((fun m9 : Bool => ([(0, (.d (.bool m9)))] : EL)) false) ((fun m9 : Bool => ([] : OL)) false) hB (by rfl) (by rfl) (by rfl)))
      · replace h := ite_f hg13 h
        refine AWp.region (OpJs.cons (OpJ.move (ltN hN rfl) (Opd.tmp 2 (.d (.list 1 (r2.2.map (eI .i64))))))
          (OpJs.cons (OpJ.val (v' := (.d (.int .i64 (r2.2.length : Int)))) (by simp) (OpJ.lenD Try.underlying22 (ltN hN rfl) (Opd.tmp 9 (.d (.list 1 (r2.2.map (eI .i64)))))))
          (OpJs.cons (OpJ.eqlI (ltN hN rfl) (Opd.tmp 10 (.d (.int .i64 (r2.2.length : Int)))) (Opd.int .i64 (3)))
          (OpJs.cons (OpJ.val (v' := .d (.bool true)) (by rw [hg11]) (OpJ.move (ltN hN rfl) (Opd.tmp 11 (.d (.bool ((r2.2.length : Int) == (3 : Int)))))))
          (OpJs.cons (OpJ.guarded (by rfl) (OpJ.move (ltN hN rfl) (Opd.tmp 2 (.d (.list 1 (r2.2.map (eI .i64)))))))
          (OpJs.cons (OpJ.guarded (by rfl) (OpJ.indexD (el := (.int .i64 x12)) Try.underlying22 tyS3 (idx_some hx12).1 (get_map (eI .i64) (idx_some hx12).2) (ltN hN rfl) (Opd.tmp 13 (.d (.list 1 (r2.2.map (eI .i64))))) (Opd.int .i64 (0))))
          (OpJs.cons (OpJ.guarded (by rfl) (OpJ.loadD tyS3 (by rfl) (by rfl) (ltN hN rfl) (Opd.tmp 14 (.dptr (.int .i64 x12)))))
          (OpJs.cons (OpJ.guarded (by rfl) (OpJ.eqlI (ltN hN rfl) (Opd.tmp 15 (.d (.int .i64 x12))) (Opd.int .i64 (2))))
          (OpJs.cons (OpJ.pickT (ltN hN rfl) (Opd.tmp 12 (.d (.bool true))) (Opd.tmp 16 (.d (.bool (x12 == (2 : Int))))))
          (OpJs.cons (OpJ.val (v' := .d (.bool false)) (by rw [hg13]) (OpJ.move (ltN hN rfl) (Opd.tmp 17 (.d (.bool (x12 == (2 : Int)))))))
          (OpJs.cons (OpJ.skipU (ltN hN rfl) (by rfl))
          (OpJs.cons (OpJ.skipU (ltN hN rfl) (by rfl))
          (OpJs.cons (OpJ.skipU (ltN hN rfl) (by rfl))
          (OpJs.cons (OpJ.skipU (ltN hN rfl) (by rfl))
          (OpJs.cons (OpJ.pickF (ltN hN rfl) (Opd.tmp 18 (.d (.bool false))) (Opd.bool false))
          (OpJs.cons (OpJ.move (ltN hN rfl) (Opd.tmp 23 (.d (.bool false))))
          (OpJs.cons (OpJ.skipU (ltN hN rfl) (by rfl))
          (OpJs.cons (OpJ.skipU (ltN hN rfl) (by rfl))
          (OpJs.cons (OpJ.skipU (ltN hN rfl) (by rfl))
          (OpJs.cons (OpJ.skipU (ltN hN rfl) (by rfl))
          (OpJs.cons (OpJ.pickF (ltN hN rfl) (Opd.tmp 24 (.d (.bool false))) (Opd.bool false))
          (OpJs.cons (OpJ.assign (ltN hN rfl) (Opd.tmp 29 (.d (.bool false))))
          (OpJs.nil))))))))))))))))))))))) (by rfl) (by rfl) ?_
        exact hjj10 _ h _ _ (Mat.trans (Mat.pat [] [(0, (.d (.bool false)))] [] hB (by rfl) (by rfl) (by rfl)) (Mat.pat [] ((fun m9 : Bool => ([(0, (.d (.bool m9)))] : EL)) false) ((fun m9 : Bool => ([] : OL)) false) hB (by rfl) (by rfl) (by rfl)))
    · replace h := ite_f hg11 h
      refine AWp.region (OpJs.cons (OpJ.move (ltN hN rfl) (Opd.tmp 2 (.d (.list 1 (r2.2.map (eI .i64))))))
        (OpJs.cons (OpJ.val (v' := (.d (.int .i64 (r2.2.length : Int)))) (by simp) (OpJ.lenD Try.underlying22 (ltN hN rfl) (Opd.tmp 9 (.d (.list 1 (r2.2.map (eI .i64)))))))
        (OpJs.cons (OpJ.eqlI (ltN hN rfl) (Opd.tmp 10 (.d (.int .i64 (r2.2.length : Int)))) (Opd.int .i64 (3)))
        (OpJs.cons (OpJ.val (v' := .d (.bool false)) (by rw [hg11]) (OpJ.move (ltN hN rfl) (Opd.tmp 11 (.d (.bool ((r2.2.length : Int) == (3 : Int)))))))
        (OpJs.cons (OpJ.skipU (ltN hN rfl) (by rfl))
        (OpJs.cons (OpJ.skipU (ltN hN rfl) (by rfl))
        (OpJs.cons (OpJ.skipU (ltN hN rfl) (by rfl))
        (OpJs.cons (OpJ.skipU (ltN hN rfl) (by rfl))
        (OpJs.cons (OpJ.pickF (ltN hN rfl) (Opd.tmp 12 (.d (.bool false))) (Opd.bool false))
        (OpJs.cons (OpJ.move (ltN hN rfl) (Opd.tmp 17 (.d (.bool false))))
        (OpJs.cons (OpJ.skipU (ltN hN rfl) (by rfl))
        (OpJs.cons (OpJ.skipU (ltN hN rfl) (by rfl))
        (OpJs.cons (OpJ.skipU (ltN hN rfl) (by rfl))
        (OpJs.cons (OpJ.skipU (ltN hN rfl) (by rfl))
        (OpJs.cons (OpJ.pickF (ltN hN rfl) (Opd.tmp 18 (.d (.bool false))) (Opd.bool false))
        (OpJs.cons (OpJ.move (ltN hN rfl) (Opd.tmp 23 (.d (.bool false))))
        (OpJs.cons (OpJ.skipU (ltN hN rfl) (by rfl))
        (OpJs.cons (OpJ.skipU (ltN hN rfl) (by rfl))
        (OpJs.cons (OpJ.skipU (ltN hN rfl) (by rfl))
        (OpJs.cons (OpJ.skipU (ltN hN rfl) (by rfl))
        (OpJs.cons (OpJ.pickF (ltN hN rfl) (Opd.tmp 24 (.d (.bool false))) (Opd.bool false))
        (OpJs.cons (OpJ.assign (ltN hN rfl) (Opd.tmp 29 (.d (.bool false))))
        (OpJs.nil))))))))))))))))))))))) (by rfl) (by rfl) ?_
      exact hjj10 _ h _ _ (Mat.trans (Mat.pat [] [(0, (.d (.bool false)))] [] hB (by rfl) (by rfl) (by rfl)) (Mat.pat [] ((fun m9 : Bool => ([(0, (.d (.bool m9)))] : EL)) false) ((fun m9 : Bool => ([] : OL)) false) hB (by rfl) (by rfl) (by rfl)))

noncomputable def exchangepointlaw12_MeterIdle_L0 (r6 : api_Bucket × (List Int)) (s7 : Int) : Option (((Unit) ⊕ (Unit)) ⊕ (Int)) :=
  (if (decide (s7 < (r6.2.length : Int))) = true then
  (idx r6.2 s7).bind fun x17 =>
  (if (x17 != (0 : Int)) = true then
  some (.inl (.inl ()))
  else
  some (.inr (w64 (s7 + (1 : Int)))))
  else
  some (.inl (.inr ())))
noncomputable def exchangepointlaw12_MeterIdle (a0 : Int) (a1 : Int) (a2 : Int) : Option (Bool) :=
  (exchangepointmake_Mod a1 (40 : Int)).bind fun r1 =>
  (exchangepointmake_Mod a0 (w64 (r1 + (1 : Int)))).bind fun r2 =>
  (exchangepointmake_Mod a2 (w64 (r1 + (1 : Int)))).bind fun r3 =>
  chk ((decide (0 ≤ r1) && decide (r1 ≤ r1) && decide (r1 ≤ (LIM : Int)))) <|
  (meter_Run (api_Bucket.mk r3 r2 r1) (List.replicate r1.toNat (0 : Int))).bind fun r6 =>
  (loop (exchangepointlaw12_MeterIdle_L0 r6) (0 : Int)).bind fun x19 => match x19 with
  | (.inl _) =>
    some false
  | (.inr _) =>
    jn (fun m22 : Int =>
    jn (fun m26 : Bool =>
    some m26) (fun j27 =>
    (if (((r6.1.fLevel == m22) && ((r6.1.fRate == r2) && ((r6.1.fBurst == r1) && true))) && ((r6.2.length : Int) == r1)) = true then
    (exchangepointlaw12_awake).bind fun r29 =>
    j27 r29
    else
    j27 false))) (fun j23 =>
    (if (decide ((0 : Int) < r2)) = true then
    j23 r1
    else
    j23 r3))
set_option maxHeartbeats 4000000 in
set_option maxRecDepth 100000 in
theorem exchangepointlaw12_MeterIdle_ac (a0 : Int) (a1 : Int) (a2 : Int) (r : Bool) (h : exchangepointlaw12_MeterIdle a0 a1 a2 = some r) : AC Try.prog 4 [(.d (.int .i64 a0)), (.d (.int .i64 a1)), (.d (.int .i64 a2))] [] (.d (.bool r)) [] := by
  refine AC.of_code2 Try.func4 rfl rfl (Nat.le_of_ble_eq_true (by rfl)) fun B hB hN => ?_
  delta exchangepointlaw12_MeterIdle at h
  refine AWp.seq ?_
  refine AWp.region (OpJs.cons (OpJ.assign (ltN hN rfl) (Opd.bool false))
  (OpJs.nil)) (by rfl) (by rfl) ?_
  refine seqQ_n ?_
  refine AWp.ghost (Mat.pat [] [(0, (.d (.int .i64 a0))), (1, (.d (.int .i64 a1))), (2, (.d (.int .i64 a2)))] [] hB (by rfl) (by rfl) (by rfl)) ?_
  refine AWp.seq ?_
  obtain ⟨r1, hr1, h⟩ := bindS h
  refine AWp.region (OpJs.cons (OpJ.move (ltN hN rfl) (Opd.tmp 1 (.d (.int .i64 a1))))
  (OpJs.cons (OpJ.callFn hB fnOk7 (exchangepointmake_Mod_ac a1 (40 : Int) r1 hr1) [] (by kernel_rfl) (ltN hN rfl) (by kernel_rfl) (OpdL.cons (Opd.tmp 13 (.d (.int .i64 a1))) (OpdL.cons (Opd.int .i64 (40)) OpdL.nil)))
  (OpJs.cons (OpJ.assign (ltN hN rfl) (Opd.tmp 14 (.d (.int .i64 r1))))
  (OpJs.nil)))) (by rfl) (by rfl) ?_
  refine seqQ_n ?_
  refine AWp.ghost (Mat.pat [] [(0, (.d (.int .i64 a0))), (1, (.d (.int .i64 r1))), (2, (.d (.int .i64 a2)))] [] hB (by rfl) (by rfl) (by rfl)) ?_
  refine AWp.seq ?_
  obtain ⟨r2, hr2, h⟩ := bindS h
  refine AWp.region (OpJs.cons (OpJ.move (ltN hN rfl) (Opd.tmp 0 (.d (.int .i64 a0))))
  (OpJs.cons (OpJ.move (ltN hN rfl) (Opd.tmp 1 (.d (.int .i64 r1))))
  (OpJs.cons (OpJ.add (ltN hN rfl) (Opd.tmp 16 (.d (.int .i64 r1))) (Opd.int .i64 (1)))
  (OpJs.cons (OpJ.callFn hB fnOk7 (exchangepointmake_Mod_ac a0 (w64 (r1 + (1 : Int))) r2 hr2) [] (by kernel_rfl) (ltN hN rfl) (by kernel_rfl) (OpdL.cons (Opd.tmp 15 (.d (.int .i64 a0))) (OpdL.cons (Opd.tmp 17 (.d (.int .i64 (w64 (r1 + (1 : Int)))))) OpdL.nil)))
  (OpJs.cons (OpJ.assign (ltN hN rfl) (Opd.tmp 18 (.d (.int .i64 r2))))
  (OpJs.nil)))))) (by rfl) (by rfl) ?_
  refine seqQ_n ?_
  refine AWp.ghost (Mat.pat [] [(0, (.d (.int .i64 r2))), (1, (.d (.int .i64 r1))), (2, (.d (.int .i64 a2)))] [] hB (by rfl) (by rfl) (by rfl)) ?_
  refine AWp.seq ?_
  obtain ⟨r3, hr3, h⟩ := bindS h
  refine AWp.region (OpJs.cons (OpJ.move (ltN hN rfl) (Opd.tmp 2 (.d (.int .i64 a2))))
  (OpJs.cons (OpJ.move (ltN hN rfl) (Opd.tmp 1 (.d (.int .i64 r1))))
  (OpJs.cons (OpJ.add (ltN hN rfl) (Opd.tmp 20 (.d (.int .i64 r1))) (Opd.int .i64 (1)))
  (OpJs.cons (OpJ.callFn hB fnOk7 (exchangepointmake_Mod_ac a2 (w64 (r1 + (1 : Int))) r3 hr3) [] (by kernel_rfl) (ltN hN rfl) (by kernel_rfl) (OpdL.cons (Opd.tmp 19 (.d (.int .i64 a2))) (OpdL.cons (Opd.tmp 21 (.d (.int .i64 (w64 (r1 + (1 : Int)))))) OpdL.nil)))
  (OpJs.cons (OpJ.move (ltN hN rfl) (Opd.tmp 0 (.d (.int .i64 r2))))
  (OpJs.cons (OpJ.move (ltN hN rfl) (Opd.tmp 1 (.d (.int .i64 r1))))
  (OpJs.cons (OpJ.coe (v := (.st [(.d (.int .i64 r3)), (.d (.int .i64 r2)), (.d (.int .i64 r1))])) (y := (.st [(.int .i64 r3), (.int .i64 r2), (.int .i64 r1)])) (Co.st (CoL.cons (Co.d _) (CoL.cons (Co.d _) (CoL.cons (Co.d _) CoL.nil)))) rfl (OpJ.build (places := [(0, 1), (1, 1), (2, 1)]) ⟨Try.underlying26, fun w => by kernel_rfl⟩ tyZS26 (Opds.cons (Opd.tmp 22 (.d (.int .i64 r3))) (Opds.cons (Opd.tmp 23 (.d (.int .i64 r2))) (Opds.cons (Opd.tmp 24 (.d (.int .i64 r1))) Opds.nil))) (by kernel_rfl) (r := (.st [(.d (.int .i64 r3)), (.d (.int .i64 r2)), (.d (.int .i64 r1))])) (by rfl) (ltN hN rfl)))
  (OpJs.cons (OpJ.alloc hB tyZ26 (nm := 1007) (by decide) (ltN hN rfl))
  (OpJs.cons (OpJ.storeB (bt := 26) (c := (.d (.st [(.int .i64 (0 : Int)), (.int .i64 (0 : Int)), (.int .i64 (0 : Int))]))) (v := (.d (.st [(.int .i64 r3), (.int .i64 r2), (.int .i64 r1)]))) (c' := (.d (.st [(.int .i64 r3), (.int .i64 r2), (.int .i64 r1)]))) tyS26 (SetAt.here _ _) (by rfl) (by rfl) (by simp) rfl (Opd.tmp 7 (.ptr 1007 0 [])) (Opd.tmp 25 (.d (.st [(.int .i64 r3), (.int .i64 r2), (.int .i64 r1)]))))
  (OpJs.nil)))))))))) (by rfl) (by rfl) ?_
  refine seqQ_n ?_
  refine AWp.ghost (Mat.pat [] [(0, (.d (.int .i64 r2))), (1, (.d (.int .i64 r1))), (7, (.ptr 1007 0 []))] [(1007, some (.box 26 (.d (.st [(.int .i64 r3), (.int .i64 r2), (.int .i64 r1)]))))] hB (by rfl) (by rfl) (by rfl)) ?_
  refine AWp.seq ?_
  obtain ⟨hc5, h⟩ := chk_some h
  obtain ⟨r6, hr6, h⟩ := bindS h
  refine AWp.draws (by kernel_rfl) (OpJs.cons (OpJ.loadB (bt := 26) (c := (.d (.st [(.int .i64 r3), (.int .i64 r2), (.int .i64 r1)]))) (v := (.d (.st [(.int .i64 r3), (.int .i64 r2), (.int .i64 r1)]))) tyS26 (At.here _) (by rfl) (by rfl) rfl (ltN hN rfl) (Opd.tmp 7 (.ptr 1007 0 [])))
  (OpJs.cons (OpJ.move (ltN hN rfl) (Opd.tmp 1 (.d (.int .i64 r1))))
  (OpJs.cons (OpJ.frz (OpJ.make hB Try.underlying22 tyE3 tyZD3 (by rfl) (nm := 1029) (by decide) (of_decide_eq_true (and_l2 (and_l2 hc5))) (of_decide_eq_true (and_r2 (and_l2 hc5))) (lim_mul (of_decide_eq_true (and_r2 hc5)) (by decide)) (lim_le (of_decide_eq_true (and_r2 hc5))) (ltN hN rfl) (es := (List.replicate r1.toNat (0 : Int)).map (eI .i64)) (by rw [List.map_replicate]; rfl) (len := (List.replicate r1.toNat (0 : Int)).length) (by simp) (Opd.tmp 28 (.d (.int .i64 r1))) (Opd.tmp 28 (.d (.int .i64 r1)))) (by simp))
  (OpJs.cons (OpJ.callFn hB fnOk8 (meter_Run_ac (api_Bucket.mk r3 r2 r1) (List.replicate r1.toNat (0 : Int)) r6 hr6) [] (by kernel_rfl) (ltN hN rfl) (by kernel_rfl) (OpdL.cons (Opd.tmp 27 (.d (.st [(.int .i64 r3), (.int .i64 r2), (.int .i64 r1)]))) (OpdL.cons (Opd.tmp 29 (.d (.list 1 ((List.replicate r1.toNat (0 : Int)).map (eI .i64))))) OpdL.nil)))
  (OpJs.cons (OpJ.move (ltN hN rfl) (Opd.tmp 30 (.tup [(.d (e_api_Bucket r6.1)), (.d (.list 1 (r6.2.map (eI .i64))))])))
  (OpJs.cons (OpJ.extract (v := (.d (e_api_Bucket r6.1))) (by rfl) rfl (ltN hN rfl) (Opd.tmp 26 (.tup [(.d (e_api_Bucket r6.1)), (.d (.list 1 (r6.2.map (eI .i64))))])))
  (OpJs.cons (OpJ.extract (v := (.d (.list 1 (r6.2.map (eI .i64))))) (by rfl) rfl (ltN hN rfl) (Opd.tmp 26 (.tup [(.d (e_api_Bucket r6.1)), (.d (.list 1 (r6.2.map (eI .i64))))])))
  (OpJs.cons (OpJ.alloc hB tyZ26 (nm := 1008) (by decide) (ltN hN rfl))
  (OpJs.cons (OpJ.storeB (bt := 26) (c := (.d (.st [(.int .i64 (0 : Int)), (.int .i64 (0 : Int)), (.int .i64 (0 : Int))]))) (v := (.d (e_api_Bucket r6.1))) (c' := (.d (e_api_Bucket r6.1))) tyS26 (SetAt.here _ _) (by rfl) (by rfl) (by simp) rfl (Opd.tmp 8 (.ptr 1008 0 [])) (Opd.tmp 31 (.d (e_api_Bucket r6.1))))
  (OpJs.cons (OpJ.assign (ltN hN rfl) (Opd.tmp 32 (.d (.list 1 (r6.2.map (eI .i64))))))
  (OpJs.nil))))))))))) (by kernel_rfl) (by rfl) (by rfl) ?_
  refine seqQ_n ?_
  refine AWp.ghost (Mat.pat [] [(0, (.d (.int .i64 r2))), (1, (.d (.int .i64 r1))), (7, (.ptr 1007 0 [])), (8, (.ptr 1008 0 [])), (9, (.d (.list 1 (r6.2.map (eI .i64)))))] [(1007, some (.box 26 (.d (.st [(.int .i64 r3), (.int .i64 r2), (.int .i64 r1)])))), (1008, some (.box 26 (.d (e_api_Bucket r6.1))))] hB (by rfl) (by rfl) (by rfl)) ?_
  refine AWp.seq ?_
  refine AWp.seq ?_
  refine AWp.region (OpJs.cons (OpJ.move (ltN hN rfl) (Opd.tmp 9 (.d (.list 1 (r6.2.map (eI .i64))))))
  (OpJs.cons (OpJ.val (v' := (.d (.int .i64 (r6.2.length : Int)))) (by simp) (OpJ.lenD Try.underlying22 (ltN hN rfl) (Opd.tmp 33 (.d (.list 1 (r6.2.map (eI .i64)))))))
  (OpJs.cons (OpJ.move (ltN hN rfl) (Opd.int .i64 (0)))
  (OpJs.nil)))) (by rfl) (by rfl) ?_
  refine seqQ_n ?_
  refine AWp.ghost (Mat.pat [] [(0, (.d (.int .i64 r2))), (1, (.d (.int .i64 r1))), (7, (.ptr 1007 0 [])), (8, (.ptr 1008 0 [])), (9, (.d (.list 1 (r6.2.map (eI .i64))))), (33, (.d (.list 1 (r6.2.map (eI .i64))))), (34, (.d (.int .i64 (r6.2.length : Int)))), (35, (.d (.int .i64 (0 : Int))))] [(1007, some (.box 26 (.d (.st [(.int .i64 r3), (.int .i64 r2), (.int .i64 r1)])))), (1008, some (.box 26 (.d (e_api_Bucket r6.1))))] hB (by rfl) (by rfl) (by rfl)) ?_
  refine AWp.block ?_
  obtain ⟨x19, hx20, h⟩ := bindS h
  refine AWp.ghost (Mat.pat [] ((fun s7 : Int => ([(0, (.d (.int .i64 r2))), (1, (.d (.int .i64 r1))), (7, (.ptr 1007 0 [])), (8, (.ptr 1008 0 [])), (9, (.d (.list 1 (r6.2.map (eI .i64))))), (33, (.d (.list 1 (r6.2.map (eI .i64))))), (34, (.d (.int .i64 (r6.2.length : Int)))), (35, (.d (.int .i64 s7)))] : EL)) (0 : Int)) ((fun s7 : Int => ([(1007, some (.box 26 (.d (.st [(.int .i64 r3), (.int .i64 r2), (.int .i64 r1)])))), (1008, some (.box 26 (.d (e_api_Bucket r6.1))))] : OL)) (0 : Int)) hB (by rfl) (by rfl) (by rfl)) ?_
  refine AWp.loopS (exchangepointlaw12_MeterIdle_L0 r6) (fun s7 : Int => ([(0, (.d (.int .i64 r2))), (1, (.d (.int .i64 r1))), (7, (.ptr 1007 0 [])), (8, (.ptr 1008 0 [])), (9, (.d (.list 1 (r6.2.map (eI .i64))))), (33, (.d (.list 1 (r6.2.map (eI .i64))))), (34, (.d (.int .i64 (r6.2.length : Int)))), (35, (.d (.int .i64 s7)))] : EL)) (fun s7 : Int => ([(1007, some (.box 26 (.d (.st [(.int .i64 r3), (.int .i64 r2), (.int .i64 r1)])))), (1008, some (.box 26 (.d (e_api_Bucket r6.1))))] : OL)) (fun (x : (Unit) ⊕ (Unit)) e E' O' => match x with | (.inl _p) => e = .ret ∧ Mat B E' O' ([(6, (.d (.bool false)))] : EL) ([] : OL) | (.inr _p) => e = .exit 0 ∧ Mat B E' O' ([(0, (.d (.int .i64 r2))), (1, (.d (.int .i64 r1))), (7, (.ptr 1007 0 [])), (8, (.ptr 1008 0 [])), (9, (.d (.list 1 (r6.2.map (eI .i64)))))] : EL) ([(1007, some (.box 26 (.d (.st [(.int .i64 r3), (.int .i64 r2), (.int .i64 r1)])))), (1008, some (.box 26 (.d (e_api_Bucket r6.1))))] : OL)) hx20 (fun s7 y h => ?_) (fun e E' O' hR => ?_)
  · unfold exchangepointlaw12_MeterIdle_L0 at h
    show AWp _ _ _ _ ([(0, (.d (.int .i64 r2))), (1, (.d (.int .i64 r1))), (7, (.ptr 1007 0 [])), (8, (.ptr 1008 0 [])), (9, (.d (.list 1 (r6.2.map (eI .i64))))), (33, (.d (.list 1 (r6.2.map (eI .i64))))), (34, (.d (.int .i64 (r6.2.length : Int)))), (35, (.d (.int .i64 s7)))] : EL) ([(1007, some (.box 26 (.d (.st [(.int .i64 r3), (.int .i64 r2), (.int .i64 r1)])))), (1008, some (.box 26 (.d (e_api_Bucket r6.1))))] : OL)
    refine AWp.seq ?_
    refine AWp.region (OpJs.cons (OpJ.lss (ltN hN rfl) (Opd.tmp 35 (.d (.int .i64 s7))) (Opd.tmp 34 (.d (.int .i64 (r6.2.length : Int)))))
      (OpJs.nil)) (by rfl) (by rfl) ?_
    refine seqQ_n ?_
    refine AWp.ghost (Mat.pat [] [(0, (.d (.int .i64 r2))), (1, (.d (.int .i64 r1))), (7, (.ptr 1007 0 [])), (8, (.ptr 1008 0 [])), (9, (.d (.list 1 (r6.2.map (eI .i64))))), (33, (.d (.list 1 (r6.2.map (eI .i64))))), (34, (.d (.int .i64 (r6.2.length : Int)))), (35, (.d (.int .i64 s7))), (36, (.d (.bool (decide (s7 < (r6.2.length : Int))))))] [(1007, some (.box 26 (.d (.st [(.int .i64 r3), (.int .i64 r2), (.int .i64 r1)])))), (1008, some (.box 26 (.d (e_api_Bucket r6.1))))] hB (by rfl) (by rfl) (by rfl)) ?_
    refine AWp.seq ?_
    refine AWp.cond (b := (decide (s7 < (r6.2.length : Int)))) (by rfl) (fun hg16 => ?_) (fun hg16 => ?_)
    · replace h := ite_t hg16 h
      refine AWp.skip ?_
      refine seqQ_n ?_
      refine AWp.seq ?_
      refine AWp.block ?_
      refine AWp.seq ?_
      obtain ⟨x17, hx17, h⟩ := bindS h
      refine AWp.region (OpJs.cons (OpJ.indexD (el := (.int .i64 x17)) Try.underlying22 tyS3 (idx_some hx17).1 (get_map (eI .i64) (idx_some hx17).2) (ltN hN rfl) (Opd.tmp 33 (.d (.list 1 (r6.2.map (eI .i64))))) (Opd.tmp 35 (.d (.int .i64 s7))))
        (OpJs.cons (OpJ.loadD tyS3 (by rfl) (by rfl) (ltN hN rfl) (Opd.tmp 37 (.dptr (.int .i64 x17))))
        (OpJs.cons (OpJ.assign (ltN hN rfl) (Opd.tmp 38 (.d (.int .i64 x17))))
        (OpJs.nil)))) (by rfl) (by rfl) ?_
      refine seqQ_n ?_
      refine AWp.ghost (Mat.pat [] [(0, (.d (.int .i64 r2))), (1, (.d (.int .i64 r1))), (7, (.ptr 1007 0 [])), (8, (.ptr 1008 0 [])), (9, (.d (.list 1 (r6.2.map (eI .i64))))), (11, (.d (.int .i64 x17))), (33, (.d (.list 1 (r6.2.map (eI .i64))))), (34, (.d (.int .i64 (r6.2.length : Int)))), (35, (.d (.int .i64 s7)))] [(1007, some (.box 26 (.d (.st [(.int .i64 r3), (.int .i64 r2), (.int .i64 r1)])))), (1008, some (.box 26 (.d (e_api_Bucket r6.1))))] hB (by rfl) (by rfl) (by rfl)) ?_
      refine AWp.seq ?_
      refine AWp.region (OpJs.cons (OpJ.move (ltN hN rfl) (Opd.tmp 11 (.d (.int .i64 x17))))
        (OpJs.cons (OpJ.neqI (ltN hN rfl) (Opd.tmp 39 (.d (.int .i64 x17))) (Opd.int .i64 (0)))
        (OpJs.nil))) (by rfl) (by rfl) ?_
      refine seqQ_n ?_
      refine AWp.ghost (Mat.pat [] [(0, (.d (.int .i64 r2))), (1, (.d (.int .i64 r1))), (7, (.ptr 1007 0 [])), (8, (.ptr 1008 0 [])), (9, (.d (.list 1 (r6.2.map (eI .i64))))), (33, (.d (.list 1 (r6.2.map (eI .i64))))), (34, (.d (.int .i64 (r6.2.length : Int)))), (35, (.d (.int .i64 s7))), (40, (.d (.bool (x17 != (0 : Int)))))] [(1007, some (.box 26 (.d (.st [(.int .i64 r3), (.int .i64 r2), (.int .i64 r1)])))), (1008, some (.box 26 (.d (e_api_Bucket r6.1))))] hB (by rfl) (by rfl) (by rfl)) ?_
      refine AWp.cond (b := (x17 != (0 : Int))) (by rfl) (fun hg18 => ?_) (fun hg18 => ?_)
      · replace h := ite_t hg18 h
        refine AWp.seq ?_
        refine AWp.region (OpJs.cons (OpJ.assign (ltN hN rfl) (Opd.bool false))
          (OpJs.nil)) (by rfl) (by rfl) ?_
        refine seqQ_n ?_
        refine AWp.ghost (Mat.pat [] [(6, (.d (.bool false)))] [] hB (by rfl) (by rfl) (by rfl)) ?_
        refine AWp.ret ?_
        refine blkQ_r ?_
        refine seqQ_r ?_
        obtain rfl := Option.some.inj h
        exact ⟨(fun hc => by cases hc), rfl, (Mat.pat [] ((fun _ : Unit => ([(6, (.d (.bool false)))] : EL)) ()) ((fun _ : Unit => ([] : OL)) ()) hB (by rfl) (by rfl) (by rfl))⟩
      · replace h := ite_f hg18 h
        refine AWp.skip ?_
        refine blkQ_n ?_
        refine seqQ_n ?_
        refine AWp.region (OpJs.cons (OpJ.add (ltN hN rfl) (Opd.tmp 35 (.d (.int .i64 s7))) (Opd.int .i64 (1)))
          (OpJs.cons (OpJ.move (ltN hN rfl) (Opd.tmp 41 (.d (.int .i64 (w64 (s7 + (1 : Int)))))))
          (OpJs.nil))) (by rfl) (by rfl) ?_
        obtain rfl := Option.some.inj h
        exact ⟨rfl, (Mat.trans (Mat.pat [] [(0, (.d (.int .i64 r2))), (1, (.d (.int .i64 r1))), (7, (.ptr 1007 0 [])), (8, (.ptr 1008 0 [])), (9, (.d (.list 1 (r6.2.map (eI .i64))))), (33, (.d (.list 1 (r6.2.map (eI .i64))))), (34, (.d (.int .i64 (r6.2.length : Int)))), (35, (.d (.int .i64 (w64 (s7 + (1 : Int))))))] [(1007, some (.box 26 (.d (.st [(.int .i64 r3), (.int .i64 r2), (.int .i64 r1)])))), (1008, some (.box 26 (.d (e_api_Bucket r6.1))))] hB (by rfl) (by rfl) (by rfl)) (Mat.pat [] ((fun s7 : Int => ([(0, (.d (.int .i64 r2))), (1, (.d (.int .i64 r1))), (7, (.ptr 1007 0 [])), (8, (.ptr 1008 0 [])), (9, (.d (.list 1 (r6.2.map (eI .i64))))), (33, (.d (.list 1 (r6.2.map (eI .i64))))), (34, (.d (.int .i64 (r6.2.length : Int)))), (35, (.d (.int .i64 s7)))] : EL)) (w64 (s7 + (1 : Int)))) ((fun s7 : Int => ([(1007, some (.box 26 (.d (.st [(.int .i64 r3), (.int .i64 r2), (.int .i64 r1)])))), (1008, some (.box 26 (.d (e_api_Bucket r6.1))))] : OL)) (w64 (s7 + (1 : Int)))) hB (by rfl) (by rfl) (by rfl)))⟩
    · replace h := ite_f hg16 h
      refine AWp.exit ?_
      refine seqQ_e ?_
      obtain rfl := Option.some.inj h
      exact ⟨(fun hc => by cases hc), rfl, (Mat.pat [] ((fun _ : Unit => ([(0, (.d (.int .i64 r2))), (1, (.d (.int .i64 r1))), (7, (.ptr 1007 0 [])), (8, (.ptr 1008 0 [])), (9, (.d (.list 1 (r6.2.map (eI .i64)))))] : EL)) ()) ((fun _ : Unit => ([(1007, some (.box 26 (.d (.st [(.int .i64 r3), (.int .i64 r2), (.int .i64 r1)])))), (1008, some (.box 26 (.d (e_api_Bucket r6.1))))] : OL)) ()) hB (by rfl) (by rfl) (by rfl))⟩
  · rcases x19 with _ | _
    · obtain ⟨rfl, hmat⟩ := hR
      refine blkQ_r ?_
      refine seqQ_r ?_
      obtain rfl := Option.some.inj h
      exact ⟨.inl rfl, _, _, (Mat.trans hmat (Mat.pat [] [(6, (.d (.bool false)))] [] hB (by rfl) (by rfl) (by rfl))), [(.d (.bool false))], (Res.tmp (by rfl) (by rfl) Res.nil), rfl, by rfl, by rfl, by rfl⟩
    · obtain ⟨rfl, hmat⟩ := hR
      refine blkQ_hit ?_
      refine seqQ_n ?_
      refine AWp.ghost hmat ?_
      refine AWp.seq ?_
      refine AWp.region (OpJs.cons (OpJ.loadB (bt := 26) (c := (.d (.st [(.int .i64 r3), (.int .i64 r2), (.int .i64 r1)]))) (v := (.d (.st [(.int .i64 r3), (.int .i64 r2), (.int .i64 r1)]))) tyS26 (At.here _) (by rfl) (by rfl) rfl (ltN hN rfl) (Opd.tmp 7 (.ptr 1007 0 [])))
        (OpJs.cons (OpJ.alloc hB tyZ26 (nm := 1012) (by decide) (ltN hN rfl))
        (OpJs.cons (OpJ.storeB (bt := 26) (c := (.d (.st [(.int .i64 (0 : Int)), (.int .i64 (0 : Int)), (.int .i64 (0 : Int))]))) (v := (.d (.st [(.int .i64 r3), (.int .i64 r2), (.int .i64 r1)]))) (c' := (.d (.st [(.int .i64 r3), (.int .i64 r2), (.int .i64 r1)]))) tyS26 (SetAt.here _ _) (by rfl) (by rfl) (by simp) rfl (Opd.tmp 12 (.ptr 1012 0 [])) (Opd.tmp 42 (.d (.st [(.int .i64 r3), (.int .i64 r2), (.int .i64 r1)]))))
        (OpJs.nil)))) (by rfl) (by rfl) ?_
      refine seqQ_n ?_
      refine AWp.ghost (Mat.pat [] [(0, (.d (.int .i64 r2))), (1, (.d (.int .i64 r1))), (8, (.ptr 1008 0 [])), (9, (.d (.list 1 (r6.2.map (eI .i64))))), (12, (.ptr 1012 0 []))] [(1008, some (.box 26 (.d (e_api_Bucket r6.1)))), (1012, some (.box 26 (.d (.st [(.int .i64 r3), (.int .i64 r2), (.int .i64 r1)]))))] hB (by rfl) (by rfl) (by rfl)) ?_
      refine AWp.seq ?_
      refine AWp.seq ?_
      refine AWp.region (OpJs.cons (OpJ.move (ltN hN rfl) (Opd.tmp 0 (.d (.int .i64 r2))))
        (OpJs.cons (OpJ.gtr (ltN hN rfl) (Opd.tmp 43 (.d (.int .i64 r2))) (Opd.int .i64 (0)))
        (OpJs.nil))) (by rfl) (by rfl) ?_
      refine seqQ_n ?_
      refine AWp.ghost (Mat.pat [] [(1, (.d (.int .i64 r1))), (8, (.ptr 1008 0 [])), (9, (.d (.list 1 (r6.2.map (eI .i64))))), (12, (.ptr 1012 0 [])), (44, (.d (.bool (decide ((0 : Int) < r2)))))] [(1008, some (.box 26 (.d (e_api_Bucket r6.1)))), (1012, some (.box 26 (.d (.st [(.int .i64 r3), (.int .i64 r2), (.int .i64 r1)]))))] hB (by rfl) (by rfl) (by rfl)) ?_
      refine AWp.cut h (fun m22 : Int => ([(1, (.d (.int .i64 r1))), (8, (.ptr 1008 0 [])), (9, (.d (.list 1 (r6.2.map (eI .i64))))), (12, (.ptr 1012 0 []))] : EL)) (fun m22 : Int => ([(1008, some (.box 26 (.d (e_api_Bucket r6.1)))), (1012, some (.box 26 (.d (.st [(.int .i64 m22), (.int .i64 r2), (.int .i64 r1)]))))] : OL)) (fun m22 h E' O' hmat => ?_) (fun j23 hjj23 h => ?_)
      · refine seqQ_n ?_
        refine AWp.ghost hmat ?_
        refine AWp.seq ?_
        refine AWp.cut h (fun m26 : Bool => ([(6, (.d (.bool m26)))] : EL)) (fun m26 : Bool => ([] : OL)) (fun m26 h E' O' hmat => ?_) (fun j27 hjj27 h => ?_)
        · refine seqQ_n ?_
          refine AWp.ghost hmat ?_
          refine AWp.ret ?_
          obtain rfl := Option.some.inj h
          exact ⟨.inl rfl, _, _, (Mat.pat [] [(6, (.d (.bool m26)))] [] hB (by rfl) (by rfl) (by rfl)), [(.d (.bool m26))], (Res.tmp (by rfl) (by rfl) Res.nil), rfl, by rfl, by rfl, by rfl⟩
        · rcases Bool.eq_false_or_eq_true (((r6.1.fLevel == m22) && ((r6.1.fRate == r2) && ((r6.1.fBurst == r1) && true))) && ((r6.2.length : Int) == r1)) with hg28 | hg28
          · replace h := ite_t hg28 h
            obtain ⟨r29, hr29, h⟩ := bindS h
            refine AWp.region (OpJs.cons (OpJ.loadB (bt := 26) (c := (.d (e_api_Bucket r6.1))) (v := (.d (e_api_Bucket r6.1))) tyS26 (At.here _) (by rfl) (by rfl) rfl (ltN hN rfl) (Opd.tmp 8 (.ptr 1008 0 [])))
              (OpJs.cons (OpJ.loadB (bt := 26) (c := (.d (.st [(.int .i64 m22), (.int .i64 r2), (.int .i64 r1)]))) (v := (.d (.st [(.int .i64 m22), (.int .i64 r2), (.int .i64 r1)]))) tyS26 (At.here _) (by rfl) (by rfl) rfl (ltN hN rfl) (Opd.tmp 12 (.ptr 1012 0 [])))
              (OpJs.cons (OpJ.eqlD (h := 2) (FitE.st Try.underlying26 rfl held26 (FitF.cons (x := (.int .i64 r6.1.fLevel)) (y := (.int .i64 m22)) (by decide) rfl tyS3 ⟨rfl, rfl⟩ ⟨rfl, rfl⟩ (FitE.int (h := 0) r6.1.fLevel m22 Try.underlying3) (FitF.cons (x := (.int .i64 r6.1.fRate)) (y := (.int .i64 r2)) (by decide) rfl tyS3 ⟨rfl, rfl⟩ ⟨rfl, rfl⟩ (FitE.int (h := 0) r6.1.fRate r2 Try.underlying3) (FitF.cons (x := (.int .i64 r6.1.fBurst)) (y := (.int .i64 r1)) (by decide) rfl tyS3 ⟨rfl, rfl⟩ ⟨rfl, rfl⟩ (FitE.int (h := 0) r6.1.fBurst r1 Try.underlying3) FitF.nil)))) eqg26 ⟨rfl, rfl⟩ (by rfl) (ltN hN rfl) (Opd.tmp 47 (.d (e_api_Bucket r6.1))) (Opd.tmp 48 (.d (.st [(.int .i64 m22), (.int .i64 r2), (.int .i64 r1)]))))
              (OpJs.cons (OpJ.move (ltN hN rfl) (Opd.tmp 49 (.d (.bool ((r6.1.fLevel == m22) && ((r6.1.fRate == r2) && ((r6.1.fBurst == r1) && true)))))))
              (OpJs.cons (OpJ.opt' (v := (.d (.list 1 (r6.2.map (eI .i64))))) (OpJ.move (ltN hN rfl) (Opd.tmp 9 (.d (.list 1 (r6.2.map (eI .i64)))))) (by rfl) (GuardV.plain _) (ltN hN rfl) (by rfl) (by rfl) (by rfl) (by rfl) (OptL.keep rfl OptL.nil))
              (OpJs.cons (OpJ.opt' (v := (.d (.int .i64 (r6.2.length : Int)))) (OpJ.val (v' := (.d (.int .i64 (r6.2.length : Int)))) (by simp) (OpJ.lenD Try.underlying22 (ltN hN rfl) (Opd.tmp 51 (.d (.list 1 (r6.2.map (eI .i64))))))) (by rfl) (GuardV.plain _) (ltN hN rfl) (by rfl) (by rfl) (by rfl) (by rfl) (OptL.opt OptL.nil))
              (OpJs.cons (OpJ.opt' (v := (.d (.int .i64 r1))) (OpJ.move (ltN hN rfl) (Opd.tmp 1 (.d (.int .i64 r1)))) (by rfl) (GuardV.plain _) (ltN hN rfl) (by rfl) (by rfl) (by rfl) (by rfl) (OptL.keep rfl OptL.nil))
              (OpJs.cons (OpJ.opt' (v := (.d (.bool ((r6.2.length : Int) == r1)))) (OpJ.eqlI (ltN hN rfl) (Opd.tmp 52 (.d (.int .i64 (r6.2.length : Int)))) (Opd.tmp 53 (.d (.int .i64 r1)))) (by rfl) (GuardV.plain _) (ltN hN rfl) (by rfl) (by rfl) (by rfl) (by rfl) (OptL.opt (OptL.opt OptL.nil)))
              (OpJs.cons (OpJ.pickAnd rfl (ltN hN rfl) (Opd.tmp 50 (.d (.bool ((r6.1.fLevel == m22) && ((r6.1.fRate == r2) && ((r6.1.fBurst == r1) && true)))))) (Opd.tmp 54 (.opt (((r6.1.fLevel == m22) && ((r6.1.fRate == r2) && ((r6.1.fBurst == r1) && true))) == true) (.d (.bool ((r6.2.length : Int) == r1))))))
              (OpJs.cons (OpJ.val (v' := .d (.bool true)) (by rw [hg28]) (OpJ.move (ltN hN rfl) (Opd.tmp 55 (.d (.bool (((r6.1.fLevel == m22) && ((r6.1.fRate == r2) && ((r6.1.fBurst == r1) && true))) && ((r6.2.length : Int) == r1)))))))
              (OpJs.cons (OpJ.guarded (by rfl) (OpJ.callFn hB fnOk6 (exchangepointlaw12_awake_ac  r29 hr29) [] (by kernel_rfl) (ltN hN rfl) (by kernel_rfl) OpdL.nil))
              (OpJs.cons (OpJ.pickT (ltN hN rfl) (Opd.tmp 56 (.d (.bool true))) (Opd.tmp 57 (.d (.bool r29))))
              (OpJs.cons (OpJ.assign (ltN hN rfl) (Opd.tmp 58 (.d (.bool r29))))
              (OpJs.nil)))))))))))))) (by rfl) (by rfl) ?_
            exact hjj27 _ h _ _ (Mat.trans (Mat.pat [] [(6, (.d (.bool r29)))] [] hB (by rfl) (by rfl) (by rfl)) (Mat.pat [] ((fun m26 : Bool => ([(6, (.d (.bool m26)))] : EL)) r29) ((fun m26 : Bool => ([] : OL)) r29) hB (by rfl) (by rfl) (by rfl)))
          · replace h := ite_f hg28 h
            refine AWp.region (OpJs.cons (OpJ.loadB (bt := 26) (c := (.d (e_api_Bucket r6.1))) (v := (.d (e_api_Bucket r6.1))) tyS26 (At.here _) (by rfl) (by rfl) rfl (ltN hN rfl) (Opd.tmp 8 (.ptr 1008 0 [])))
              (OpJs.cons (OpJ.loadB (bt := 26) (c := (.d (.st [(.int .i64 m22), (.int .i64 r2), (.int .i64 r1)]))) (v := (.d (.st [(.int .i64 m22), (.int .i64 r2), (.int .i64 r1)]))) tyS26 (At.here _) (by rfl) (by rfl) rfl (ltN hN rfl) (Opd.tmp 12 (.ptr 1012 0 [])))
              (OpJs.cons (OpJ.eqlD (h := 2) (FitE.st Try.underlying26 rfl held26 (FitF.cons (x := (.int .i64 r6.1.fLevel)) (y := (.int .i64 m22)) (by decide) rfl tyS3 ⟨rfl, rfl⟩ ⟨rfl, rfl⟩ (FitE.int (h := 0) r6.1.fLevel m22 Try.underlying3) (FitF.cons (x := (.int .i64 r6.1.fRate)) (y := (.int .i64 r2)) (by decide) rfl tyS3 ⟨rfl, rfl⟩ ⟨rfl, rfl⟩ (FitE.int (h := 0) r6.1.fRate r2 Try.underlying3) (FitF.cons (x := (.int .i64 r6.1.fBurst)) (y := (.int .i64 r1)) (by decide) rfl tyS3 ⟨rfl, rfl⟩ ⟨rfl, rfl⟩ (FitE.int (h := 0) r6.1.fBurst r1 Try.underlying3) FitF.nil)))) eqg26 ⟨rfl, rfl⟩ (by rfl) (ltN hN rfl) (Opd.tmp 47 (.d (e_api_Bucket r6.1))) (Opd.tmp 48 (.d (.st [(.int .i64 m22), (.int .i64 r2), (.int .i64 r1)]))))
              (OpJs.cons (OpJ.move (ltN hN rfl) (Opd.tmp 49 (.d (.bool ((r6.1.fLevel == m22) && ((r6.1.fRate == r2) && ((r6.1.fBurst == r1) && true)))))))
              (OpJs.cons (OpJ.opt' (v := (.d (.list 1 (r6.2.map (eI .i64))))) (OpJ.move (ltN hN rfl) (Opd.tmp 9 (.d (.list 1 (r6.2.map (eI .i64)))))) (by rfl) (GuardV.plain _) (ltN hN rfl) (by rfl) (by rfl) (by rfl) (by rfl) (OptL.keep rfl OptL.nil))
              (OpJs.cons (OpJ.opt' (v := (.d (.int .i64 (r6.2.length : Int)))) (OpJ.val (v' := (.d (.int .i64 (r6.2.length : Int)))) (by simp) (OpJ.lenD Try.underlying22 (ltN hN rfl) (Opd.tmp 51 (.d (.list 1 (r6.2.map (eI .i64))))))) (by rfl) (GuardV.plain _) (ltN hN rfl) (by rfl) (by rfl) (by rfl) (by rfl) (OptL.opt OptL.nil))
              (OpJs.cons (OpJ.opt' (v := (.d (.int .i64 r1))) (OpJ.move (ltN hN rfl) (Opd.tmp 1 (.d (.int .i64 r1)))) (by rfl) (GuardV.plain _) (ltN hN rfl) (by rfl) (by rfl) (by rfl) (by rfl) (OptL.keep rfl OptL.nil))
              (OpJs.cons (OpJ.opt' (v := (.d (.bool ((r6.2.length : Int) == r1)))) (OpJ.eqlI (ltN hN rfl) (Opd.tmp 52 (.d (.int .i64 (r6.2.length : Int)))) (Opd.tmp 53 (.d (.int .i64 r1)))) (by rfl) (GuardV.plain _) (ltN hN rfl) (by rfl) (by rfl) (by rfl) (by rfl) (OptL.opt (OptL.opt OptL.nil)))
              (OpJs.cons (OpJ.pickAnd rfl (ltN hN rfl) (Opd.tmp 50 (.d (.bool ((r6.1.fLevel == m22) && ((r6.1.fRate == r2) && ((r6.1.fBurst == r1) && true)))))) (Opd.tmp 54 (.opt (((r6.1.fLevel == m22) && ((r6.1.fRate == r2) && ((r6.1.fBurst == r1) && true))) == true) (.d (.bool ((r6.2.length : Int) == r1))))))
              (OpJs.cons (OpJ.val (v' := .d (.bool false)) (by rw [hg28]) (OpJ.move (ltN hN rfl) (Opd.tmp 55 (.d (.bool (((r6.1.fLevel == m22) && ((r6.1.fRate == r2) && ((r6.1.fBurst == r1) && true))) && ((r6.2.length : Int) == r1)))))))
              (OpJs.cons (OpJ.skipU (ltN hN rfl) (by rfl))
              (OpJs.cons (OpJ.pickF (ltN hN rfl) (Opd.tmp 56 (.d (.bool false))) (Opd.bool false))
              (OpJs.cons (OpJ.assign (ltN hN rfl) (Opd.tmp 58 (.d (.bool false))))
              (OpJs.nil)))))))))))))) (by rfl) (by rfl) ?_
            exact hjj27 _ h _ _ (Mat.trans (Mat.pat [] [(6, (.d (.bool false)))] [] hB (by rfl) (by rfl) (by rfl)) (Mat.pat [] ((fun m26 : Bool => ([(6, (.d (.bool m26)))] : EL)) false) ((fun m26 : Bool => ([] : OL)) false) hB (by rfl) (by rfl) (by rfl)))
      · refine AWp.cond (b := (decide ((0 : Int) < r2))) (by rfl) (fun hg30 => ?_) (fun hg30 => ?_)
        · replace h := ite_t hg30 h
          refine AWp.region (OpJs.cons (OpJ.move (ltN hN rfl) (Opd.tmp 1 (.d (.int .i64 r1))))
            (OpJs.cons (OpJ.val (v' := (.ptr 1012 0 [0])) (by rfl) (OpJ.fieldP Try.underlying26 (by rfl) (o := 0) (by rfl) tyS3 (by decide) (obj := (.box 26 (.d (.st [(.int .i64 r3), (.int .i64 r2), (.int .i64 r1)])))) (ltN hN rfl) (Opd.tmp 12 (.ptr 1012 0 []))))
            (OpJs.cons (OpJ.storeB (bt := 26) (c := (.d (.st [(.int .i64 r3), (.int .i64 r2), (.int .i64 r1)]))) (v := (.d (.int .i64 r1))) (c' := (.d (.st [(.int .i64 r1), (.int .i64 r2), (.int .i64 r1)]))) tyS3 (SetAt.dst1 (f := (.int .i64 r3)) (f' := (.int .i64 r1)) (by rfl) (by rfl) (SetAt.here _ _) (by rfl) (by rfl) (by first | rfl | omega)) (by rfl) (by rfl) (by simp) rfl (Opd.tmp 46 (.ptr 1012 0 [0])) (Opd.tmp 45 (.d (.int .i64 r1))))
            (OpJs.nil)))) (by rfl) (by rfl) ?_
          exact hjj23 _ h _ _ (Mat.trans (Mat.pat [] [(1, (.d (.int .i64 r1))), (8, (.ptr 1008 0 [])), (9, (.d (.list 1 (r6.2.map (eI .i64))))), (12, (.ptr 1012 0 []))] [(1008, some (.box 26 (.d (e_api_Bucket r6.1)))), (1012, some (.box 26 (.d (.st [(.int .i64 r1), (.int .i64 r2), (.int .i64 r1)]))))] hB (by rfl) (by rfl) (by rfl)) (Mat.pat [] ((fun m22 : Int => ([(1, (.d (.int .i64 r1))), (8, (.ptr 1008 0 [])), (9, (.d (.list 1 (r6.2.map (eI .i64))))), (12, (.ptr 1012 0 []))] : EL)) r1) ((fun m22 : Int => ([(1008, some (.box 26 (.d (e_api_Bucket r6.1)))), (1012, some (.box 26 (.d (.st [(.int .i64 m22), (.int .i64 r2), (.int .i64 r1)]))))] : OL)) r1) hB (by rfl) (by rfl) (by rfl)))
        · replace h := ite_f hg30 h
          refine AWp.skip ?_
          exact hjj23 _ h _ _ (Mat.pat [] ((fun m22 : Int => ([(1, (.d (.int .i64 r1))), (8, (.ptr 1008 0 [])), (9, (.d (.list 1 (r6.2.map (eI .i64))))), (12, (.ptr 1012 0 []))] : EL)) r3) ((fun m22 : Int => ([(1008, some (.box 26 (.d (e_api_Bucket r6.1)))), (1012, some (.box 26 (.d (.st [(.int .i64 m22), (.int .i64 r2), (.int .i64 r1)]))))] : OL)) r3) hB (by rfl) (by rfl) (by rfl))

noncomputable def meter_Valid (a0 : api_Bucket) : Option (Bool) :=
  some ((((((decide ((0 : Int) ≤ a0.fBurst)) && (decide (a0.fBurst ≤ (1048576 : Int)))) && (decide ((0 : Int) ≤ a0.fRate))) && (decide (a0.fRate ≤ a0.fBurst))) && (decide ((0 : Int) ≤ a0.fLevel))) && (decide (a0.fLevel ≤ a0.fBurst)))
set_option maxHeartbeats 4000000 in
set_option maxRecDepth 100000 in
theorem meter_Valid_ac (a0 : api_Bucket) (r : Bool) (h : meter_Valid a0 = some r) : AC Try.prog 10 [(.d (e_api_Bucket a0))] [] (.d (.bool r)) [] := by
  refine AC.of_code2 Try.func10 rfl rfl (Nat.le_of_ble_eq_true (by rfl)) fun B hB hN => ?_
  delta meter_Valid at h
  refine AWp.seq ?_
  refine AWp.region (OpJs.cons (OpJ.box hB (nm := 1001) (by decide) (by simp) rfl (ltN hN rfl) (Opd.tmp 0 (.d (e_api_Bucket a0))))
  (OpJs.cons (OpJ.assign (ltN hN rfl) (Opd.bool false))
  (OpJs.nil))) (by rfl) (by rfl) ?_
  refine seqQ_n ?_
  refine AWp.ghost (Mat.pat [] [(1, (.ptr 1001 0 []))] [(1001, some (.box 26 (.d (e_api_Bucket a0))))] hB (by rfl) (by rfl) (by rfl)) ?_
  refine AWp.seq ?_
  refine AWp.region (OpJs.cons (OpJ.val (v' := (.ptr 1001 2 [2])) (by rfl) (OpJ.fieldP Try.underlying26 (by rfl) (o := 2) (by rfl) tyS3 (by decide) (obj := (.box 26 (.d (e_api_Bucket a0)))) (ltN hN rfl) (Opd.tmp 1 (.ptr 1001 0 []))))
  (OpJs.cons (OpJ.loadB (bt := 26) (c := (.d (e_api_Bucket a0))) (v := (.d (.int .i64 a0.fBurst))) tyS3 (At.dst1 (f := (.int .i64 a0.fBurst)) (by rfl) (by rfl) (At.here _) (by first | rfl | omega)) (by rfl) (by rfl) rfl (ltN hN rfl) (Opd.tmp 3 (.ptr 1001 2 [2])))
  (OpJs.cons (OpJ.geq (ltN hN rfl) (Opd.tmp 4 (.d (.int .i64 a0.fBurst))) (Opd.int .i64 (0)))
  (OpJs.cons (OpJ.move (ltN hN rfl) (Opd.tmp 5 (.d (.bool (decide ((0 : Int) ≤ a0.fBurst))))))
  (OpJs.cons (OpJ.opt' (v := (.ptr 1001 2 [2])) (OpJ.val (v' := (.ptr 1001 2 [2])) (by rfl) (OpJ.fieldP Try.underlying26 (by rfl) (o := 2) (by rfl) tyS3 (by decide) (obj := (.box 26 (.d (e_api_Bucket a0)))) (ltN hN rfl) (Opd.tmp 1 (.ptr 1001 0 [])))) (by rfl) (GuardV.plain _) (ltN hN rfl) (by rfl) (by rfl) (by rfl) (by rfl) (OptL.keep rfl OptL.nil))
  (OpJs.cons (OpJ.opt' (v := (.d (.int .i64 a0.fBurst))) (OpJ.loadB (bt := 26) (c := (.d (e_api_Bucket a0))) (v := (.d (.int .i64 a0.fBurst))) tyS3 (At.dst1 (f := (.int .i64 a0.fBurst)) (by rfl) (by rfl) (At.here _) (by first | rfl | omega)) (by rfl) (by rfl) rfl (ltN hN rfl) (Opd.tmp 7 (.ptr 1001 2 [2]))) (by rfl) (GuardV.plain _) (ltN hN rfl) (by rfl) (by rfl) (by rfl) (by rfl) (OptL.opt OptL.nil))
  (OpJs.cons (OpJ.opt' (v := (.d (.bool (decide (a0.fBurst ≤ (1048576 : Int)))))) (OpJ.leq (ltN hN rfl) (Opd.tmp 8 (.d (.int .i64 a0.fBurst))) (Opd.int .i64 (1048576))) (by rfl) (GuardV.plain _) (ltN hN rfl) (by rfl) (by rfl) (by rfl) (by rfl) (OptL.opt OptL.nil))
  (OpJs.cons (OpJ.pickAnd rfl (ltN hN rfl) (Opd.tmp 6 (.d (.bool (decide ((0 : Int) ≤ a0.fBurst))))) (Opd.tmp 9 (.opt ((decide ((0 : Int) ≤ a0.fBurst)) == true) (.d (.bool (decide (a0.fBurst ≤ (1048576 : Int))))))))
  (OpJs.cons (OpJ.move (ltN hN rfl) (Opd.tmp 10 (.d (.bool ((decide ((0 : Int) ≤ a0.fBurst)) && (decide (a0.fBurst ≤ (1048576 : Int))))))))
  (OpJs.cons (OpJ.opt' (v := (.ptr 1001 1 [1])) (OpJ.val (v' := (.ptr 1001 1 [1])) (by rfl) (OpJ.fieldP Try.underlying26 (by rfl) (o := 1) (by rfl) tyS3 (by decide) (obj := (.box 26 (.d (e_api_Bucket a0)))) (ltN hN rfl) (Opd.tmp 1 (.ptr 1001 0 [])))) (by rfl) (GuardV.plain _) (ltN hN rfl) (by rfl) (by rfl) (by rfl) (by rfl) (OptL.keep rfl OptL.nil))
  (OpJs.cons (OpJ.opt' (v := (.d (.int .i64 a0.fRate))) (OpJ.loadB (bt := 26) (c := (.d (e_api_Bucket a0))) (v := (.d (.int .i64 a0.fRate))) tyS3 (At.dst1 (f := (.int .i64 a0.fRate)) (by rfl) (by rfl) (At.here _) (by first | rfl | omega)) (by rfl) (by rfl) rfl (ltN hN rfl) (Opd.tmp 12 (.ptr 1001 1 [1]))) (by rfl) (GuardV.plain _) (ltN hN rfl) (by rfl) (by rfl) (by rfl) (by rfl) (OptL.opt OptL.nil))
  (OpJs.cons (OpJ.opt' (v := (.d (.bool (decide ((0 : Int) ≤ a0.fRate))))) (OpJ.geq (ltN hN rfl) (Opd.tmp 13 (.d (.int .i64 a0.fRate))) (Opd.int .i64 (0))) (by rfl) (GuardV.plain _) (ltN hN rfl) (by rfl) (by rfl) (by rfl) (by rfl) (OptL.opt OptL.nil))
  (OpJs.cons (OpJ.pickAnd rfl (ltN hN rfl) (Opd.tmp 11 (.d (.bool ((decide ((0 : Int) ≤ a0.fBurst)) && (decide (a0.fBurst ≤ (1048576 : Int))))))) (Opd.tmp 14 (.opt (((decide ((0 : Int) ≤ a0.fBurst)) && (decide (a0.fBurst ≤ (1048576 : Int)))) == true) (.d (.bool (decide ((0 : Int) ≤ a0.fRate)))))))
  (OpJs.cons (OpJ.move (ltN hN rfl) (Opd.tmp 15 (.d (.bool (((decide ((0 : Int) ≤ a0.fBurst)) && (decide (a0.fBurst ≤ (1048576 : Int)))) && (decide ((0 : Int) ≤ a0.fRate)))))))
  (OpJs.cons (OpJ.opt' (v := (.ptr 1001 1 [1])) (OpJ.val (v' := (.ptr 1001 1 [1])) (by rfl) (OpJ.fieldP Try.underlying26 (by rfl) (o := 1) (by rfl) tyS3 (by decide) (obj := (.box 26 (.d (e_api_Bucket a0)))) (ltN hN rfl) (Opd.tmp 1 (.ptr 1001 0 [])))) (by rfl) (GuardV.plain _) (ltN hN rfl) (by rfl) (by rfl) (by rfl) (by rfl) (OptL.keep rfl OptL.nil))
  (OpJs.cons (OpJ.opt' (v := (.d (.int .i64 a0.fRate))) (OpJ.loadB (bt := 26) (c := (.d (e_api_Bucket a0))) (v := (.d (.int .i64 a0.fRate))) tyS3 (At.dst1 (f := (.int .i64 a0.fRate)) (by rfl) (by rfl) (At.here _) (by first | rfl | omega)) (by rfl) (by rfl) rfl (ltN hN rfl) (Opd.tmp 17 (.ptr 1001 1 [1]))) (by rfl) (GuardV.plain _) (ltN hN rfl) (by rfl) (by rfl) (by rfl) (by rfl) (OptL.opt OptL.nil))
  (OpJs.cons (OpJ.opt' (v := (.ptr 1001 2 [2])) (OpJ.val (v' := (.ptr 1001 2 [2])) (by rfl) (OpJ.fieldP Try.underlying26 (by rfl) (o := 2) (by rfl) tyS3 (by decide) (obj := (.box 26 (.d (e_api_Bucket a0)))) (ltN hN rfl) (Opd.tmp 1 (.ptr 1001 0 [])))) (by rfl) (GuardV.plain _) (ltN hN rfl) (by rfl) (by rfl) (by rfl) (by rfl) (OptL.keep rfl OptL.nil))
  (OpJs.cons (OpJ.opt' (v := (.d (.int .i64 a0.fBurst))) (OpJ.loadB (bt := 26) (c := (.d (e_api_Bucket a0))) (v := (.d (.int .i64 a0.fBurst))) tyS3 (At.dst1 (f := (.int .i64 a0.fBurst)) (by rfl) (by rfl) (At.here _) (by first | rfl | omega)) (by rfl) (by rfl) rfl (ltN hN rfl) (Opd.tmp 19 (.ptr 1001 2 [2]))) (by rfl) (GuardV.plain _) (ltN hN rfl) (by rfl) (by rfl) (by rfl) (by rfl) (OptL.opt OptL.nil))
  (OpJs.cons (OpJ.opt' (v := (.d (.bool (decide (a0.fRate ≤ a0.fBurst))))) (OpJ.leq (ltN hN rfl) (Opd.tmp 18 (.d (.int .i64 a0.fRate))) (Opd.tmp 20 (.d (.int .i64 a0.fBurst)))) (by rfl) (GuardV.plain _) (ltN hN rfl) (by rfl) (by rfl) (by rfl) (by rfl) (OptL.opt (OptL.opt OptL.nil)))
  (OpJs.cons (OpJ.pickAnd rfl (ltN hN rfl) (Opd.tmp 16 (.d (.bool (((decide ((0 : Int) ≤ a0.fBurst)) && (decide (a0.fBurst ≤ (1048576 : Int)))) && (decide ((0 : Int) ≤ a0.fRate)))))) (Opd.tmp 21 (.opt ((((decide ((0 : Int) ≤ a0.fBurst)) && (decide (a0.fBurst ≤ (1048576 : Int)))) && (decide ((0 : Int) ≤ a0.fRate))) == true) (.d (.bool (decide (a0.fRate ≤ a0.fBurst)))))))
  (OpJs.cons (OpJ.move (ltN hN rfl) (Opd.tmp 22 (.d (.bool ((((decide ((0 : Int) ≤ a0.fBurst)) && (decide (a0.fBurst ≤ (1048576 : Int)))) && (decide ((0 : Int) ≤ a0.fRate))) && (decide (a0.fRate ≤ a0.fBurst)))))))
  (OpJs.cons (OpJ.opt' (v := (.ptr 1001 0 [0])) (OpJ.val (v' := (.ptr 1001 0 [0])) (by rfl) (OpJ.fieldP Try.underlying26 (by rfl) (o := 0) (by rfl) tyS3 (by decide) (obj := (.box 26 (.d (e_api_Bucket a0)))) (ltN hN rfl) (Opd.tmp 1 (.ptr 1001 0 [])))) (by rfl) (GuardV.plain _) (ltN hN rfl) (by rfl) (by rfl) (by rfl) (by rfl) (OptL.keep rfl OptL.nil))
  (OpJs.cons (OpJ.opt' (v := (.d (.int .i64 a0.fLevel))) (OpJ.loadB (bt := 26) (c := (.d (e_api_Bucket a0))) (v := (.d (.int .i64 a0.fLevel))) tyS3 (At.dst1 (f := (.int .i64 a0.fLevel)) (by rfl) (by rfl) (At.here _) (by first | rfl | omega)) (by rfl) (by rfl) rfl (ltN hN rfl) (Opd.tmp 24 (.ptr 1001 0 [0]))) (by rfl) (GuardV.plain _) (ltN hN rfl) (by rfl) (by rfl) (by rfl) (by rfl) (OptL.opt OptL.nil))
  (OpJs.cons (OpJ.opt' (v := (.d (.bool (decide ((0 : Int) ≤ a0.fLevel))))) (OpJ.geq (ltN hN rfl) (Opd.tmp 25 (.d (.int .i64 a0.fLevel))) (Opd.int .i64 (0))) (by rfl) (GuardV.plain _) (ltN hN rfl) (by rfl) (by rfl) (by rfl) (by rfl) (OptL.opt OptL.nil))
  (OpJs.cons (OpJ.pickAnd rfl (ltN hN rfl) (Opd.tmp 23 (.d (.bool ((((decide ((0 : Int) ≤ a0.fBurst)) && (decide (a0.fBurst ≤ (1048576 : Int)))) && (decide ((0 : Int) ≤ a0.fRate))) && (decide (a0.fRate ≤ a0.fBurst)))))) (Opd.tmp 26 (.opt (((((decide ((0 : Int) ≤ a0.fBurst)) && (decide (a0.fBurst ≤ (1048576 : Int)))) && (decide ((0 : Int) ≤ a0.fRate))) && (decide (a0.fRate ≤ a0.fBurst))) == true) (.d (.bool (decide ((0 : Int) ≤ a0.fLevel)))))))
  (OpJs.cons (OpJ.move (ltN hN rfl) (Opd.tmp 27 (.d (.bool (((((decide ((0 : Int) ≤ a0.fBurst)) && (decide (a0.fBurst ≤ (1048576 : Int)))) && (decide ((0 : Int) ≤ a0.fRate))) && (decide (a0.fRate ≤ a0.fBurst))) && (decide ((0 : Int) ≤ a0.fLevel)))))))
  (OpJs.cons (OpJ.opt' (v := (.ptr 1001 0 [0])) (OpJ.val (v' := (.ptr 1001 0 [0])) (by rfl) (OpJ.fieldP Try.underlying26 (by rfl) (o := 0) (by rfl) tyS3 (by decide) (obj := (.box 26 (.d (e_api_Bucket a0)))) (ltN hN rfl) (Opd.tmp 1 (.ptr 1001 0 [])))) (by rfl) (GuardV.plain _) (ltN hN rfl) (by rfl) (by rfl) (by rfl) (by rfl) (OptL.keep rfl OptL.nil))
  (OpJs.cons (OpJ.opt' (v := (.d (.int .i64 a0.fLevel))) (OpJ.loadB (bt := 26) (c := (.d (e_api_Bucket a0))) (v := (.d (.int .i64 a0.fLevel))) tyS3 (At.dst1 (f := (.int .i64 a0.fLevel)) (by rfl) (by rfl) (At.here _) (by first | rfl | omega)) (by rfl) (by rfl) rfl (ltN hN rfl) (Opd.tmp 29 (.ptr 1001 0 [0]))) (by rfl) (GuardV.plain _) (ltN hN rfl) (by rfl) (by rfl) (by rfl) (by rfl) (OptL.opt OptL.nil))
  (OpJs.cons (OpJ.opt' (v := (.ptr 1001 2 [2])) (OpJ.val (v' := (.ptr 1001 2 [2])) (by rfl) (OpJ.fieldP Try.underlying26 (by rfl) (o := 2) (by rfl) tyS3 (by decide) (obj := (.box 26 (.d (e_api_Bucket a0)))) (ltN hN rfl) (Opd.tmp 1 (.ptr 1001 0 [])))) (by rfl) (GuardV.plain _) (ltN hN rfl) (by rfl) (by rfl) (by rfl) (by rfl) (OptL.keep rfl OptL.nil))
  (OpJs.cons (OpJ.opt' (v := (.d (.int .i64 a0.fBurst))) (OpJ.loadB (bt := 26) (c := (.d (e_api_Bucket a0))) (v := (.d (.int .i64 a0.fBurst))) tyS3 (At.dst1 (f := (.int .i64 a0.fBurst)) (by rfl) (by rfl) (At.here _) (by first | rfl | omega)) (by rfl) (by rfl) rfl (ltN hN rfl) (Opd.tmp 31 (.ptr 1001 2 [2]))) (by rfl) (GuardV.plain _) (ltN hN rfl) (by rfl) (by rfl) (by rfl) (by rfl) (OptL.opt OptL.nil))
  (OpJs.cons (OpJ.opt' (v := (.d (.bool (decide (a0.fLevel ≤ a0.fBurst))))) (OpJ.leq (ltN hN rfl) (Opd.tmp 30 (.d (.int .i64 a0.fLevel))) (Opd.tmp 32 (.d (.int .i64 a0.fBurst)))) (by rfl) (GuardV.plain _) (ltN hN rfl) (by rfl) (by rfl) (by rfl) (by rfl) (OptL.opt (OptL.opt OptL.nil)))
  (OpJs.cons (OpJ.pickAnd rfl (ltN hN rfl) (Opd.tmp 28 (.d (.bool (((((decide ((0 : Int) ≤ a0.fBurst)) && (decide (a0.fBurst ≤ (1048576 : Int)))) && (decide ((0 : Int) ≤ a0.fRate))) && (decide (a0.fRate ≤ a0.fBurst))) && (decide ((0 : Int) ≤ a0.fLevel)))))) (Opd.tmp 33 (.opt ((((((decide ((0 : Int) ≤ a0.fBurst)) && (decide (a0.fBurst ≤ (1048576 : Int)))) && (decide ((0 : Int) ≤ a0.fRate))) && (decide (a0.fRate ≤ a0.fBurst))) && (decide ((0 : Int) ≤ a0.fLevel))) == true) (.d (.bool (decide (a0.fLevel ≤ a0.fBurst)))))))
  (OpJs.cons (OpJ.assign (ltN hN rfl) (Opd.tmp 34 (.d (.bool ((((((decide ((0 : Int) ≤ a0.fBurst)) && (decide (a0.fBurst ≤ (1048576 : Int)))) && (decide ((0 : Int) ≤ a0.fRate))) && (decide (a0.fRate ≤ a0.fBurst))) && (decide ((0 : Int) ≤ a0.fLevel))) && (decide (a0.fLevel ≤ a0.fBurst)))))))
  (OpJs.nil)))))))))))))))))))))))))))))))))) (by rfl) (by rfl) ?_
  refine seqQ_n ?_
  refine AWp.ghost (Mat.pat [] [(2, (.d (.bool ((((((decide ((0 : Int) ≤ a0.fBurst)) && (decide (a0.fBurst ≤ (1048576 : Int)))) && (decide ((0 : Int) ≤ a0.fRate))) && (decide (a0.fRate ≤ a0.fBurst))) && (decide ((0 : Int) ≤ a0.fLevel))) && (decide (a0.fLevel ≤ a0.fBurst))))))] [] hB (by rfl) (by rfl) (by rfl)) ?_
  refine AWp.ret ?_
  obtain rfl := Option.some.inj h
  exact ⟨.inl rfl, _, _, (Mat.pat [] [(2, (.d (.bool ((((((decide ((0 : Int) ≤ a0.fBurst)) && (decide (a0.fBurst ≤ (1048576 : Int)))) && (decide ((0 : Int) ≤ a0.fRate))) && (decide (a0.fRate ≤ a0.fBurst))) && (decide ((0 : Int) ≤ a0.fLevel))) && (decide (a0.fLevel ≤ a0.fBurst))))))] [] hB (by rfl) (by rfl) (by rfl)), [(.d (.bool ((((((decide ((0 : Int) ≤ a0.fBurst)) && (decide (a0.fBurst ≤ (1048576 : Int)))) && (decide ((0 : Int) ≤ a0.fRate))) && (decide (a0.fRate ≤ a0.fBurst))) && (decide ((0 : Int) ≤ a0.fLevel))) && (decide (a0.fLevel ≤ a0.fBurst)))))], (Res.tmp (by rfl) (by rfl) Res.nil), rfl, by rfl, by rfl, by rfl⟩

noncomputable def exchangepointlaw12_MeterBounds_L0 (a0 : (List Int)) (s5 : Int × (List Int)) : Option ((((List Int))) ⊕ (Int × (List Int))) :=
  (if (decide (s5.1 < (a0.length : Int))) = true then
  (idx a0 s5.1).bind fun x16 =>
  (exchangepointmake_Mod x16 (30 : Int)).bind fun r17 =>
  chk (decide ((s5.2 ++ ([r17] : List Int)).length ≤ LIM)) <|
  some (.inr ((w64 (s5.1 + (1 : Int))), (s5.2 ++ ([r17] : List Int))))
  else
  some (.inl s5.2))
noncomputable def exchangepointlaw12_MeterBounds_L2 (r3 : Int) (r4 : Int) (p14 : (List Int)) (r23 : api_Bucket × (List Int)) (s29 : Int) (s131 : Int × Int) : Option (((Unit) ⊕ (Unit)) ⊕ (Int × Int)) :=
  (if (decide (s131.2 < (r23.2.length : Int))) = true then
  (idx r23.2 s131.2).bind fun x163 =>
  jn (fun m169 : Bool =>
  (if m169 = true then
  some (.inl (.inl ()))
  else
  some (.inr ((w64 (s131.1 + x163)), (w64 (s131.2 + (1 : Int))))))) (fun j170 =>
  (idx r23.2 s131.2).bind fun x172 =>
  (if (decide (x172 < (0 : Int))) = true then
  j170 true
  else
  (idx r23.2 s131.2).bind fun x174 =>
  (idx p14 s131.2).bind fun x175 =>
  j170 ((decide (x175 < x174)) || (decide ((w64 (r3 + (w64 ((w64 (s131.2 - s29)) * r4)))) < (w64 (s131.1 + x163)))))))
  else
  some (.inl (.inr ())))
noncomputable def exchangepointlaw12_MeterBounds_L1 (r3 : Int) (r4 : Int) (p14 : (List Int)) (r23 : api_Bucket × (List Int)) (s29 : Int) : Option (((Unit) ⊕ (Unit)) ⊕ (Int)) :=
  (if (decide (s29 < (r23.2.length : Int))) = true then
  (loop (exchangepointlaw12_MeterBounds_L2 r3 r4 p14 r23 s29) ((0 : Int), s29)).bind fun x176 => match x176 with
  | (.inl _) =>
    some (.inl (.inl ()))
  | (.inr _) =>
    some (.inr (w64 (s29 + (1 : Int))))
  else
  some (.inl (.inr ())))
noncomputable def exchangepointlaw12_MeterBounds (a0 : (List Int)) (a1 : Int) (a2 : Int) : Option (Bool) :=
  (if (decide ((120 : Int) < (a0.length : Int))) = true then
  (exchangepointlaw12_awake).bind fun r2 =>
  some r2
  else
  (exchangepointmake_Mod a2 (20 : Int)).bind fun r3 =>
  (exchangepointmake_Mod a1 (w64 (r3 + (1 : Int)))).bind fun r4 =>
  (loop (exchangepointlaw12_MeterBounds_L0 a0) ((0 : Int), ([] : List Int))).bind fun p14 =>
  (meter_New r4 r3).bind fun r22 =>
  (meter_Run r22 p14).bind fun r23 =>
  jn (fun m26 : Bool =>
  (if m26 = true then
  some false
  else
  (loop (exchangepointlaw12_MeterBounds_L1 r3 r4 p14 r23) (0 : Int)).bind fun x178 => match x178 with
  | (.inl _) =>
    some false
  | (.inr _) =>
    (exchangepointlaw12_awake).bind fun r180 =>
    some r180)) (fun j27 =>
  (if ((r23.2.length : Int) != (p14.length : Int)) = true then
  j27 true
  else
  (meter_Valid r23.1).bind fun r182 =>
  j27 (!r182))))
set_option maxHeartbeats 4000000 in
set_option maxRecDepth 100000 in
theorem exchangepointlaw12_MeterBounds_ac (a0 : (List Int)) (a1 : Int) (a2 : Int) (r : Bool) (h : exchangepointlaw12_MeterBounds a0 a1 a2 = some r) : AC Try.prog 5 [(.d (.list 1 (a0.map (eI .i64)))), (.d (.int .i64 a1)), (.d (.int .i64 a2))] [] (.d (.bool r)) [] := by
  refine AC.of_code2 Try.func5 rfl rfl (Nat.le_of_ble_eq_true (by rfl)) fun B hB hN => ?_
  delta exchangepointlaw12_MeterBounds at h
  refine AWp.seq ?_
  refine AWp.region (OpJs.cons (OpJ.assign (ltN hN rfl) (Opd.bool false))
  (OpJs.nil)) (by rfl) (by rfl) ?_
  refine seqQ_n ?_
  refine AWp.ghost (Mat.pat [] [(0, (.d (.list 1 (a0.map (eI .i64))))), (1, (.d (.int .i64 a1))), (2, (.d (.int .i64 a2)))] [] hB (by rfl) (by rfl) (by rfl)) ?_
  refine AWp.seq ?_
  refine AWp.seq ?_
  refine AWp.region (OpJs.cons (OpJ.move (ltN hN rfl) (Opd.tmp 0 (.d (.list 1 (a0.map (eI .i64))))))
  (OpJs.cons (OpJ.val (v' := (.d (.int .i64 (a0.length : Int)))) (by simp) (OpJ.lenD Try.underlying22 (ltN hN rfl) (Opd.tmp 15 (.d (.list 1 (a0.map (eI .i64)))))))
  (OpJs.cons (OpJ.gtr (ltN hN rfl) (Opd.tmp 16 (.d (.int .i64 (a0.length : Int)))) (Opd.int .i64 (120)))
  (OpJs.nil)))) (by rfl) (by rfl) ?_
  refine seqQ_n ?_
  refine AWp.ghost (Mat.pat [] [(0, (.d (.list 1 (a0.map (eI .i64))))), (1, (.d (.int .i64 a1))), (2, (.d (.int .i64 a2))), (17, (.d (.bool (decide ((120 : Int) < (a0.length : Int))))))] [] hB (by rfl) (by rfl) (by rfl)) ?_
  refine AWp.cond (b := (decide ((120 : Int) < (a0.length : Int)))) (by rfl) (fun hg1 => ?_) (fun hg1 => ?_)
  · replace h := ite_t hg1 h
    refine AWp.seq ?_
    obtain ⟨r2, hr2, h⟩ := bindS h
    refine AWp.region (OpJs.cons (OpJ.callFn hB fnOk6 (exchangepointlaw12_awake_ac  r2 hr2) [] (by kernel_rfl) (ltN hN rfl) (by kernel_rfl) OpdL.nil)
      (OpJs.cons (OpJ.assign (ltN hN rfl) (Opd.tmp 18 (.d (.bool r2))))
      (OpJs.nil))) (by rfl) (by rfl) ?_
    refine seqQ_n ?_
    refine AWp.ghost (Mat.pat [] [(6, (.d (.bool r2)))] [] hB (by rfl) (by rfl) (by rfl)) ?_
    refine AWp.ret ?_
    refine seqQ_r ?_
    obtain rfl := Option.some.inj h
    exact ⟨.inl rfl, _, _, (Mat.pat [] [(6, (.d (.bool r2)))] [] hB (by rfl) (by rfl) (by rfl)), [(.d (.bool r2))], (Res.tmp (by rfl) (by rfl) Res.nil), rfl, by rfl, by rfl, by rfl⟩
  · replace h := ite_f hg1 h
    refine AWp.skip ?_
    refine seqQ_n ?_
    refine AWp.seq ?_
    obtain ⟨r3, hr3, h⟩ := bindS h
    refine AWp.region (OpJs.cons (OpJ.move (ltN hN rfl) (Opd.tmp 2 (.d (.int .i64 a2))))
      (OpJs.cons (OpJ.callFn hB fnOk7 (exchangepointmake_Mod_ac a2 (20 : Int) r3 hr3) [] (by kernel_rfl) (ltN hN rfl) (by kernel_rfl) (OpdL.cons (Opd.tmp 19 (.d (.int .i64 a2))) (OpdL.cons (Opd.int .i64 (20)) OpdL.nil)))
      (OpJs.cons (OpJ.assign (ltN hN rfl) (Opd.tmp 20 (.d (.int .i64 r3))))
      (OpJs.nil)))) (by rfl) (by rfl) ?_
    refine seqQ_n ?_
    refine AWp.ghost (Mat.pat [] [(0, (.d (.list 1 (a0.map (eI .i64))))), (1, (.d (.int .i64 a1))), (2, (.d (.int .i64 r3)))] [] hB (by rfl) (by rfl) (by rfl)) ?_
    refine AWp.seq ?_
    obtain ⟨r4, hr4, h⟩ := bindS h
    refine AWp.region (OpJs.cons (OpJ.move (ltN hN rfl) (Opd.tmp 1 (.d (.int .i64 a1))))
      (OpJs.cons (OpJ.move (ltN hN rfl) (Opd.tmp 2 (.d (.int .i64 r3))))
      (OpJs.cons (OpJ.add (ltN hN rfl) (Opd.tmp 22 (.d (.int .i64 r3))) (Opd.int .i64 (1)))
      (OpJs.cons (OpJ.callFn hB fnOk7 (exchangepointmake_Mod_ac a1 (w64 (r3 + (1 : Int))) r4 hr4) [] (by kernel_rfl) (ltN hN rfl) (by kernel_rfl) (OpdL.cons (Opd.tmp 21 (.d (.int .i64 a1))) (OpdL.cons (Opd.tmp 23 (.d (.int .i64 (w64 (r3 + (1 : Int)))))) OpdL.nil)))
      (OpJs.cons (OpJ.assign (ltN hN rfl) (Opd.tmp 24 (.d (.int .i64 r4))))
      (OpJs.nil)))))) (by rfl) (by rfl) ?_
    refine seqQ_n ?_
    refine AWp.ghost (Mat.pat [] [(0, (.d (.list 1 (a0.map (eI .i64))))), (1, (.d (.int .i64 r4))), (2, (.d (.int .i64 r3)))] [] hB (by rfl) (by rfl) (by rfl)) ?_
    refine AWp.seq ?_
    refine AWp.region (OpJs.cons (OpJ.assign (ltN hN rfl) Opd.nils)
      (OpJs.nil)) (by rfl) (by rfl) ?_
    refine seqQ_n ?_
    refine AWp.ghost (Mat.pat [] [(0, (.d (.list 1 (a0.map (eI .i64))))), (1, (.d (.int .i64 r4))), (2, (.d (.int .i64 r3))), (7, .nils)] [] hB (by rfl) (by rfl) (by rfl)) ?_
    refine AWp.seq ?_
    refine AWp.seq ?_
    refine AWp.region (OpJs.cons (OpJ.move (ltN hN rfl) (Opd.tmp 0 (.d (.list 1 (a0.map (eI .i64))))))
      (OpJs.cons (OpJ.val (v' := (.d (.int .i64 (a0.length : Int)))) (by simp) (OpJ.lenD Try.underlying22 (ltN hN rfl) (Opd.tmp 25 (.d (.list 1 (a0.map (eI .i64)))))))
      (OpJs.cons (OpJ.move (ltN hN rfl) (Opd.int .i64 (0)))
      (OpJs.nil)))) (by rfl) (by rfl) ?_
    refine seqQ_n ?_
    refine AWp.ghost (Mat.pat [] [(1, (.d (.int .i64 r4))), (2, (.d (.int .i64 r3))), (7, .nils), (25, (.d (.list 1 (a0.map (eI .i64))))), (26, (.d (.int .i64 (a0.length : Int)))), (27, (.d (.int .i64 (0 : Int))))] [] hB (by rfl) (by rfl) (by rfl)) ?_
    refine AWp.block ?_
    obtain ⟨p14, hx20, h⟩ := bindS h
    refine AWp.ghost (Mat.trans (Mat.begin (n := 3007) (e := 3) (sz := 1) (k := 7) hB (by decide) (by rfl) (by decide) (by rfl)) (Mat.pat [] ((fun s5 : Int × (List Int) => ([(1, (.d (.int .i64 r4))), (2, (.d (.int .i64 r3))), (7, (.sref 3007 1 0 s5.2.length)), (25, (.d (.list 1 (a0.map (eI .i64))))), (26, (.d (.int .i64 (a0.length : Int)))), (27, (.d (.int .i64 s5.1)))] : EL)) ((0 : Int), ([] : List Int))) ((fun s5 : Int × (List Int) => ([(3007, some (.row 3 1 (s5.2.map (eI .i64))))] : OL)) ((0 : Int), ([] : List Int))) hB (by rfl) (by rfl) (by rfl))) ?_
    refine AWp.loopS (exchangepointlaw12_MeterBounds_L0 a0) (fun s5 : Int × (List Int) => ([(1, (.d (.int .i64 r4))), (2, (.d (.int .i64 r3))), (7, (.sref 3007 1 0 s5.2.length)), (25, (.d (.list 1 (a0.map (eI .i64))))), (26, (.d (.int .i64 (a0.length : Int)))), (27, (.d (.int .i64 s5.1)))] : EL)) (fun s5 : Int × (List Int) => ([(3007, some (.row 3 1 (s5.2.map (eI .i64))))] : OL)) (fun (p14 : ((List Int))) e E' O' => e = .exit 0 ∧ Mat B E' O' ([(1, (.d (.int .i64 r4))), (2, (.d (.int .i64 r3))), (7, (.sref 3007 1 0 p14.length))] : EL) ([(3007, some (.row 3 1 (p14.map (eI .i64))))] : OL)) hx20 (fun s5 y h => ?_) (fun e E' O' hR => ?_)
    · unfold exchangepointlaw12_MeterBounds_L0 at h
      show AWp _ _ _ _ ([(1, (.d (.int .i64 r4))), (2, (.d (.int .i64 r3))), (7, (.sref 3007 1 0 s5.2.length)), (25, (.d (.list 1 (a0.map (eI .i64))))), (26, (.d (.int .i64 (a0.length : Int)))), (27, (.d (.int .i64 s5.1)))] : EL) ([(3007, some (.row 3 1 (s5.2.map (eI .i64))))] : OL)
      refine AWp.seq ?_
      refine AWp.region (OpJs.cons (OpJ.lss (ltN hN rfl) (Opd.tmp 27 (.d (.int .i64 s5.1))) (Opd.tmp 26 (.d (.int .i64 (a0.length : Int)))))
        (OpJs.nil)) (by rfl) (by rfl) ?_
      refine seqQ_n ?_
      refine AWp.ghost (Mat.pat [] [(1, (.d (.int .i64 r4))), (2, (.d (.int .i64 r3))), (7, (.sref 3007 1 0 s5.2.length)), (25, (.d (.list 1 (a0.map (eI .i64))))), (26, (.d (.int .i64 (a0.length : Int)))), (27, (.d (.int .i64 s5.1))), (28, (.d (.bool (decide (s5.1 < (a0.length : Int))))))] [(3007, some (.row 3 1 (s5.2.map (eI .i64))))] hB (by rfl) (by rfl) (by rfl)) ?_
      refine AWp.seq ?_
      refine AWp.cond (b := (decide (s5.1 < (a0.length : Int)))) (by rfl) (fun hg15 => ?_) (fun hg15 => ?_)
      · replace h := ite_t hg15 h
        refine AWp.skip ?_
        refine seqQ_n ?_
        refine AWp.seq ?_
        refine AWp.block ?_
        refine AWp.seq ?_
        obtain ⟨x16, hx16, h⟩ := bindS h
        refine AWp.region (OpJs.cons (OpJ.indexD (el := (.int .i64 x16)) Try.underlying22 tyS3 (idx_some hx16).1 (get_map (eI .i64) (idx_some hx16).2) (ltN hN rfl) (Opd.tmp 25 (.d (.list 1 (a0.map (eI .i64))))) (Opd.tmp 27 (.d (.int .i64 s5.1))))
          (OpJs.cons (OpJ.loadD tyS3 (by rfl) (by rfl) (ltN hN rfl) (Opd.tmp 29 (.dptr (.int .i64 x16))))
          (OpJs.cons (OpJ.assign (ltN hN rfl) (Opd.tmp 30 (.d (.int .i64 x16))))
          (OpJs.nil)))) (by rfl) (by rfl) ?_
        refine seqQ_n ?_
        refine AWp.ghost (Mat.pat [] [(1, (.d (.int .i64 r4))), (2, (.d (.int .i64 r3))), (7, (.sref 3007 1 0 s5.2.length)), (9, (.d (.int .i64 x16))), (25, (.d (.list 1 (a0.map (eI .i64))))), (26, (.d (.int .i64 (a0.length : Int)))), (27, (.d (.int .i64 s5.1)))] [(3007, some (.row 3 1 (s5.2.map (eI .i64))))] hB (by rfl) (by rfl) (by rfl)) ?_
        obtain ⟨r17, hr17, h⟩ := bindS h
        obtain ⟨hc18, h⟩ := chk_some h
        refine AWp.region (OpJs.cons (OpJ.move (ltN hN rfl) (Opd.tmp 7 (.sref 3007 1 0 s5.2.length)))
          (OpJs.cons (OpJ.move (ltN hN rfl) (Opd.tmp 9 (.d (.int .i64 x16))))
          (OpJs.cons (OpJ.callFn hB fnOk7 (exchangepointmake_Mod_ac x16 (30 : Int) r17 hr17) [] (by kernel_rfl) (ltN hN rfl) (by kernel_rfl) (OpdL.cons (Opd.tmp 32 (.d (.int .i64 x16))) (OpdL.cons (Opd.int .i64 (30)) OpdL.nil)))
          (OpJs.cons (OpJ.buildSlice Try.underlying22 tyS3 tyZD3 (by rfl) (by decide) (by decide) (Opds.cons (Opd.tmp 33 (.d (.int .i64 r17))) Opds.nil) (by kernel_rfl) (es := ([(.int .i64 r17)] : List D)) (by rfl) (by rfl) (by kernel_rfl) (by simp) (ltN hN rfl))
          (OpJs.cons (OpJ.append hB Try.underlying22 tyE3 (nm := 1035) (by decide) (es := s5.2.map (eI .i64)) (ys := ([r17] : List Int).map (eI .i64)) (es' := (s5.2 ++ ([r17] : List Int)).map (eI .i64)) (len := (s5.2 ++ ([r17] : List Int)).length) (by simp) (by simp) (map_sz (f := (eI .i64)) (fun _ => rfl)) (by rw [List.length_map]; exact lim_mulN hc18 (by decide)) (by rw [List.length_map]; exact lim_leN hc18) (ltN hN rfl) (by simp) (Opd.tmp 31 (.sref 3007 1 0 s5.2.length)) (Opd.tmp 34 (.d (.list 1 (([r17] : List Int).map (eI .i64))))))
          (OpJs.cons (OpJ.assign (ltN hN rfl) (Opd.tmp 35 (.sref 1035 1 0 ((s5.2 ++ ([r17] : List Int)).length))))
          (OpJs.nil))))))) (by rfl) (by rfl) ?_
        refine blkQ_n ?_
        refine seqQ_n ?_
        refine AWp.ghost (Mat.pat [] [(1, (.d (.int .i64 r4))), (2, (.d (.int .i64 r3))), (7, (.sref 1035 1 0 ((s5.2 ++ ([r17] : List Int)).length))), (25, (.d (.list 1 (a0.map (eI .i64))))), (26, (.d (.int .i64 (a0.length : Int)))), (27, (.d (.int .i64 s5.1)))] [(1035, some (.row 3 1 ((s5.2 ++ ([r17] : List Int)).map (eI .i64))))] hB (by rfl) (by rfl) (by rfl)) ?_
        refine AWp.region (OpJs.cons (OpJ.add (ltN hN rfl) (Opd.tmp 27 (.d (.int .i64 s5.1))) (Opd.int .i64 (1)))
          (OpJs.cons (OpJ.move (ltN hN rfl) (Opd.tmp 36 (.d (.int .i64 (w64 (s5.1 + (1 : Int)))))))
          (OpJs.nil))) (by rfl) (by rfl) ?_
        obtain rfl := Option.some.inj h
        exact ⟨rfl, (Mat.trans (Mat.pat [] [(1, (.d (.int .i64 r4))), (2, (.d (.int .i64 r3))), (7, (.sref 1035 1 0 ((s5.2 ++ ([r17] : List Int)).length))), (25, (.d (.list 1 (a0.map (eI .i64))))), (26, (.d (.int .i64 (a0.length : Int)))), (27, (.d (.int .i64 (w64 (s5.1 + (1 : Int))))))] [(1035, some (.row 3 1 ((s5.2 ++ ([r17] : List Int)).map (eI .i64))))] hB (by rfl) (by rfl) (by rfl)) (Mat.pat [(3007, 1035)] ((fun s5 : Int × (List Int) => ([(1, (.d (.int .i64 r4))), (2, (.d (.int .i64 r3))), (7, (.sref 3007 1 0 s5.2.length)), (25, (.d (.list 1 (a0.map (eI .i64))))), (26, (.d (.int .i64 (a0.length : Int)))), (27, (.d (.int .i64 s5.1)))] : EL)) ((w64 (s5.1 + (1 : Int))), (s5.2 ++ ([r17] : List Int)))) ((fun s5 : Int × (List Int) => ([(3007, some (.row 3 1 (s5.2.map (eI .i64))))] : OL)) ((w64 (s5.1 + (1 : Int))), (s5.2 ++ ([r17] : List Int)))) hB (by rfl) (by rfl) (by rfl)))⟩
      · replace h := ite_f hg15 h
        refine AWp.exit ?_
        refine seqQ_e ?_
        obtain rfl := Option.some.inj h
        exact ⟨(fun hc => by cases hc), rfl, (Mat.pat [] ((fun p14 : (List Int) => ([(1, (.d (.int .i64 r4))), (2, (.d (.int .i64 r3))), (7, (.sref 3007 1 0 p14.length))] : EL)) s5.2) ((fun p14 : (List Int) => ([(3007, some (.row 3 1 (p14.map (eI .i64))))] : OL)) s5.2) hB (by rfl) (by rfl) (by rfl))⟩
    · obtain ⟨rfl, hmat⟩ := hR
      refine blkQ_hit ?_
      refine seqQ_n ?_
      refine AWp.ghost hmat ?_
      refine AWp.seq ?_
      refine AWp.ghost (Mat.freezeAll (n := 3007) (k := 7) (by rfl) (by rfl) (by simp)) ?_
      obtain ⟨r22, hr22, h⟩ := bindS h
      obtain ⟨r23, hr23, h⟩ := bindS h
      refine AWp.region (OpJs.cons (OpJ.move (ltN hN rfl) (Opd.tmp 1 (.d (.int .i64 r4))))
        (OpJs.cons (OpJ.move (ltN hN rfl) (Opd.tmp 2 (.d (.int .i64 r3))))
        (OpJs.cons (OpJ.callFn hB fnOk9 (meter_New_ac r4 r3 r22 hr22) [] (by kernel_rfl) (ltN hN rfl) (by kernel_rfl) (OpdL.cons (Opd.tmp 38 (.d (.int .i64 r4))) (OpdL.cons (Opd.tmp 39 (.d (.int .i64 r3))) OpdL.nil)))
        (OpJs.cons (OpJ.move (ltN hN rfl) (Opd.tmp 7 (.d (.list 1 (p14.map (eI .i64))))))
        (OpJs.cons (OpJ.callFn hB fnOk8 (meter_Run_ac r22 p14 r23 hr23) [] (by kernel_rfl) (ltN hN rfl) (by kernel_rfl) (OpdL.cons (Opd.tmp 40 (.d (e_api_Bucket r22))) (OpdL.cons (Opd.tmp 41 (.d (.list 1 (p14.map (eI .i64))))) OpdL.nil)))
        (OpJs.cons (OpJ.move (ltN hN rfl) (Opd.tmp 42 (.tup [(.d (e_api_Bucket r23.1)), (.d (.list 1 (r23.2.map (eI .i64))))])))
        (OpJs.cons (OpJ.extract (v := (.d (e_api_Bucket r23.1))) (by rfl) rfl (ltN hN rfl) (Opd.tmp 37 (.tup [(.d (e_api_Bucket r23.1)), (.d (.list 1 (r23.2.map (eI .i64))))])))
        (OpJs.cons (OpJ.extract (v := (.d (.list 1 (r23.2.map (eI .i64))))) (by rfl) rfl (ltN hN rfl) (Opd.tmp 37 (.tup [(.d (e_api_Bucket r23.1)), (.d (.list 1 (r23.2.map (eI .i64))))])))
        (OpJs.cons (OpJ.alloc hB tyZ26 (nm := 1010) (by decide) (ltN hN rfl))
        (OpJs.cons (OpJ.storeB (bt := 26) (c := (.d (.st [(.int .i64 (0 : Int)), (.int .i64 (0 : Int)), (.int .i64 (0 : Int))]))) (v := (.d (e_api_Bucket r23.1))) (c' := (.d (e_api_Bucket r23.1))) tyS26 (SetAt.here _ _) (by rfl) (by rfl) (by simp) rfl (Opd.tmp 10 (.ptr 1010 0 [])) (Opd.tmp 43 (.d (e_api_Bucket r23.1))))
        (OpJs.cons (OpJ.assign (ltN hN rfl) (Opd.tmp 44 (.d (.list 1 (r23.2.map (eI .i64))))))
        (OpJs.nil)))))))))))) (by rfl) (by rfl) ?_
      refine seqQ_n ?_
      refine AWp.ghost (Mat.pat [] [(1, (.d (.int .i64 r4))), (2, (.d (.int .i64 r3))), (7, (.d (.list 1 (p14.map (eI .i64))))), (10, (.ptr 1010 0 [])), (11, (.d (.list 1 (r23.2.map (eI .i64)))))] [(1010, some (.box 26 (.d (e_api_Bucket r23.1))))] hB (by rfl) (by rfl) (by rfl)) ?_
      refine AWp.seq ?_
      refine AWp.seq ?_
      refine AWp.cut h (fun m26 : Bool => ([(1, (.d (.int .i64 r4))), (2, (.d (.int .i64 r3))), (7, (.d (.list 1 (p14.map (eI .i64))))), (11, (.d (.list 1 (r23.2.map (eI .i64))))), (54, (.d (.bool m26)))] : EL)) (fun m26 : Bool => ([] : OL)) (fun m26 h E' O' hmat => ?_) (fun j27 hjj27 h => ?_)
      · refine seqQ_n ?_
        refine AWp.ghost hmat ?_
        refine AWp.cond (b := m26) (by rfl) (fun hg28 => ?_) (fun hg28 => ?_)
        · replace h := ite_t hg28 h
          refine AWp.seq ?_
          refine AWp.region (OpJs.cons (OpJ.assign (ltN hN rfl) (Opd.bool false))
            (OpJs.nil)) (by rfl) (by rfl) ?_
          refine seqQ_n ?_
          refine AWp.ghost (Mat.pat [] [(6, (.d (.bool false)))] [] hB (by rfl) (by rfl) (by rfl)) ?_
          refine AWp.ret ?_
          refine seqQ_r ?_
          obtain rfl := Option.some.inj h
          exact ⟨.inl rfl, _, _, (Mat.pat [] [(6, (.d (.bool false)))] [] hB (by rfl) (by rfl) (by rfl)), [(.d (.bool false))], (Res.tmp (by rfl) (by rfl) Res.nil), rfl, by rfl, by rfl, by rfl⟩
        · replace h := ite_f hg28 h
          refine AWp.skip ?_
          refine seqQ_n ?_
          refine AWp.seq ?_
          refine AWp.seq ?_
          refine AWp.region (OpJs.cons (OpJ.move (ltN hN rfl) (Opd.tmp 11 (.d (.list 1 (r23.2.map (eI .i64))))))
            (OpJs.cons (OpJ.val (v' := (.d (.int .i64 (r23.2.length : Int)))) (by simp) (OpJ.lenD Try.underlying22 (ltN hN rfl) (Opd.tmp 55 (.d (.list 1 (r23.2.map (eI .i64)))))))
            (OpJs.cons (OpJ.move (ltN hN rfl) (Opd.int .i64 (0)))
            (OpJs.nil)))) (by rfl) (by rfl) ?_
          refine seqQ_n ?_
          refine AWp.ghost (Mat.pat [] [(1, (.d (.int .i64 r4))), (2, (.d (.int .i64 r3))), (7, (.d (.list 1 (p14.map (eI .i64))))), (11, (.d (.list 1 (r23.2.map (eI .i64))))), (56, (.d (.int .i64 (r23.2.length : Int)))), (57, (.d (.int .i64 (0 : Int))))] [] hB (by rfl) (by rfl) (by rfl)) ?_
          refine AWp.block ?_
          obtain ⟨x178, hx179, h⟩ := bindS h
          refine AWp.ghost (Mat.pat [] ((fun s29 : Int => ([(1, (.d (.int .i64 r4))), (2, (.d (.int .i64 r3))), (7, (.d (.list 1 (p14.map (eI .i64))))), (11, (.d (.list 1 (r23.2.map (eI .i64))))), (56, (.d (.int .i64 (r23.2.length : Int)))), (57, (.d (.int .i64 s29)))] : EL)) (0 : Int)) ((fun s29 : Int => ([] : OL)) (0 : Int)) hB (by rfl) (by rfl) (by rfl)) ?_
          refine AWp.loopS (exchangepointlaw12_MeterBounds_L1 r3 r4 p14 r23) (fun s29 : Int => ([(1, (.d (.int .i64 r4))), (2, (.d (.int .i64 r3))), (7, (.d (.list 1 (p14.map (eI .i64))))), (11, (.d (.list 1 (r23.2.map (eI .i64))))), (56, (.d (.int .i64 (r23.2.length : Int)))), (57, (.d (.int .i64 s29)))] : EL)) (fun s29 : Int => ([] : OL)) (fun (x : (Unit) ⊕ (Unit)) e E' O' => match x with | (.inl _p) => e = .ret ∧ Mat B E' O' ([(6, (.d (.bool false)))] : EL) ([] : OL) | (.inr _p) => e = .exit 2 ∧ Mat B E' O' ([] : EL) ([] : OL)) hx179 (fun s29 y h => ?_) (fun e E' O' hR => ?_)
          · unfold exchangepointlaw12_MeterBounds_L1 at h
            show AWp _ _ _ _ ([(1, (.d (.int .i64 r4))), (2, (.d (.int .i64 r3))), (7, (.d (.list 1 (p14.map (eI .i64))))), (11, (.d (.list 1 (r23.2.map (eI .i64))))), (56, (.d (.int .i64 (r23.2.length : Int)))), (57, (.d (.int .i64 s29)))] : EL) ([] : OL)
            refine AWp.seq ?_
            refine AWp.region (OpJs.cons (OpJ.lss (ltN hN rfl) (Opd.tmp 57 (.d (.int .i64 s29))) (Opd.tmp 56 (.d (.int .i64 (r23.2.length : Int)))))
              (OpJs.nil)) (by rfl) (by rfl) ?_
            refine seqQ_n ?_
            refine AWp.ghost (Mat.pat [] [(1, (.d (.int .i64 r4))), (2, (.d (.int .i64 r3))), (7, (.d (.list 1 (p14.map (eI .i64))))), (11, (.d (.list 1 (r23.2.map (eI .i64))))), (56, (.d (.int .i64 (r23.2.length : Int)))), (57, (.d (.int .i64 s29))), (58, (.d (.bool (decide (s29 < (r23.2.length : Int))))))] [] hB (by rfl) (by rfl) (by rfl)) ?_
            refine AWp.seq ?_
            refine AWp.cond (b := (decide (s29 < (r23.2.length : Int)))) (by rfl) (fun hg130 => ?_) (fun hg130 => ?_)
            · replace h := ite_t hg130 h
              refine AWp.skip ?_
              refine seqQ_n ?_
              refine AWp.seq ?_
              refine AWp.block ?_
              refine AWp.seq ?_
              refine AWp.region (OpJs.cons (OpJ.move (ltN hN rfl) (Opd.tmp 57 (.d (.int .i64 s29))))
                (OpJs.cons (OpJ.assign (ltN hN rfl) (Opd.tmp 59 (.d (.int .i64 s29))))
                (OpJs.nil))) (by rfl) (by rfl) ?_
              refine seqQ_n ?_
              refine AWp.ghost (Mat.pat [] [(1, (.d (.int .i64 r4))), (2, (.d (.int .i64 r3))), (7, (.d (.list 1 (p14.map (eI .i64))))), (11, (.d (.list 1 (r23.2.map (eI .i64))))), (12, (.d (.int .i64 s29))), (56, (.d (.int .i64 (r23.2.length : Int)))), (57, (.d (.int .i64 s29)))] [] hB (by rfl) (by rfl) (by rfl)) ?_
              refine AWp.seq ?_
              refine AWp.region (OpJs.cons (OpJ.assign (ltN hN rfl) (Opd.int .i64 (0)))
                (OpJs.nil)) (by rfl) (by rfl) ?_
              refine seqQ_n ?_
              refine AWp.ghost (Mat.pat [] [(1, (.d (.int .i64 r4))), (2, (.d (.int .i64 r3))), (7, (.d (.list 1 (p14.map (eI .i64))))), (11, (.d (.list 1 (r23.2.map (eI .i64))))), (12, (.d (.int .i64 s29))), (13, (.d (.int .i64 (0 : Int)))), (56, (.d (.int .i64 (r23.2.length : Int)))), (57, (.d (.int .i64 s29)))] [] hB (by rfl) (by rfl) (by rfl)) ?_
              refine AWp.seq ?_
              refine AWp.region (OpJs.cons (OpJ.move (ltN hN rfl) (Opd.tmp 12 (.d (.int .i64 s29))))
                (OpJs.cons (OpJ.assign (ltN hN rfl) (Opd.tmp 60 (.d (.int .i64 s29))))
                (OpJs.nil))) (by rfl) (by rfl) ?_
              refine seqQ_n ?_
              refine AWp.ghost (Mat.pat [] [(1, (.d (.int .i64 r4))), (2, (.d (.int .i64 r3))), (7, (.d (.list 1 (p14.map (eI .i64))))), (11, (.d (.list 1 (r23.2.map (eI .i64))))), (12, (.d (.int .i64 s29))), (13, (.d (.int .i64 (0 : Int)))), (14, (.d (.int .i64 s29))), (56, (.d (.int .i64 (r23.2.length : Int)))), (57, (.d (.int .i64 s29)))] [] hB (by rfl) (by rfl) (by rfl)) ?_
              refine AWp.block ?_
              obtain ⟨x176, hx177, h⟩ := bindS h
              refine AWp.ghost (Mat.pat [] ((fun s131 : Int × Int => ([(1, (.d (.int .i64 r4))), (2, (.d (.int .i64 r3))), (7, (.d (.list 1 (p14.map (eI .i64))))), (11, (.d (.list 1 (r23.2.map (eI .i64))))), (12, (.d (.int .i64 s29))), (13, (.d (.int .i64 s131.1))), (14, (.d (.int .i64 s131.2))), (56, (.d (.int .i64 (r23.2.length : Int)))), (57, (.d (.int .i64 s29)))] : EL)) ((0 : Int), s29)) ((fun s131 : Int × Int => ([] : OL)) ((0 : Int), s29)) hB (by rfl) (by rfl) (by rfl)) ?_
              refine AWp.loopS (exchangepointlaw12_MeterBounds_L2 r3 r4 p14 r23 s29) (fun s131 : Int × Int => ([(1, (.d (.int .i64 r4))), (2, (.d (.int .i64 r3))), (7, (.d (.list 1 (p14.map (eI .i64))))), (11, (.d (.list 1 (r23.2.map (eI .i64))))), (12, (.d (.int .i64 s29))), (13, (.d (.int .i64 s131.1))), (14, (.d (.int .i64 s131.2))), (56, (.d (.int .i64 (r23.2.length : Int)))), (57, (.d (.int .i64 s29)))] : EL)) (fun s131 : Int × Int => ([] : OL)) (fun (x : (Unit) ⊕ (Unit)) e E' O' => match x with | (.inl _p) => e = .ret ∧ Mat B E' O' ([(6, (.d (.bool false)))] : EL) ([] : OL) | (.inr _p) => e = .exit 4 ∧ Mat B E' O' ([(1, (.d (.int .i64 r4))), (2, (.d (.int .i64 r3))), (7, (.d (.list 1 (p14.map (eI .i64))))), (11, (.d (.list 1 (r23.2.map (eI .i64))))), (56, (.d (.int .i64 (r23.2.length : Int)))), (57, (.d (.int .i64 s29)))] : EL) ([] : OL)) hx177 (fun s131 y h => ?_) (fun e E' O' hR => ?_)
              · unfold exchangepointlaw12_MeterBounds_L2 at h
                show AWp _ _ _ _ ([(1, (.d (.int .i64 r4))), (2, (.d (.int .i64 r3))), (7, (.d (.list 1 (p14.map (eI .i64))))), (11, (.d (.list 1 (r23.2.map (eI .i64))))), (12, (.d (.int .i64 s29))), (13, (.d (.int .i64 s131.1))), (14, (.d (.int .i64 s131.2))), (56, (.d (.int .i64 (r23.2.length : Int)))), (57, (.d (.int .i64 s29)))] : EL) ([] : OL)
                refine AWp.seq ?_
                refine AWp.seq ?_
                refine AWp.region (OpJs.cons (OpJ.move (ltN hN rfl) (Opd.tmp 14 (.d (.int .i64 s131.2))))
                  (OpJs.cons (OpJ.move (ltN hN rfl) (Opd.tmp 11 (.d (.list 1 (r23.2.map (eI .i64))))))
                  (OpJs.cons (OpJ.val (v' := (.d (.int .i64 (r23.2.length : Int)))) (by simp) (OpJ.lenD Try.underlying22 (ltN hN rfl) (Opd.tmp 62 (.d (.list 1 (r23.2.map (eI .i64)))))))
                  (OpJs.cons (OpJ.lss (ltN hN rfl) (Opd.tmp 61 (.d (.int .i64 s131.2))) (Opd.tmp 63 (.d (.int .i64 (r23.2.length : Int)))))
                  (OpJs.nil))))) (by rfl) (by rfl) ?_
                refine seqQ_n ?_
                refine AWp.ghost (Mat.pat [] [(1, (.d (.int .i64 r4))), (2, (.d (.int .i64 r3))), (7, (.d (.list 1 (p14.map (eI .i64))))), (11, (.d (.list 1 (r23.2.map (eI .i64))))), (12, (.d (.int .i64 s29))), (13, (.d (.int .i64 s131.1))), (14, (.d (.int .i64 s131.2))), (56, (.d (.int .i64 (r23.2.length : Int)))), (57, (.d (.int .i64 s29))), (64, (.d (.bool (decide (s131.2 < (r23.2.length : Int))))))] [] hB (by rfl) (by rfl) (by rfl)) ?_
                refine AWp.cond (b := (decide (s131.2 < (r23.2.length : Int)))) (by rfl) (fun hg162 => ?_) (fun hg162 => ?_)
                · replace h := ite_t hg162 h
                  refine AWp.skip ?_
                  refine seqQ_n ?_
                  refine AWp.seq ?_
                  refine AWp.block ?_
                  refine AWp.seq ?_
                  obtain ⟨x163, hx163, h⟩ := bindS h
                  refine AWp.region (OpJs.cons (OpJ.move (ltN hN rfl) (Opd.tmp 13 (.d (.int .i64 s131.1))))
                    (OpJs.cons (OpJ.move (ltN hN rfl) (Opd.tmp 11 (.d (.list 1 (r23.2.map (eI .i64))))))
                    (OpJs.cons (OpJ.move (ltN hN rfl) (Opd.tmp 14 (.d (.int .i64 s131.2))))
                    (OpJs.cons (OpJ.indexD (el := (.int .i64 x163)) Try.underlying22 tyS3 (idx_some hx163).1 (get_map (eI .i64) (idx_some hx163).2) (ltN hN rfl) (Opd.tmp 68 (.d (.list 1 (r23.2.map (eI .i64))))) (Opd.tmp 69 (.d (.int .i64 s131.2))))
                    (OpJs.cons (OpJ.loadD tyS3 (by rfl) (by rfl) (ltN hN rfl) (Opd.tmp 70 (.dptr (.int .i64 x163))))
                    (OpJs.cons (OpJ.add (ltN hN rfl) (Opd.tmp 67 (.d (.int .i64 s131.1))) (Opd.tmp 71 (.d (.int .i64 x163))))
                    (OpJs.cons (OpJ.assign (ltN hN rfl) (Opd.tmp 72 (.d (.int .i64 (w64 (s131.1 + x163))))))
                    (OpJs.nil)))))))) (by rfl) (by rfl) ?_
                  refine seqQ_n ?_
                  refine AWp.ghost (Mat.pat [] [(1, (.d (.int .i64 r4))), (2, (.d (.int .i64 r3))), (7, (.d (.list 1 (p14.map (eI .i64))))), (11, (.d (.list 1 (r23.2.map (eI .i64))))), (12, (.d (.int .i64 s29))), (13, (.d (.int .i64 (w64 (s131.1 + x163))))), (14, (.d (.int .i64 s131.2))), (56, (.d (.int .i64 (r23.2.length : Int)))), (57, (.d (.int .i64 s29)))] [] hB (by rfl) (by rfl) (by rfl)) ?_
                  refine AWp.seq ?_
                  refine AWp.cut h (fun m169 : Bool => ([(1, (.d (.int .i64 r4))), (2, (.d (.int .i64 r3))), (7, (.d (.list 1 (p14.map (eI .i64))))), (11, (.d (.list 1 (r23.2.map (eI .i64))))), (12, (.d (.int .i64 s29))), (13, (.d (.int .i64 (w64 (s131.1 + x163))))), (14, (.d (.int .i64 s131.2))), (56, (.d (.int .i64 (r23.2.length : Int)))), (57, (.d (.int .i64 s29))), (99, (.d (.bool m169)))] : EL)) (fun m169 : Bool => ([] : OL)) (fun m169 h E' O' hmat => ?_) (fun j170 hjj170 h => ?_)
                  · refine seqQ_n ?_
                    refine AWp.ghost hmat ?_
                    refine AWp.cond (b := m169) (by rfl) (fun hg171 => ?_) (fun hg171 => ?_)
                    · replace h := ite_t hg171 h
                      refine AWp.seq ?_
                      refine AWp.region (OpJs.cons (OpJ.assign (ltN hN rfl) (Opd.bool false))
                        (OpJs.nil)) (by rfl) (by rfl) ?_
                      refine seqQ_n ?_
                      refine AWp.ghost (Mat.pat [] [(6, (.d (.bool false)))] [] hB (by rfl) (by rfl) (by rfl)) ?_
                      refine AWp.ret ?_
                      refine blkQ_r ?_
                      refine seqQ_r ?_
                      obtain rfl := Option.some.inj h
                      exact ⟨(fun hc => by cases hc), rfl, (Mat.pat [] ((fun _ : Unit => ([(6, (.d (.bool false)))] : EL)) ()) ((fun _ : Unit => ([] : OL)) ()) hB (by rfl) (by rfl) (by rfl))⟩
                    · replace h := ite_f hg171 h
                      refine AWp.skip ?_
                      refine blkQ_n ?_
                      refine seqQ_n ?_
                      refine AWp.region (OpJs.cons (OpJ.move (ltN hN rfl) (Opd.tmp 14 (.d (.int .i64 s131.2))))
                        (OpJs.cons (OpJ.add (ltN hN rfl) (Opd.tmp 65 (.d (.int .i64 s131.2))) (Opd.int .i64 (1)))
                        (OpJs.cons (OpJ.assign (ltN hN rfl) (Opd.tmp 66 (.d (.int .i64 (w64 (s131.2 + (1 : Int)))))))
                        (OpJs.nil)))) (by rfl) (by rfl) ?_
                      obtain rfl := Option.some.inj h
                      exact ⟨rfl, (Mat.trans (Mat.pat [] [(1, (.d (.int .i64 r4))), (2, (.d (.int .i64 r3))), (7, (.d (.list 1 (p14.map (eI .i64))))), (11, (.d (.list 1 (r23.2.map (eI .i64))))), (12, (.d (.int .i64 s29))), (13, (.d (.int .i64 (w64 (s131.1 + x163))))), (14, (.d (.int .i64 (w64 (s131.2 + (1 : Int)))))), (56, (.d (.int .i64 (r23.2.length : Int)))), (57, (.d (.int .i64 s29)))] [] hB (by rfl) (by rfl) (by rfl)) (Mat.pat [] ((fun s131 : Int × Int => ([(1, (.d (.int .i64 r4))), (2, (.d (.int .i64 r3))), (7, (.d (.list 1 (p14.map (eI .i64))))), (11, (.d (.list 1 (r23.2.map (eI .i64))))), (12, (.d (.int .i64 s29))), (13, (.d (.int .i64 s131.1))), (14, (.d (.int .i64 s131.2))), (56, (.d (.int .i64 (r23.2.length : Int)))), (57, (.d (.int .i64 s29)))] : EL)) ((w64 (s131.1 + x163)), (w64 (s131.2 + (1 : Int))))) ((fun s131 : Int × Int => ([] : OL)) ((w64 (s131.1 + x163)), (w64 (s131.2 + (1 : Int))))) hB (by rfl) (by rfl) (by rfl)))⟩
                  · obtain ⟨x172, hx172, h⟩ := bindS h
                    rcases Bool.eq_false_or_eq_true (decide (x172 < (0 : Int))) with hg173 | hg173
                    · replace h := ite_t hg173 h
                      refine AWp.draws (by kernel_rfl) (OpJs.cons (OpJ.move (ltN hN rfl) (Opd.tmp 11 (.d (.list 1 (r23.2.map (eI .i64))))))
                        (OpJs.cons (OpJ.move (ltN hN rfl) (Opd.tmp 14 (.d (.int .i64 s131.2))))
                        (OpJs.cons (OpJ.indexD (el := (.int .i64 x172)) Try.underlying22 tyS3 (idx_some hx172).1 (get_map (eI .i64) (idx_some hx172).2) (ltN hN rfl) (Opd.tmp 73 (.d (.list 1 (r23.2.map (eI .i64))))) (Opd.tmp 74 (.d (.int .i64 s131.2))))
                        (OpJs.cons (OpJ.loadD tyS3 (by rfl) (by rfl) (ltN hN rfl) (Opd.tmp 75 (.dptr (.int .i64 x172))))
                        (OpJs.cons (OpJ.lss (ltN hN rfl) (Opd.tmp 76 (.d (.int .i64 x172))) (Opd.int .i64 (0)))
                        (OpJs.cons (OpJ.val (v' := .d (.bool true)) (by rw [hg173]) (OpJ.move (ltN hN rfl) (Opd.tmp 77 (.d (.bool (decide (x172 < (0 : Int))))))))
                        (OpJs.cons (OpJ.skipU (ltN hN rfl) (by rfl))
                        (OpJs.cons (OpJ.skipU (ltN hN rfl) (by rfl))
                        (OpJs.cons (OpJ.skipU (ltN hN rfl) (by rfl))
                        (OpJs.cons (OpJ.skipU (ltN hN rfl) (by rfl))
                        (OpJs.cons (OpJ.skipU (ltN hN rfl) (by rfl))
                        (OpJs.cons (OpJ.skipU (ltN hN rfl) (by rfl))
                        (OpJs.cons (OpJ.skipU (ltN hN rfl) (by rfl))
                        (OpJs.cons (OpJ.skipU (ltN hN rfl) (by rfl))
                        (OpJs.cons (OpJ.skipU (ltN hN rfl) (by rfl))
                        (OpJs.cons (OpJ.pickT (ltN hN rfl) (Opd.tmp 78 (.d (.bool true))) (Opd.bool true))
                        (OpJs.cons (OpJ.move (ltN hN rfl) (Opd.tmp 88 (.d (.bool true))))
                        (OpJs.cons (OpJ.skipU (ltN hN rfl) (by rfl))
                        (OpJs.cons (OpJ.skipU (ltN hN rfl) (by rfl))
                        (OpJs.cons (OpJ.skipU (ltN hN rfl) (by rfl))
                        (OpJs.cons (OpJ.skipU (ltN hN rfl) (by rfl))
                        (OpJs.cons (OpJ.skipU (ltN hN rfl) (by rfl))
                        (OpJs.cons (OpJ.skipU (ltN hN rfl) (by rfl))
                        (OpJs.cons (OpJ.skipU (ltN hN rfl) (by rfl))
                        (OpJs.cons (OpJ.skipU (ltN hN rfl) (by rfl))
                        (OpJs.cons (OpJ.skipU (ltN hN rfl) (by rfl))
                        (OpJs.cons (OpJ.pickT (ltN hN rfl) (Opd.tmp 89 (.d (.bool true))) (Opd.bool true))
                        (OpJs.nil)))))))))))))))))))))))))))) (by kernel_rfl) (by rfl) (by rfl) ?_
                      exact hjj170 _ h _ _ (Mat.trans (Mat.pat [] [(1, (.d (.int .i64 r4))), (2, (.d (.int .i64 r3))), (7, (.d (.list 1 (p14.map (eI .i64))))), (11, (.d (.list 1 (r23.2.map (eI .i64))))), (12, (.d (.int .i64 s29))), (13, (.d (.int .i64 (w64 (s131.1 + x163))))), (14, (.d (.int .i64 s131.2))), (56, (.d (.int .i64 (r23.2.length : Int)))), (57, (.d (.int .i64 s29))), (99, (.d (.bool true)))] [] hB (by rfl) (by rfl) (by rfl)) (Mat.pat [] ((fun m169 : Bool => ([(1, (.d (.int .i64 r4))), (2, (.d (.int .i64 r3))), (7, (.d (.list 1 (p14.map (eI .i64))))), (11, (.d (.list 1 (r23.2.map (eI .i64))))), (12, (.d (.int .i64 s29))), (13, (.d (.int .i64 (w64 (s131.1 + x163))))), (14, (.d (.int .i64 s131.2))), (56, (.d (.int .i64 (r23.2.length : Int)))), (57, (.d (.int .i64 s29))), (99, (.d (.bool m169)))] : EL)) true) ((fun m169 : Bool => ([] : OL)) true) hB (by rfl) (by rfl) (by rfl)))
                    · replace h := ite_f hg173 h
                      obtain ⟨x174, hx174, h⟩ := bindS h
                      obtain ⟨x175, hx175, h⟩ := bindS h
                      refine AWp.draws (by kernel_rfl) (OpJs.cons (OpJ.move (ltN hN rfl) (Opd.tmp 11 (.d (.list 1 (r23.2.map (eI .i64))))))
                        (OpJs.cons (OpJ.move (ltN hN rfl) (Opd.tmp 14 (.d (.int .i64 s131.2))))
                        (OpJs.cons (OpJ.indexD (el := (.int .i64 x172)) Try.underlying22 tyS3 (idx_some hx172).1 (get_map (eI .i64) (idx_some hx172).2) (ltN hN rfl) (Opd.tmp 73 (.d (.list 1 (r23.2.map (eI .i64))))) (Opd.tmp 74 (.d (.int .i64 s131.2))))
                        (OpJs.cons (OpJ.loadD tyS3 (by rfl) (by rfl) (ltN hN rfl) (Opd.tmp 75 (.dptr (.int .i64 x172))))
                        (OpJs.cons (OpJ.lss (ltN hN rfl) (Opd.tmp 76 (.d (.int .i64 x172))) (Opd.int .i64 (0)))
                        (OpJs.cons (OpJ.val (v' := .d (.bool false)) (by rw [hg173]) (OpJ.move (ltN hN rfl) (Opd.tmp 77 (.d (.bool (decide (x172 < (0 : Int))))))))
                        (OpJs.cons (OpJ.guarded (by rfl) (OpJ.move (ltN hN rfl) (Opd.tmp 11 (.d (.list 1 (r23.2.map (eI .i64)))))))
                        (OpJs.cons (OpJ.guarded (by rfl) (OpJ.move (ltN hN rfl) (Opd.tmp 14 (.d (.int .i64 s131.2)))))
                        (OpJs.cons (OpJ.guarded (by rfl) (OpJ.indexD (el := (.int .i64 x174)) Try.underlying22 tyS3 (idx_some hx174).1 (get_map (eI .i64) (idx_some hx174).2) (ltN hN rfl) (Opd.tmp 79 (.d (.list 1 (r23.2.map (eI .i64))))) (Opd.tmp 80 (.d (.int .i64 s131.2)))))
                        (OpJs.cons (OpJ.guarded (by rfl) (OpJ.loadD tyS3 (by rfl) (by rfl) (ltN hN rfl) (Opd.tmp 81 (.dptr (.int .i64 x174)))))
                        (OpJs.cons (OpJ.guarded (by rfl) (OpJ.move (ltN hN rfl) (Opd.tmp 7 (.d (.list 1 (p14.map (eI .i64)))))))
                        (OpJs.cons (OpJ.guarded (by rfl) (OpJ.move (ltN hN rfl) (Opd.tmp 14 (.d (.int .i64 s131.2)))))
                        (OpJs.cons (OpJ.guarded (by rfl) (OpJ.indexD (el := (.int .i64 x175)) Try.underlying22 tyS3 (idx_some hx175).1 (get_map (eI .i64) (idx_some hx175).2) (ltN hN rfl) (Opd.tmp 83 (.d (.list 1 (p14.map (eI .i64))))) (Opd.tmp 84 (.d (.int .i64 s131.2)))))
                        (OpJs.cons (OpJ.guarded (by rfl) (OpJ.loadD tyS3 (by rfl) (by rfl) (ltN hN rfl) (Opd.tmp 85 (.dptr (.int .i64 x175)))))
                        (OpJs.cons (OpJ.guarded (by rfl) (OpJ.gtr (ltN hN rfl) (Opd.tmp 82 (.d (.int .i64 x174))) (Opd.tmp 86 (.d (.int .i64 x175)))))
                        (OpJs.cons (OpJ.pickF (ltN hN rfl) (Opd.tmp 78 (.d (.bool false))) (Opd.tmp 87 (.d (.bool (decide (x175 < x174))))))
                        (OpJs.cons (OpJ.move (ltN hN rfl) (Opd.tmp 88 (.d (.bool (decide (x175 < x174))))))
                        (OpJs.cons (OpJ.opt' (v := (.d (.int .i64 (w64 (s131.1 + x163))))) (OpJ.move (ltN hN rfl) (Opd.tmp 13 (.d (.int .i64 (w64 (s131.1 + x163)))))) (by rfl) (GuardV.plain _) (ltN hN rfl) (by rfl) (by rfl) (by rfl) (by rfl) (OptL.keep rfl OptL.nil))
                        (OpJs.cons (OpJ.opt' (v := (.d (.int .i64 r3))) (OpJ.move (ltN hN rfl) (Opd.tmp 2 (.d (.int .i64 r3)))) (by rfl) (GuardV.plain _) (ltN hN rfl) (by rfl) (by rfl) (by rfl) (by rfl) (OptL.keep rfl OptL.nil))
                        (OpJs.cons (OpJ.opt' (v := (.d (.int .i64 s131.2))) (OpJ.move (ltN hN rfl) (Opd.tmp 14 (.d (.int .i64 s131.2)))) (by rfl) (GuardV.plain _) (ltN hN rfl) (by rfl) (by rfl) (by rfl) (by rfl) (OptL.keep rfl OptL.nil))
                        (OpJs.cons (OpJ.opt' (v := (.d (.int .i64 s29))) (OpJ.move (ltN hN rfl) (Opd.tmp 12 (.d (.int .i64 s29)))) (by rfl) (GuardV.plain _) (ltN hN rfl) (by rfl) (by rfl) (by rfl) (by rfl) (OptL.keep rfl OptL.nil))
                        (OpJs.cons (OpJ.opt' (v := (.d (.int .i64 (w64 (s131.2 - s29))))) (OpJ.sub (ltN hN rfl) (Opd.tmp 92 (.d (.int .i64 s131.2))) (Opd.tmp 93 (.d (.int .i64 s29)))) (by rfl) (GuardV.plain _) (ltN hN rfl) (by rfl) (by rfl) (by rfl) (by rfl) (OptL.opt (OptL.opt OptL.nil)))
                        (OpJs.cons (OpJ.opt' (v := (.d (.int .i64 r4))) (OpJ.move (ltN hN rfl) (Opd.tmp 1 (.d (.int .i64 r4)))) (by rfl) (GuardV.plain _) (ltN hN rfl) (by rfl) (by rfl) (by rfl) (by rfl) (OptL.keep rfl OptL.nil))
                        (OpJs.cons (OpJ.opt' (v := (.d (.int .i64 (w64 ((w64 (s131.2 - s29)) * r4))))) (OpJ.mul (ltN hN rfl) (Opd.tmp 94 (.d (.int .i64 (w64 (s131.2 - s29))))) (Opd.tmp 95 (.d (.int .i64 r4)))) (by rfl) (GuardV.plain _) (ltN hN rfl) (by rfl) (by rfl) (by rfl) (by rfl) (OptL.opt (OptL.opt OptL.nil)))
                        (OpJs.cons (OpJ.opt' (v := (.d (.int .i64 (w64 (r3 + (w64 ((w64 (s131.2 - s29)) * r4))))))) (OpJ.add (ltN hN rfl) (Opd.tmp 91 (.d (.int .i64 r3))) (Opd.tmp 96 (.d (.int .i64 (w64 ((w64 (s131.2 - s29)) * r4)))))) (by rfl) (GuardV.plain _) (ltN hN rfl) (by rfl) (by rfl) (by rfl) (by rfl) (OptL.opt (OptL.opt OptL.nil)))
                        (OpJs.cons (OpJ.opt' (v := (.d (.bool (decide ((w64 (r3 + (w64 ((w64 (s131.2 - s29)) * r4)))) < (w64 (s131.1 + x163))))))) (OpJ.gtr (ltN hN rfl) (Opd.tmp 90 (.d (.int .i64 (w64 (s131.1 + x163))))) (Opd.tmp 97 (.d (.int .i64 (w64 (r3 + (w64 ((w64 (s131.2 - s29)) * r4)))))))) (by rfl) (GuardV.plain _) (ltN hN rfl) (by rfl) (by rfl) (by rfl) (by rfl) (OptL.opt (OptL.opt OptL.nil)))
                        (OpJs.cons (OpJ.pickOr rfl (ltN hN rfl) (Opd.tmp 89 (.d (.bool (decide (x175 < x174))))) (Opd.tmp 98 (.opt ((decide (x175 < x174)) == false) (.d (.bool (decide ((w64 (r3 + (w64 ((w64 (s131.2 - s29)) * r4)))) < (w64 (s131.1 + x163)))))))))
                        (OpJs.nil)))))))))))))))))))))))))))) (by kernel_rfl) (by rfl) (by rfl) ?_
                      exact hjj170 _ h _ _ (Mat.trans (Mat.pat [] [(1, (.d (.int .i64 r4))), (2, (.d (.int .i64 r3))), (7, (.d (.list 1 (p14.map (eI .i64))))), (11, (.d (.list 1 (r23.2.map (eI .i64))))), (12, (.d (.int .i64 s29))), (13, (.d (.int .i64 (w64 (s131.1 + x163))))), (14, (.d (.int .i64 s131.2))), (56, (.d (.int .i64 (r23.2.length : Int)))), (57, (.d (.int .i64 s29))), (99, (.d (.bool ((decide (x175 < x174)) || (decide ((w64 (r3 + (w64 ((w64 (s131.2 - s29)) * r4)))) < (w64 (s131.1 + x163))))))))] [] hB (by rfl) (by rfl) (by rfl)) (Mat.pat [] ((fun m169 : Bool => ([(1, (.d (.int .i64 r4))), (2, (.d (.int .i64 r3))), (7, (.d (.list 1 (p14.map (eI .i64))))), (11, (.d (.list 1 (r23.2.map (eI .i64))))), (12, (.d (.int .i64 s29))), (13, (.d (.int .i64 (w64 (s131.1 + x163))))), (14, (.d (.int .i64 s131.2))), (56, (.d (.int .i64 (r23.2.length : Int)))), (57, (.d (.int .i64 s29))), (99, (.d (.bool m169)))] : EL)) ((decide (x175 < x174)) || (decide ((w64 (r3 + (w64 ((w64 (s131.2 - s29)) * r4)))) < (w64 (s131.1 + x163)))))) ((fun m169 : Bool => ([] : OL)) ((decide (x175 < x174)) || (decide ((w64 (r3 + (w64 ((w64 (s131.2 - s29)) * r4)))) < (w64 (s131.1 + x163)))))) hB (by rfl) (by rfl) (by rfl)))
                · replace h := ite_f hg162 h
                  refine AWp.exit ?_
                  refine seqQ_e ?_
                  obtain rfl := Option.some.inj h
                  exact ⟨(fun hc => by cases hc), rfl, (Mat.pat [] ((fun _ : Unit => ([(1, (.d (.int .i64 r4))), (2, (.d (.int .i64 r3))), (7, (.d (.list 1 (p14.map (eI .i64))))), (11, (.d (.list 1 (r23.2.map (eI .i64))))), (56, (.d (.int .i64 (r23.2.length : Int)))), (57, (.d (.int .i64 s29)))] : EL)) ()) ((fun _ : Unit => ([] : OL)) ()) hB (by rfl) (by rfl) (by rfl))⟩
              · rcases x176 with _ | _
                · obtain ⟨rfl, hmat⟩ := hR
                  refine blkQ_r ?_
                  refine blkQ_r ?_
                  refine seqQ_r ?_
                  obtain rfl := Option.some.inj h
                  exact ⟨(fun hc => by cases hc), rfl, (Mat.trans hmat (Mat.pat [] ((fun _ : Unit => ([(6, (.d (.bool false)))] : EL)) ()) ((fun _ : Unit => ([] : OL)) ()) hB (by rfl) (by rfl) (by rfl)))⟩
                · obtain ⟨rfl, hmat⟩ := hR
                  refine blkQ_hit ?_
                  refine blkQ_n ?_
                  refine seqQ_n ?_
                  refine AWp.ghost hmat ?_
                  refine AWp.region (OpJs.cons (OpJ.add (ltN hN rfl) (Opd.tmp 57 (.d (.int .i64 s29))) (Opd.int .i64 (1)))
                    (OpJs.cons (OpJ.move (ltN hN rfl) (Opd.tmp 100 (.d (.int .i64 (w64 (s29 + (1 : Int)))))))
                    (OpJs.nil))) (by rfl) (by rfl) ?_
                  obtain rfl := Option.some.inj h
                  exact ⟨rfl, (Mat.trans (Mat.pat [] [(1, (.d (.int .i64 r4))), (2, (.d (.int .i64 r3))), (7, (.d (.list 1 (p14.map (eI .i64))))), (11, (.d (.list 1 (r23.2.map (eI .i64))))), (56, (.d (.int .i64 (r23.2.length : Int)))), (57, (.d (.int .i64 (w64 (s29 + (1 : Int))))))] [] hB (by rfl) (by rfl) (by rfl)) (Mat.pat [] ((fun s29 : Int => ([(1, (.d (.int .i64 r4))), (2, (.d (.int .i64 r3))), (7, (.d (.list 1 (p14.map (eI .i64))))), (11, (.d (.list 1 (r23.2.map (eI .i64))))), (56, (.d (.int .i64 (r23.2.length : Int)))), (57, (.d (.int .i64 s29)))] : EL)) (w64 (s29 + (1 : Int)))) ((fun s29 : Int => ([] : OL)) (w64 (s29 + (1 : Int)))) hB (by rfl) (by rfl) (by rfl)))⟩
            · replace h := ite_f hg130 h
              refine AWp.exit ?_
              refine seqQ_e ?_
              obtain rfl := Option.some.inj h
              exact ⟨(fun hc => by cases hc), rfl, (Mat.pat [] ((fun _ : Unit => ([] : EL)) ()) ((fun _ : Unit => ([] : OL)) ()) hB (by rfl) (by rfl) (by rfl))⟩
          · rcases x178 with _ | _
            · obtain ⟨rfl, hmat⟩ := hR
              refine blkQ_r ?_
              refine seqQ_r ?_
              obtain rfl := Option.some.inj h
              exact ⟨.inl rfl, _, _, (Mat.trans hmat (Mat.pat [] [(6, (.d (.bool false)))] [] hB (by rfl) (by rfl) (by rfl))), [(.d (.bool false))], (Res.tmp (by rfl) (by rfl) Res.nil), rfl, by rfl, by rfl, by rfl⟩
            · obtain ⟨rfl, hmat⟩ := hR
              refine blkQ_hit ?_
              refine seqQ_n ?_
              refine AWp.ghost hmat ?_
              refine AWp.seq ?_
              obtain ⟨r180, hr180, h⟩ := bindS h
              refine AWp.region (OpJs.cons (OpJ.callFn hB fnOk6 (exchangepointlaw12_awake_ac  r180 hr180) [] (by kernel_rfl) (ltN hN rfl) (by kernel_rfl) OpdL.nil)
                (OpJs.cons (OpJ.assign (ltN hN rfl) (Opd.tmp 101 (.d (.bool r180))))
                (OpJs.nil))) (by rfl) (by rfl) ?_
              refine seqQ_n ?_
              refine AWp.ghost (Mat.pat [] [(6, (.d (.bool r180)))] [] hB (by rfl) (by rfl) (by rfl)) ?_
              refine AWp.ret ?_
              obtain rfl := Option.some.inj h
              exact ⟨.inl rfl, _, _, (Mat.pat [] [(6, (.d (.bool r180)))] [] hB (by rfl) (by rfl) (by rfl)), [(.d (.bool r180))], (Res.tmp (by rfl) (by rfl) Res.nil), rfl, by rfl, by rfl, by rfl⟩
      · rcases Bool.eq_false_or_eq_true ((r23.2.length : Int) != (p14.length : Int)) with hg181 | hg181
        · replace h := ite_t hg181 h
          refine AWp.region (OpJs.cons (OpJ.move (ltN hN rfl) (Opd.tmp 11 (.d (.list 1 (r23.2.map (eI .i64))))))
            (OpJs.cons (OpJ.val (v' := (.d (.int .i64 (r23.2.length : Int)))) (by simp) (OpJ.lenD Try.underlying22 (ltN hN rfl) (Opd.tmp 45 (.d (.list 1 (r23.2.map (eI .i64)))))))
            (OpJs.cons (OpJ.move (ltN hN rfl) (Opd.tmp 7 (.d (.list 1 (p14.map (eI .i64))))))
            (OpJs.cons (OpJ.val (v' := (.d (.int .i64 (p14.length : Int)))) (by simp) (OpJ.lenD Try.underlying22 (ltN hN rfl) (Opd.tmp 47 (.d (.list 1 (p14.map (eI .i64)))))))
            (OpJs.cons (OpJ.neqI (ltN hN rfl) (Opd.tmp 46 (.d (.int .i64 (r23.2.length : Int)))) (Opd.tmp 48 (.d (.int .i64 (p14.length : Int)))))
            (OpJs.cons (OpJ.val (v' := .d (.bool true)) (by rw [hg181]) (OpJ.move (ltN hN rfl) (Opd.tmp 49 (.d (.bool ((r23.2.length : Int) != (p14.length : Int)))))))
            (OpJs.cons (OpJ.skipU (ltN hN rfl) (by rfl))
            (OpJs.cons (OpJ.skipU (ltN hN rfl) (by rfl))
            (OpJs.cons (OpJ.skipU (ltN hN rfl) (by rfl))
            (OpJs.cons (OpJ.pickT (ltN hN rfl) (Opd.tmp 50 (.d (.bool true))) (Opd.bool true))
            (OpJs.nil))))))))))) (by rfl) (by rfl) ?_
          exact hjj27 _ h _ _ (Mat.trans (Mat.pat [] [(1, (.d (.int .i64 r4))), (2, (.d (.int .i64 r3))), (7, (.d (.list 1 (p14.map (eI .i64))))), (11, (.d (.list 1 (r23.2.map (eI .i64))))), (54, (.d (.bool true)))] [] hB (by rfl) (by rfl) (by rfl)) (Mat.pat [] ((fun m26 : Bool => ([(1, (.d (.int .i64 r4))), (2, (.d (.int .i64 r3))), (7, (.d (.list 1 (p14.map (eI .i64))))), (11, (.d (.list 1 (r23.2.map (eI .i64))))), (54, (.d (.bool m26)))] : EL)) true) ((fun m26 : Bool => ([] : OL)) true) hB (by rfl) (by rfl) (by rfl)))
        · replace h := ite_f hg181 h
          obtain ⟨r182, hr182, h⟩ := bindS h
          refine AWp.region (OpJs.cons (OpJ.move (ltN hN rfl) (Opd.tmp 11 (.d (.list 1 (r23.2.map (eI .i64))))))
            (OpJs.cons (OpJ.val (v' := (.d (.int .i64 (r23.2.length : Int)))) (by simp) (OpJ.lenD Try.underlying22 (ltN hN rfl) (Opd.tmp 45 (.d (.list 1 (r23.2.map (eI .i64)))))))
            (OpJs.cons (OpJ.move (ltN hN rfl) (Opd.tmp 7 (.d (.list 1 (p14.map (eI .i64))))))
            (OpJs.cons (OpJ.val (v' := (.d (.int .i64 (p14.length : Int)))) (by simp) (OpJ.lenD Try.underlying22 (ltN hN rfl) (Opd.tmp 47 (.d (.list 1 (p14.map (eI .i64)))))))
            (OpJs.cons (OpJ.neqI (ltN hN rfl) (Opd.tmp 46 (.d (.int .i64 (r23.2.length : Int)))) (Opd.tmp 48 (.d (.int .i64 (p14.length : Int)))))
            (OpJs.cons (OpJ.val (v' := .d (.bool false)) (by rw [hg181]) (OpJ.move (ltN hN rfl) (Opd.tmp 49 (.d (.bool ((r23.2.length : Int) != (p14.length : Int)))))))
            (OpJs.cons (OpJ.guarded (by rfl) (OpJ.loadB (bt := 26) (c := (.d (e_api_Bucket r23.1))) (v := (.d (e_api_Bucket r23.1))) tyS26 (At.here _) (by rfl) (by rfl) rfl (ltN hN rfl) (Opd.tmp 10 (.ptr 1010 0 []))))
            (OpJs.cons (OpJ.guarded (by rfl) (OpJ.callFn hB fnOk10 (meter_Valid_ac r23.1 r182 hr182) [] (by kernel_rfl) (ltN hN rfl) (by kernel_rfl) (OpdL.cons (Opd.tmp 51 (.d (e_api_Bucket r23.1))) OpdL.nil)))
            (OpJs.cons (OpJ.guarded (by rfl) (OpJ.not (ltN hN rfl) (Opd.tmp 52 (.d (.bool r182)))))
            (OpJs.cons (OpJ.pickF (ltN hN rfl) (Opd.tmp 50 (.d (.bool false))) (Opd.tmp 53 (.d (.bool (!r182)))))
            (OpJs.nil))))))))))) (by rfl) (by rfl) ?_
          exact hjj27 _ h _ _ (Mat.trans (Mat.pat [] [(1, (.d (.int .i64 r4))), (2, (.d (.int .i64 r3))), (7, (.d (.list 1 (p14.map (eI .i64))))), (11, (.d (.list 1 (r23.2.map (eI .i64))))), (54, (.d (.bool (!r182))))] [] hB (by rfl) (by rfl) (by rfl)) (Mat.pat [] ((fun m26 : Bool => ([(1, (.d (.int .i64 r4))), (2, (.d (.int .i64 r3))), (7, (.d (.list 1 (p14.map (eI .i64))))), (11, (.d (.list 1 (r23.2.map (eI .i64))))), (54, (.d (.bool m26)))] : EL)) (!r182)) ((fun m26 : Bool => ([] : OL)) (!r182)) hB (by rfl) (by rfl) (by rfl)))

noncomputable def exchangepointlaw12_MeterMore_L0 (a0 : (List Int)) (s11 : Int × (List Int)) : Option ((((List Int))) ⊕ (Int × (List Int))) :=
  (if (decide (s11.1 < (a0.length : Int))) = true then
  (idx a0 s11.1).bind fun x22 =>
  (exchangepointmake_Mod x22 (30 : Int)).bind fun r23 =>
  chk (decide ((s11.2 ++ ([r23] : List Int)).length ≤ LIM)) <|
  some (.inr ((w64 (s11.1 + (1 : Int))), (s11.2 ++ ([r23] : List Int))))
  else
  some (.inl s11.2))
noncomputable def exchangepointlaw12_MeterMore_L1 (p20 : (List Int)) (r27 : api_Bucket × (List Int)) (r28 : api_Bucket × (List Int)) (s30 : Int × Int × Int) : Option (((Unit) ⊕ (Unit)) ⊕ (Int × Int × Int)) :=
  (if (decide (s30.2.2 < (p20.length : Int))) = true then
  (idx r27.2 s30.2.2).bind fun x42 =>
  (idx r28.2 s30.2.2).bind fun x43 =>
  (if (decide ((w64 (s30.2.1 + x43)) < (w64 (s30.1 + x42)))) = true then
  some (.inl (.inl ()))
  else
  some (.inr ((w64 (s30.1 + x42)), (w64 (s30.2.1 + x43)), (w64 (s30.2.2 + (1 : Int))))))
  else
  some (.inl (.inr ())))
noncomputable def exchangepointlaw12_MeterMore (a0 : (List Int)) (a1 : Int) (a2 : Int) (a3 : Int) (a4 : Int) : Option (Bool) :=
  (if (decide ((120 : Int) < (a0.length : Int))) = true then
  (exchangepointlaw12_awake).bind fun r2 =>
  some r2
  else
  (exchangepointmake_Mod a2 (20 : Int)).bind fun r3 =>
  (exchangepointmake_Mod a1 (w64 (r3 + (1 : Int)))).bind fun r4 =>
  (exchangepointmake_Mod a4 (w64 (r3 + (1 : Int)))).bind fun r5 =>
  (exchangepointmake_Mod a3 (3 : Int)).bind fun r6 =>
  jn (fun m9 : Int × Int × Int =>
  (loop (exchangepointlaw12_MeterMore_L0 a0) ((0 : Int), ([] : List Int))).bind fun p20 =>
  (meter_Run (api_Bucket.mk r5 r4 r3) p20).bind fun r27 =>
  (meter_Run (api_Bucket.mk m9.1 m9.2.1 m9.2.2) p20).bind fun r28 =>
  (if (((r27.2.length : Int) != (p20.length : Int)) || ((r28.2.length : Int) != (p20.length : Int))) = true then
  some false
  else
  (loop (exchangepointlaw12_MeterMore_L1 p20 r27 r28) ((0 : Int), (0 : Int), (0 : Int))).bind fun x45 => match x45 with
  | (.inl _) =>
    some false
  | (.inr _) =>
    (exchangepointlaw12_awake).bind fun r47 =>
    some r47)) (fun j10 =>
  (if (r6 == (0 : Int)) = true then
  j10 (r3, r4, r3)
  else
  (if (r6 == (1 : Int)) = true then
  j10 (r5, r3, r3)
  else
  j10 (r5, r4, (w64 (r3 + (5 : Int))))))))
set_option maxHeartbeats 4000000 in
set_option maxRecDepth 100000 in
theorem exchangepointlaw12_MeterMore_ac (a0 : (List Int)) (a1 : Int) (a2 : Int) (a3 : Int) (a4 : Int) (r : Bool) (h : exchangepointlaw12_MeterMore a0 a1 a2 a3 a4 = some r) : AC Try.prog 3 [(.d (.list 1 (a0.map (eI .i64)))), (.d (.int .i64 a1)), (.d (.int .i64 a2)), (.d (.int .i64 a3)), (.d (.int .i64 a4))] [] (.d (.bool r)) [] := by
  refine AC.of_code2 Try.func3 rfl rfl (Nat.le_of_ble_eq_true (by rfl)) fun B hB hN => ?_
  delta exchangepointlaw12_MeterMore at h
  refine AWp.seq ?_
  refine AWp.region (OpJs.cons (OpJ.assign (ltN hN rfl) (Opd.bool false))
  (OpJs.nil)) (by rfl) (by rfl) ?_
  refine seqQ_n ?_
  refine AWp.ghost (Mat.pat [] [(0, (.d (.list 1 (a0.map (eI .i64))))), (1, (.d (.int .i64 a1))), (2, (.d (.int .i64 a2))), (3, (.d (.int .i64 a3))), (4, (.d (.int .i64 a4)))] [] hB (by rfl) (by rfl) (by rfl)) ?_
  refine AWp.seq ?_
  refine AWp.seq ?_
  refine AWp.region (OpJs.cons (OpJ.move (ltN hN rfl) (Opd.tmp 0 (.d (.list 1 (a0.map (eI .i64))))))
  (OpJs.cons (OpJ.val (v' := (.d (.int .i64 (a0.length : Int)))) (by simp) (OpJ.lenD Try.underlying22 (ltN hN rfl) (Opd.tmp 23 (.d (.list 1 (a0.map (eI .i64)))))))
  (OpJs.cons (OpJ.gtr (ltN hN rfl) (Opd.tmp 24 (.d (.int .i64 (a0.length : Int)))) (Opd.int .i64 (120)))
  (OpJs.nil)))) (by rfl) (by rfl) ?_
  refine seqQ_n ?_
  refine AWp.ghost (Mat.pat [] [(0, (.d (.list 1 (a0.map (eI .i64))))), (1, (.d (.int .i64 a1))), (2, (.d (.int .i64 a2))), (3, (.d (.int .i64 a3))), (4, (.d (.int .i64 a4))), (25, (.d (.bool (decide ((120 : Int) < (a0.length : Int))))))] [] hB (by rfl) (by rfl) (by rfl)) ?_
  refine AWp.cond (b := (decide ((120 : Int) < (a0.length : Int)))) (by rfl) (fun hg1 => ?_) (fun hg1 => ?_)
  · replace h := ite_t hg1 h
    refine AWp.seq ?_
    obtain ⟨r2, hr2, h⟩ := bindS h
    refine AWp.region (OpJs.cons (OpJ.callFn hB fnOk6 (exchangepointlaw12_awake_ac  r2 hr2) [] (by kernel_rfl) (ltN hN rfl) (by kernel_rfl) OpdL.nil)
      (OpJs.cons (OpJ.assign (ltN hN rfl) (Opd.tmp 26 (.d (.bool r2))))
      (OpJs.nil))) (by rfl) (by rfl) ?_
    refine seqQ_n ?_
    refine AWp.ghost (Mat.pat [] [(10, (.d (.bool r2)))] [] hB (by rfl) (by rfl) (by rfl)) ?_
    refine AWp.ret ?_
    refine seqQ_r ?_
    obtain rfl := Option.some.inj h
    exact ⟨.inl rfl, _, _, (Mat.pat [] [(10, (.d (.bool r2)))] [] hB (by rfl) (by rfl) (by rfl)), [(.d (.bool r2))], (Res.tmp (by rfl) (by rfl) Res.nil), rfl, by rfl, by rfl, by rfl⟩
  · replace h := ite_f hg1 h
    refine AWp.skip ?_
    refine seqQ_n ?_
    refine AWp.seq ?_
    obtain ⟨r3, hr3, h⟩ := bindS h
    refine AWp.region (OpJs.cons (OpJ.move (ltN hN rfl) (Opd.tmp 2 (.d (.int .i64 a2))))
      (OpJs.cons (OpJ.callFn hB fnOk7 (exchangepointmake_Mod_ac a2 (20 : Int) r3 hr3) [] (by kernel_rfl) (ltN hN rfl) (by kernel_rfl) (OpdL.cons (Opd.tmp 27 (.d (.int .i64 a2))) (OpdL.cons (Opd.int .i64 (20)) OpdL.nil)))
      (OpJs.cons (OpJ.assign (ltN hN rfl) (Opd.tmp 28 (.d (.int .i64 r3))))
      (OpJs.nil)))) (by rfl) (by rfl) ?_
    refine seqQ_n ?_
    refine AWp.ghost (Mat.pat [] [(0, (.d (.list 1 (a0.map (eI .i64))))), (1, (.d (.int .i64 a1))), (2, (.d (.int .i64 r3))), (3, (.d (.int .i64 a3))), (4, (.d (.int .i64 a4)))] [] hB (by rfl) (by rfl) (by rfl)) ?_
    refine AWp.seq ?_
    obtain ⟨r4, hr4, h⟩ := bindS h
    refine AWp.region (OpJs.cons (OpJ.move (ltN hN rfl) (Opd.tmp 1 (.d (.int .i64 a1))))
      (OpJs.cons (OpJ.move (ltN hN rfl) (Opd.tmp 2 (.d (.int .i64 r3))))
      (OpJs.cons (OpJ.add (ltN hN rfl) (Opd.tmp 30 (.d (.int .i64 r3))) (Opd.int .i64 (1)))
      (OpJs.cons (OpJ.callFn hB fnOk7 (exchangepointmake_Mod_ac a1 (w64 (r3 + (1 : Int))) r4 hr4) [] (by kernel_rfl) (ltN hN rfl) (by kernel_rfl) (OpdL.cons (Opd.tmp 29 (.d (.int .i64 a1))) (OpdL.cons (Opd.tmp 31 (.d (.int .i64 (w64 (r3 + (1 : Int)))))) OpdL.nil)))
      (OpJs.cons (OpJ.assign (ltN hN rfl) (Opd.tmp 32 (.d (.int .i64 r4))))
      (OpJs.nil)))))) (by rfl) (by rfl) ?_
    refine seqQ_n ?_
    refine AWp.ghost (Mat.pat [] [(0, (.d (.list 1 (a0.map (eI .i64))))), (1, (.d (.int .i64 r4))), (2, (.d (.int .i64 r3))), (3, (.d (.int .i64 a3))), (4, (.d (.int .i64 a4)))] [] hB (by rfl) (by rfl) (by rfl)) ?_
    refine AWp.seq ?_
    obtain ⟨r5, hr5, h⟩ := bindS h
    refine AWp.region (OpJs.cons (OpJ.move (ltN hN rfl) (Opd.tmp 4 (.d (.int .i64 a4))))
      (OpJs.cons (OpJ.move (ltN hN rfl) (Opd.tmp 2 (.d (.int .i64 r3))))
      (OpJs.cons (OpJ.add (ltN hN rfl) (Opd.tmp 34 (.d (.int .i64 r3))) (Opd.int .i64 (1)))
      (OpJs.cons (OpJ.callFn hB fnOk7 (exchangepointmake_Mod_ac a4 (w64 (r3 + (1 : Int))) r5 hr5) [] (by kernel_rfl) (ltN hN rfl) (by kernel_rfl) (OpdL.cons (Opd.tmp 33 (.d (.int .i64 a4))) (OpdL.cons (Opd.tmp 35 (.d (.int .i64 (w64 (r3 + (1 : Int)))))) OpdL.nil)))
      (OpJs.cons (OpJ.move (ltN hN rfl) (Opd.tmp 1 (.d (.int .i64 r4))))
      (OpJs.cons (OpJ.move (ltN hN rfl) (Opd.tmp 2 (.d (.int .i64 r3))))
      (OpJs.cons (OpJ.coe (v := (.st [(.d (.int .i64 r5)), (.d (.int .i64 r4)), (.d (.int .i64 r3))])) (y := (.st [(.int .i64 r5), (.int .i64 r4), (.int .i64 r3)])) (Co.st (CoL.cons (Co.d _) (CoL.cons (Co.d _) (CoL.cons (Co.d _) CoL.nil)))) rfl (OpJ.build (places := [(0, 1), (1, 1), (2, 1)]) ⟨Try.underlying26, fun w => by kernel_rfl⟩ tyZS26 (Opds.cons (Opd.tmp 36 (.d (.int .i64 r5))) (Opds.cons (Opd.tmp 37 (.d (.int .i64 r4))) (Opds.cons (Opd.tmp 38 (.d (.int .i64 r3))) Opds.nil))) (by kernel_rfl) (r := (.st [(.d (.int .i64 r5)), (.d (.int .i64 r4)), (.d (.int .i64 r3))])) (by rfl) (ltN hN rfl)))
      (OpJs.cons (OpJ.alloc hB tyZ26 (nm := 1011) (by decide) (ltN hN rfl))
      (OpJs.cons (OpJ.storeB (bt := 26) (c := (.d (.st [(.int .i64 (0 : Int)), (.int .i64 (0 : Int)), (.int .i64 (0 : Int))]))) (v := (.d (.st [(.int .i64 r5), (.int .i64 r4), (.int .i64 r3)]))) (c' := (.d (.st [(.int .i64 r5), (.int .i64 r4), (.int .i64 r3)]))) tyS26 (SetAt.here _ _) (by rfl) (by rfl) (by simp) rfl (Opd.tmp 11 (.ptr 1011 0 [])) (Opd.tmp 39 (.d (.st [(.int .i64 r5), (.int .i64 r4), (.int .i64 r3)]))))
      (OpJs.nil)))))))))) (by rfl) (by rfl) ?_
    refine seqQ_n ?_
    refine AWp.ghost (Mat.pat [] [(0, (.d (.list 1 (a0.map (eI .i64))))), (2, (.d (.int .i64 r3))), (3, (.d (.int .i64 a3))), (11, (.ptr 1011 0 []))] [(1011, some (.box 26 (.d (.st [(.int .i64 r5), (.int .i64 r4), (.int .i64 r3)]))))] hB (by rfl) (by rfl) (by rfl)) ?_
    refine AWp.seq ?_
    refine AWp.region (OpJs.cons (OpJ.loadB (bt := 26) (c := (.d (.st [(.int .i64 r5), (.int .i64 r4), (.int .i64 r3)]))) (v := (.d (.st [(.int .i64 r5), (.int .i64 r4), (.int .i64 r3)]))) tyS26 (At.here _) (by rfl) (by rfl) rfl (ltN hN rfl) (Opd.tmp 11 (.ptr 1011 0 [])))
      (OpJs.cons (OpJ.alloc hB tyZ26 (nm := 1012) (by decide) (ltN hN rfl))
      (OpJs.cons (OpJ.storeB (bt := 26) (c := (.d (.st [(.int .i64 (0 : Int)), (.int .i64 (0 : Int)), (.int .i64 (0 : Int))]))) (v := (.d (.st [(.int .i64 r5), (.int .i64 r4), (.int .i64 r3)]))) (c' := (.d (.st [(.int .i64 r5), (.int .i64 r4), (.int .i64 r3)]))) tyS26 (SetAt.here _ _) (by rfl) (by rfl) (by simp) rfl (Opd.tmp 12 (.ptr 1012 0 [])) (Opd.tmp 40 (.d (.st [(.int .i64 r5), (.int .i64 r4), (.int .i64 r3)]))))
      (OpJs.nil)))) (by rfl) (by rfl) ?_
    refine seqQ_n ?_
    refine AWp.ghost (Mat.pat [] [(0, (.d (.list 1 (a0.map (eI .i64))))), (2, (.d (.int .i64 r3))), (3, (.d (.int .i64 a3))), (11, (.ptr 1011 0 [])), (12, (.ptr 1012 0 []))] [(1011, some (.box 26 (.d (.st [(.int .i64 r5), (.int .i64 r4), (.int .i64 r3)])))), (1012, some (.box 26 (.d (.st [(.int .i64 r5), (.int .i64 r4), (.int .i64 r3)]))))] hB (by rfl) (by rfl) (by rfl)) ?_
    refine AWp.seq ?_
    refine AWp.seq ?_
    obtain ⟨r6, hr6, h⟩ := bindS h
    refine AWp.region (OpJs.cons (OpJ.move (ltN hN rfl) (Opd.tmp 3 (.d (.int .i64 a3))))
      (OpJs.cons (OpJ.callFn hB fnOk7 (exchangepointmake_Mod_ac a3 (3 : Int) r6 hr6) [] (by kernel_rfl) (ltN hN rfl) (by kernel_rfl) (OpdL.cons (Opd.tmp 41 (.d (.int .i64 a3))) (OpdL.cons (Opd.int .i64 (3)) OpdL.nil)))
      (OpJs.nil))) (by rfl) (by rfl) ?_
    refine seqQ_n ?_
    refine AWp.ghost (Mat.pat [] [(0, (.d (.list 1 (a0.map (eI .i64))))), (2, (.d (.int .i64 r3))), (11, (.ptr 1011 0 [])), (12, (.ptr 1012 0 [])), (42, (.d (.int .i64 r6)))] [(1011, some (.box 26 (.d (.st [(.int .i64 r5), (.int .i64 r4), (.int .i64 r3)])))), (1012, some (.box 26 (.d (.st [(.int .i64 r5), (.int .i64 r4), (.int .i64 r3)]))))] hB (by rfl) (by rfl) (by rfl)) ?_
    refine AWp.block ?_
    refine AWp.seq ?_
    refine AWp.region (OpJs.cons (OpJ.eqlI (ltN hN rfl) (Opd.tmp 42 (.d (.int .i64 r6))) (Opd.int .i64 (0)))
      (OpJs.cons (OpJ.assign (ltN hN rfl) (Opd.tmp 48 (.d (.bool (r6 == (0 : Int))))))
      (OpJs.nil))) (by rfl) (by rfl) ?_
    refine seqQ_n ?_
    refine AWp.ghost (Mat.pat [] [(0, (.d (.list 1 (a0.map (eI .i64))))), (2, (.d (.int .i64 r3))), (11, (.ptr 1011 0 [])), (12, (.ptr 1012 0 [])), (42, (.d (.int .i64 r6))), (47, (.d (.bool (r6 == (0 : Int)))))] [(1011, some (.box 26 (.d (.st [(.int .i64 r5), (.int .i64 r4), (.int .i64 r3)])))), (1012, some (.box 26 (.d (.st [(.int .i64 r5), (.int .i64 r4), (.int .i64 r3)]))))] hB (by rfl) (by rfl) (by rfl)) ?_
    refine AWp.cut h (fun m9 : Int × Int × Int => ([(0, (.d (.list 1 (a0.map (eI .i64))))), (11, (.ptr 1011 0 [])), (12, (.ptr 1012 0 []))] : EL)) (fun m9 : Int × Int × Int => ([(1011, some (.box 26 (.d (.st [(.int .i64 r5), (.int .i64 r4), (.int .i64 r3)])))), (1012, some (.box 26 (.d (.st [(.int .i64 m9.1), (.int .i64 m9.2.1), (.int .i64 m9.2.2)]))))] : OL)) (fun m9 h E' O' hmat => ?_) (fun j10 hjj10 h => ?_)
    · refine blkQ_n ?_
      refine seqQ_n ?_
      refine AWp.ghost hmat ?_
      refine AWp.seq ?_
      refine AWp.region (OpJs.cons (OpJ.assign (ltN hN rfl) Opd.nils)
        (OpJs.nil)) (by rfl) (by rfl) ?_
      refine seqQ_n ?_
      refine AWp.ghost (Mat.pat [] [(0, (.d (.list 1 (a0.map (eI .i64))))), (11, (.ptr 1011 0 [])), (12, (.ptr 1012 0 [])), (13, .nils)] [(1011, some (.box 26 (.d (.st [(.int .i64 r5), (.int .i64 r4), (.int .i64 r3)])))), (1012, some (.box 26 (.d (.st [(.int .i64 m9.1), (.int .i64 m9.2.1), (.int .i64 m9.2.2)]))))] hB (by rfl) (by rfl) (by rfl)) ?_
      refine AWp.seq ?_
      refine AWp.seq ?_
      refine AWp.region (OpJs.cons (OpJ.move (ltN hN rfl) (Opd.tmp 0 (.d (.list 1 (a0.map (eI .i64))))))
        (OpJs.cons (OpJ.val (v' := (.d (.int .i64 (a0.length : Int)))) (by simp) (OpJ.lenD Try.underlying22 (ltN hN rfl) (Opd.tmp 55 (.d (.list 1 (a0.map (eI .i64)))))))
        (OpJs.cons (OpJ.move (ltN hN rfl) (Opd.int .i64 (0)))
        (OpJs.nil)))) (by rfl) (by rfl) ?_
      refine seqQ_n ?_
      refine AWp.ghost (Mat.pat [] [(11, (.ptr 1011 0 [])), (12, (.ptr 1012 0 [])), (13, .nils), (55, (.d (.list 1 (a0.map (eI .i64))))), (56, (.d (.int .i64 (a0.length : Int)))), (57, (.d (.int .i64 (0 : Int))))] [(1011, some (.box 26 (.d (.st [(.int .i64 r5), (.int .i64 r4), (.int .i64 r3)])))), (1012, some (.box 26 (.d (.st [(.int .i64 m9.1), (.int .i64 m9.2.1), (.int .i64 m9.2.2)]))))] hB (by rfl) (by rfl) (by rfl)) ?_
      refine AWp.block ?_
      obtain ⟨p20, hx26, h⟩ := bindS h
      refine AWp.ghost (Mat.trans (Mat.begin (n := 3013) (e := 3) (sz := 1) (k := 13) hB (by decide) (by rfl) (by decide) (by rfl)) (Mat.pat [] ((fun s11 : Int × (List Int) => ([(11, (.ptr 1011 0 [])), (12, (.ptr 1012 0 [])), (13, (.sref 3013 1 0 s11.2.length)), (55, (.d (.list 1 (a0.map (eI .i64))))), (56, (.d (.int .i64 (a0.length : Int)))), (57, (.d (.int .i64 s11.1)))] : EL)) ((0 : Int), ([] : List Int))) ((fun s11 : Int × (List Int) => ([(1011, some (.box 26 (.d (.st [(.int .i64 r5), (.int .i64 r4), (.int .i64 r3)])))), (1012, some (.box 26 (.d (.st [(.int .i64 m9.1), (.int .i64 m9.2.1), (.int .i64 m9.2.2)])))), (3013, some (.row 3 1 (s11.2.map (eI .i64))))] : OL)) ((0 : Int), ([] : List Int))) hB (by rfl) (by rfl) (by rfl))) ?_
      refine AWp.loopS (exchangepointlaw12_MeterMore_L0 a0) (fun s11 : Int × (List Int) => ([(11, (.ptr 1011 0 [])), (12, (.ptr 1012 0 [])), (13, (.sref 3013 1 0 s11.2.length)), (55, (.d (.list 1 (a0.map (eI .i64))))), (56, (.d (.int .i64 (a0.length : Int)))), (57, (.d (.int .i64 s11.1)))] : EL)) (fun s11 : Int × (List Int) => ([(1011, some (.box 26 (.d (.st [(.int .i64 r5), (.int .i64 r4), (.int .i64 r3)])))), (1012, some (.box 26 (.d (.st [(.int .i64 m9.1), (.int .i64 m9.2.1), (.int .i64 m9.2.2)])))), (3013, some (.row 3 1 (s11.2.map (eI .i64))))] : OL)) (fun (p20 : ((List Int))) e E' O' => e = .exit 1 ∧ Mat B E' O' ([(11, (.ptr 1011 0 [])), (12, (.ptr 1012 0 [])), (13, (.sref 3013 1 0 p20.length))] : EL) ([(1011, some (.box 26 (.d (.st [(.int .i64 r5), (.int .i64 r4), (.int .i64 r3)])))), (1012, some (.box 26 (.d (.st [(.int .i64 m9.1), (.int .i64 m9.2.1), (.int .i64 m9.2.2)])))), (3013, some (.row 3 1 (p20.map (eI .i64))))] : OL)) hx26 (fun s11 y h => ?_) (fun e E' O' hR => ?_)
      · unfold exchangepointlaw12_MeterMore_L0 at h
        show AWp _ _ _ _ ([(11, (.ptr 1011 0 [])), (12, (.ptr 1012 0 [])), (13, (.sref 3013 1 0 s11.2.length)), (55, (.d (.list 1 (a0.map (eI .i64))))), (56, (.d (.int .i64 (a0.length : Int)))), (57, (.d (.int .i64 s11.1)))] : EL) ([(1011, some (.box 26 (.d (.st [(.int .i64 r5), (.int .i64 r4), (.int .i64 r3)])))), (1012, some (.box 26 (.d (.st [(.int .i64 m9.1), (.int .i64 m9.2.1), (.int .i64 m9.2.2)])))), (3013, some (.row 3 1 (s11.2.map (eI .i64))))] : OL)
        refine AWp.seq ?_
        refine AWp.region (OpJs.cons (OpJ.lss (ltN hN rfl) (Opd.tmp 57 (.d (.int .i64 s11.1))) (Opd.tmp 56 (.d (.int .i64 (a0.length : Int)))))
          (OpJs.nil)) (by rfl) (by rfl) ?_
        refine seqQ_n ?_
        refine AWp.ghost (Mat.pat [] [(11, (.ptr 1011 0 [])), (12, (.ptr 1012 0 [])), (13, (.sref 3013 1 0 s11.2.length)), (55, (.d (.list 1 (a0.map (eI .i64))))), (56, (.d (.int .i64 (a0.length : Int)))), (57, (.d (.int .i64 s11.1))), (58, (.d (.bool (decide (s11.1 < (a0.length : Int))))))] [(1011, some (.box 26 (.d (.st [(.int .i64 r5), (.int .i64 r4), (.int .i64 r3)])))), (1012, some (.box 26 (.d (.st [(.int .i64 m9.1), (.int .i64 m9.2.1), (.int .i64 m9.2.2)])))), (3013, some (.row 3 1 (s11.2.map (eI .i64))))] hB (by rfl) (by rfl) (by rfl)) ?_
        refine AWp.seq ?_
        refine AWp.cond (b := (decide (s11.1 < (a0.length : Int)))) (by rfl) (fun hg21 => ?_) (fun hg21 => ?_)
        · replace h := ite_t hg21 h
          refine AWp.skip ?_
          refine seqQ_n ?_
          refine AWp.seq ?_
          refine AWp.block ?_
          refine AWp.seq ?_
          obtain ⟨x22, hx22, h⟩ := bindS h
          refine AWp.region (OpJs.cons (OpJ.indexD (el := (.int .i64 x22)) Try.underlying22 tyS3 (idx_some hx22).1 (get_map (eI .i64) (idx_some hx22).2) (ltN hN rfl) (Opd.tmp 55 (.d (.list 1 (a0.map (eI .i64))))) (Opd.tmp 57 (.d (.int .i64 s11.1))))
            (OpJs.cons (OpJ.loadD tyS3 (by rfl) (by rfl) (ltN hN rfl) (Opd.tmp 59 (.dptr (.int .i64 x22))))
            (OpJs.cons (OpJ.assign (ltN hN rfl) (Opd.tmp 60 (.d (.int .i64 x22))))
            (OpJs.nil)))) (by rfl) (by rfl) ?_
          refine seqQ_n ?_
          refine AWp.ghost (Mat.pat [] [(11, (.ptr 1011 0 [])), (12, (.ptr 1012 0 [])), (13, (.sref 3013 1 0 s11.2.length)), (15, (.d (.int .i64 x22))), (55, (.d (.list 1 (a0.map (eI .i64))))), (56, (.d (.int .i64 (a0.length : Int)))), (57, (.d (.int .i64 s11.1)))] [(1011, some (.box 26 (.d (.st [(.int .i64 r5), (.int .i64 r4), (.int .i64 r3)])))), (1012, some (.box 26 (.d (.st [(.int .i64 m9.1), (.int .i64 m9.2.1), (.int .i64 m9.2.2)])))), (3013, some (.row 3 1 (s11.2.map (eI .i64))))] hB (by rfl) (by rfl) (by rfl)) ?_
          obtain ⟨r23, hr23, h⟩ := bindS h
          obtain ⟨hc24, h⟩ := chk_some h
          refine AWp.region (OpJs.cons (OpJ.move (ltN hN rfl) (Opd.tmp 13 (.sref 3013 1 0 s11.2.length)))
            (OpJs.cons (OpJ.move (ltN hN rfl) (Opd.tmp 15 (.d (.int .i64 x22))))
            (OpJs.cons (OpJ.callFn hB fnOk7 (exchangepointmake_Mod_ac x22 (30 : Int) r23 hr23) [] (by kernel_rfl) (ltN hN rfl) (by kernel_rfl) (OpdL.cons (Opd.tmp 62 (.d (.int .i64 x22))) (OpdL.cons (Opd.int .i64 (30)) OpdL.nil)))
            (OpJs.cons (OpJ.buildSlice Try.underlying22 tyS3 tyZD3 (by rfl) (by decide) (by decide) (Opds.cons (Opd.tmp 63 (.d (.int .i64 r23))) Opds.nil) (by kernel_rfl) (es := ([(.int .i64 r23)] : List D)) (by rfl) (by rfl) (by kernel_rfl) (by simp) (ltN hN rfl))
            (OpJs.cons (OpJ.append hB Try.underlying22 tyE3 (nm := 1065) (by decide) (es := s11.2.map (eI .i64)) (ys := ([r23] : List Int).map (eI .i64)) (es' := (s11.2 ++ ([r23] : List Int)).map (eI .i64)) (len := (s11.2 ++ ([r23] : List Int)).length) (by simp) (by simp) (map_sz (f := (eI .i64)) (fun _ => rfl)) (by rw [List.length_map]; exact lim_mulN hc24 (by decide)) (by rw [List.length_map]; exact lim_leN hc24) (ltN hN rfl) (by simp) (Opd.tmp 61 (.sref 3013 1 0 s11.2.length)) (Opd.tmp 64 (.d (.list 1 (([r23] : List Int).map (eI .i64))))))
            (OpJs.cons (OpJ.assign (ltN hN rfl) (Opd.tmp 65 (.sref 1065 1 0 ((s11.2 ++ ([r23] : List Int)).length))))
            (OpJs.nil))))))) (by rfl) (by rfl) ?_
          refine blkQ_n ?_
          refine seqQ_n ?_
          refine AWp.ghost (Mat.pat [] [(11, (.ptr 1011 0 [])), (12, (.ptr 1012 0 [])), (13, (.sref 1065 1 0 ((s11.2 ++ ([r23] : List Int)).length))), (55, (.d (.list 1 (a0.map (eI .i64))))), (56, (.d (.int .i64 (a0.length : Int)))), (57, (.d (.int .i64 s11.1)))] [(1011, some (.box 26 (.d (.st [(.int .i64 r5), (.int .i64 r4), (.int .i64 r3)])))), (1012, some (.box 26 (.d (.st [(.int .i64 m9.1), (.int .i64 m9.2.1), (.int .i64 m9.2.2)])))), (1065, some (.row 3 1 ((s11.2 ++ ([r23] : List Int)).map (eI .i64))))] hB (by rfl) (by rfl) (by rfl)) ?_
          refine AWp.region (OpJs.cons (OpJ.add (ltN hN rfl) (Opd.tmp 57 (.d (.int .i64 s11.1))) (Opd.int .i64 (1)))
            (OpJs.cons (OpJ.move (ltN hN rfl) (Opd.tmp 66 (.d (.int .i64 (w64 (s11.1 + (1 : Int)))))))
            (OpJs.nil))) (by rfl) (by rfl) ?_
          obtain rfl := Option.some.inj h
          exact ⟨rfl, (Mat.trans (Mat.pat [] [(11, (.ptr 1011 0 [])), (12, (.ptr 1012 0 [])), (13, (.sref 1065 1 0 ((s11.2 ++ ([r23] : List Int)).length))), (55, (.d (.list 1 (a0.map (eI .i64))))), (56, (.d (.int .i64 (a0.length : Int)))), (57, (.d (.int .i64 (w64 (s11.1 + (1 : Int))))))] [(1011, some (.box 26 (.d (.st [(.int .i64 r5), (.int .i64 r4), (.int .i64 r3)])))), (1012, some (.box 26 (.d (.st [(.int .i64 m9.1), (.int .i64 m9.2.1), (.int .i64 m9.2.2)])))), (1065, some (.row 3 1 ((s11.2 ++ ([r23] : List Int)).map (eI .i64))))] hB (by rfl) (by rfl) (by rfl)) (Mat.pat [(3013, 1065)] ((fun s11 : Int × (List Int) => ([(11, (.ptr 1011 0 [])), (12, (.ptr 1012 0 [])), (13, (.sref 3013 1 0 s11.2.length)), (55, (.d (.list 1 (a0.map (eI .i64))))), (56, (.d (.int .i64 (a0.length : Int)))), (57, (.d (.int .i64 s11.1)))] : EL)) ((w64 (s11.1 + (1 : Int))), (s11.2 ++ ([r23] : List Int)))) ((fun s11 : Int × (List Int) => ([(1011, some (.box 26 (.d (.st [(.int .i64 r5), (.int .i64 r4), (.int .i64 r3)])))), (1012, some (.box 26 (.d (.st [(.int .i64 m9.1), (.int .i64 m9.2.1), (.int .i64 m9.2.2)])))), (3013, some (.row 3 1 (s11.2.map (eI .i64))))] : OL)) ((w64 (s11.1 + (1 : Int))), (s11.2 ++ ([r23] : List Int)))) hB (by rfl) (by rfl) (by rfl)))⟩
        · replace h := ite_f hg21 h
          refine AWp.exit ?_
          refine seqQ_e ?_
          obtain rfl := Option.some.inj h
          exact ⟨(fun hc => by cases hc), rfl, (Mat.pat [] ((fun p20 : (List Int) => ([(11, (.ptr 1011 0 [])), (12, (.ptr 1012 0 [])), (13, (.sref 3013 1 0 p20.length))] : EL)) s11.2) ((fun p20 : (List Int) => ([(1011, some (.box 26 (.d (.st [(.int .i64 r5), (.int .i64 r4), (.int .i64 r3)])))), (1012, some (.box 26 (.d (.st [(.int .i64 m9.1), (.int .i64 m9.2.1), (.int .i64 m9.2.2)])))), (3013, some (.row 3 1 (p20.map (eI .i64))))] : OL)) s11.2) hB (by rfl) (by rfl) (by rfl))⟩
      · obtain ⟨rfl, hmat⟩ := hR
        refine blkQ_hit ?_
        refine seqQ_n ?_
        refine AWp.ghost hmat ?_
        refine AWp.seq ?_
        refine AWp.ghost (Mat.freezeAll (n := 3013) (k := 13) (by rfl) (by rfl) (by simp)) ?_
        obtain ⟨r27, hr27, h⟩ := bindS h
        refine AWp.region (OpJs.cons (OpJ.loadB (bt := 26) (c := (.d (.st [(.int .i64 r5), (.int .i64 r4), (.int .i64 r3)]))) (v := (.d (.st [(.int .i64 r5), (.int .i64 r4), (.int .i64 r3)]))) tyS26 (At.here _) (by rfl) (by rfl) rfl (ltN hN rfl) (Opd.tmp 11 (.ptr 1011 0 [])))
          (OpJs.cons (OpJ.move (ltN hN rfl) (Opd.tmp 13 (.d (.list 1 (p20.map (eI .i64))))))
          (OpJs.cons (OpJ.callFn hB fnOk8 (meter_Run_ac (api_Bucket.mk r5 r4 r3) p20 r27 hr27) [] (by kernel_rfl) (ltN hN rfl) (by kernel_rfl) (OpdL.cons (Opd.tmp 68 (.d (.st [(.int .i64 r5), (.int .i64 r4), (.int .i64 r3)]))) (OpdL.cons (Opd.tmp 69 (.d (.list 1 (p20.map (eI .i64))))) OpdL.nil)))
          (OpJs.cons (OpJ.move (ltN hN rfl) (Opd.tmp 70 (.tup [(.d (e_api_Bucket r27.1)), (.d (.list 1 (r27.2.map (eI .i64))))])))
          (OpJs.cons (OpJ.extract (v := (.d (e_api_Bucket r27.1))) (by rfl) rfl (ltN hN rfl) (Opd.tmp 67 (.tup [(.d (e_api_Bucket r27.1)), (.d (.list 1 (r27.2.map (eI .i64))))])))
          (OpJs.cons (OpJ.extract (v := (.d (.list 1 (r27.2.map (eI .i64))))) (by rfl) rfl (ltN hN rfl) (Opd.tmp 67 (.tup [(.d (e_api_Bucket r27.1)), (.d (.list 1 (r27.2.map (eI .i64))))])))
          (OpJs.cons (OpJ.alloc hB tyZ26 (nm := 1016) (by decide) (ltN hN rfl))
          (OpJs.cons (OpJ.storeB (bt := 26) (c := (.d (.st [(.int .i64 (0 : Int)), (.int .i64 (0 : Int)), (.int .i64 (0 : Int))]))) (v := (.d (e_api_Bucket r27.1))) (c' := (.d (e_api_Bucket r27.1))) tyS26 (SetAt.here _ _) (by rfl) (by rfl) (by simp) rfl (Opd.tmp 16 (.ptr 1016 0 [])) (Opd.tmp 71 (.d (e_api_Bucket r27.1))))
          (OpJs.cons (OpJ.assign (ltN hN rfl) (Opd.tmp 72 (.d (.list 1 (r27.2.map (eI .i64))))))
          (OpJs.nil)))))))))) (by rfl) (by rfl) ?_
        refine seqQ_n ?_
        refine AWp.ghost (Mat.pat [] [(12, (.ptr 1012 0 [])), (13, (.d (.list 1 (p20.map (eI .i64))))), (17, (.d (.list 1 (r27.2.map (eI .i64)))))] [(1012, some (.box 26 (.d (.st [(.int .i64 m9.1), (.int .i64 m9.2.1), (.int .i64 m9.2.2)]))))] hB (by rfl) (by rfl) (by rfl)) ?_
        refine AWp.seq ?_
        obtain ⟨r28, hr28, h⟩ := bindS h
        refine AWp.region (OpJs.cons (OpJ.loadB (bt := 26) (c := (.d (.st [(.int .i64 m9.1), (.int .i64 m9.2.1), (.int .i64 m9.2.2)]))) (v := (.d (.st [(.int .i64 m9.1), (.int .i64 m9.2.1), (.int .i64 m9.2.2)]))) tyS26 (At.here _) (by rfl) (by rfl) rfl (ltN hN rfl) (Opd.tmp 12 (.ptr 1012 0 [])))
          (OpJs.cons (OpJ.move (ltN hN rfl) (Opd.tmp 13 (.d (.list 1 (p20.map (eI .i64))))))
          (OpJs.cons (OpJ.callFn hB fnOk8 (meter_Run_ac (api_Bucket.mk m9.1 m9.2.1 m9.2.2) p20 r28 hr28) [] (by kernel_rfl) (ltN hN rfl) (by kernel_rfl) (OpdL.cons (Opd.tmp 74 (.d (.st [(.int .i64 m9.1), (.int .i64 m9.2.1), (.int .i64 m9.2.2)]))) (OpdL.cons (Opd.tmp 75 (.d (.list 1 (p20.map (eI .i64))))) OpdL.nil)))
          (OpJs.cons (OpJ.move (ltN hN rfl) (Opd.tmp 76 (.tup [(.d (e_api_Bucket r28.1)), (.d (.list 1 (r28.2.map (eI .i64))))])))
          (OpJs.cons (OpJ.extract (v := (.d (e_api_Bucket r28.1))) (by rfl) rfl (ltN hN rfl) (Opd.tmp 73 (.tup [(.d (e_api_Bucket r28.1)), (.d (.list 1 (r28.2.map (eI .i64))))])))
          (OpJs.cons (OpJ.extract (v := (.d (.list 1 (r28.2.map (eI .i64))))) (by rfl) rfl (ltN hN rfl) (Opd.tmp 73 (.tup [(.d (e_api_Bucket r28.1)), (.d (.list 1 (r28.2.map (eI .i64))))])))
          (OpJs.cons (OpJ.alloc hB tyZ26 (nm := 1018) (by decide) (ltN hN rfl))
          (OpJs.cons (OpJ.storeB (bt := 26) (c := (.d (.st [(.int .i64 (0 : Int)), (.int .i64 (0 : Int)), (.int .i64 (0 : Int))]))) (v := (.d (e_api_Bucket r28.1))) (c' := (.d (e_api_Bucket r28.1))) tyS26 (SetAt.here _ _) (by rfl) (by rfl) (by simp) rfl (Opd.tmp 18 (.ptr 1018 0 [])) (Opd.tmp 77 (.d (e_api_Bucket r28.1))))
          (OpJs.cons (OpJ.assign (ltN hN rfl) (Opd.tmp 78 (.d (.list 1 (r28.2.map (eI .i64))))))
          (OpJs.nil)))))))))) (by rfl) (by rfl) ?_
        refine seqQ_n ?_
        refine AWp.ghost (Mat.pat [] [(13, (.d (.list 1 (p20.map (eI .i64))))), (17, (.d (.list 1 (r27.2.map (eI .i64))))), (19, (.d (.list 1 (r28.2.map (eI .i64)))))] [] hB (by rfl) (by rfl) (by rfl)) ?_
        refine AWp.seq ?_
        refine AWp.seq ?_
        refine AWp.region (OpJs.cons (OpJ.move (ltN hN rfl) (Opd.tmp 17 (.d (.list 1 (r27.2.map (eI .i64))))))
          (OpJs.cons (OpJ.val (v' := (.d (.int .i64 (r27.2.length : Int)))) (by simp) (OpJ.lenD Try.underlying22 (ltN hN rfl) (Opd.tmp 79 (.d (.list 1 (r27.2.map (eI .i64)))))))
          (OpJs.cons (OpJ.move (ltN hN rfl) (Opd.tmp 13 (.d (.list 1 (p20.map (eI .i64))))))
          (OpJs.cons (OpJ.val (v' := (.d (.int .i64 (p20.length : Int)))) (by simp) (OpJ.lenD Try.underlying22 (ltN hN rfl) (Opd.tmp 81 (.d (.list 1 (p20.map (eI .i64)))))))
          (OpJs.cons (OpJ.neqI (ltN hN rfl) (Opd.tmp 80 (.d (.int .i64 (r27.2.length : Int)))) (Opd.tmp 82 (.d (.int .i64 (p20.length : Int)))))
          (OpJs.cons (OpJ.move (ltN hN rfl) (Opd.tmp 83 (.d (.bool ((r27.2.length : Int) != (p20.length : Int))))))
          (OpJs.cons (OpJ.opt' (v := (.d (.list 1 (r28.2.map (eI .i64))))) (OpJ.move (ltN hN rfl) (Opd.tmp 19 (.d (.list 1 (r28.2.map (eI .i64)))))) (by rfl) (GuardV.plain _) (ltN hN rfl) (by rfl) (by rfl) (by rfl) (by rfl) (OptL.keep rfl OptL.nil))
          (OpJs.cons (OpJ.opt' (v := (.d (.int .i64 (r28.2.length : Int)))) (OpJ.val (v' := (.d (.int .i64 (r28.2.length : Int)))) (by simp) (OpJ.lenD Try.underlying22 (ltN hN rfl) (Opd.tmp 85 (.d (.list 1 (r28.2.map (eI .i64))))))) (by rfl) (GuardV.plain _) (ltN hN rfl) (by rfl) (by rfl) (by rfl) (by rfl) (OptL.opt OptL.nil))
          (OpJs.cons (OpJ.opt' (v := (.d (.list 1 (p20.map (eI .i64))))) (OpJ.move (ltN hN rfl) (Opd.tmp 13 (.d (.list 1 (p20.map (eI .i64)))))) (by rfl) (GuardV.plain _) (ltN hN rfl) (by rfl) (by rfl) (by rfl) (by rfl) (OptL.keep rfl OptL.nil))
          (OpJs.cons (OpJ.opt' (v := (.d (.int .i64 (p20.length : Int)))) (OpJ.val (v' := (.d (.int .i64 (p20.length : Int)))) (by simp) (OpJ.lenD Try.underlying22 (ltN hN rfl) (Opd.tmp 87 (.d (.list 1 (p20.map (eI .i64))))))) (by rfl) (GuardV.plain _) (ltN hN rfl) (by rfl) (by rfl) (by rfl) (by rfl) (OptL.opt OptL.nil))
          (OpJs.cons (OpJ.opt' (v := (.d (.bool ((r28.2.length : Int) != (p20.length : Int))))) (OpJ.neqI (ltN hN rfl) (Opd.tmp 86 (.d (.int .i64 (r28.2.length : Int)))) (Opd.tmp 88 (.d (.int .i64 (p20.length : Int))))) (by rfl) (GuardV.plain _) (ltN hN rfl) (by rfl) (by rfl) (by rfl) (by rfl) (OptL.opt (OptL.opt OptL.nil)))
          (OpJs.cons (OpJ.pickOr rfl (ltN hN rfl) (Opd.tmp 84 (.d (.bool ((r27.2.length : Int) != (p20.length : Int))))) (Opd.tmp 89 (.opt (((r27.2.length : Int) != (p20.length : Int)) == false) (.d (.bool ((r28.2.length : Int) != (p20.length : Int)))))))
          (OpJs.nil))))))))))))) (by rfl) (by rfl) ?_
        refine seqQ_n ?_
        refine AWp.ghost (Mat.pat [] [(13, (.d (.list 1 (p20.map (eI .i64))))), (17, (.d (.list 1 (r27.2.map (eI .i64))))), (19, (.d (.list 1 (r28.2.map (eI .i64))))), (90, (.d (.bool (((r27.2.length : Int) != (p20.length : Int)) || ((r28.2.length : Int) != (p20.length : Int))))))] [] hB (by rfl) (by rfl) (by rfl)) ?_
        refine AWp.cond (b := (((r27.2.length : Int) != (p20.length : Int)) || ((r28.2.length : Int) != (p20.length : Int)))) (by rfl) (fun hg29 => ?_) (fun hg29 => ?_)
        · replace h := ite_t hg29 h
          refine AWp.seq ?_
          refine AWp.region (OpJs.cons (OpJ.assign (ltN hN rfl) (Opd.bool false))
            (OpJs.nil)) (by rfl) (by rfl) ?_
          refine seqQ_n ?_
          refine AWp.ghost (Mat.pat [] [(10, (.d (.bool false)))] [] hB (by rfl) (by rfl) (by rfl)) ?_
          refine AWp.ret ?_
          refine seqQ_r ?_
          obtain rfl := Option.some.inj h
          exact ⟨.inl rfl, _, _, (Mat.pat [] [(10, (.d (.bool false)))] [] hB (by rfl) (by rfl) (by rfl)), [(.d (.bool false))], (Res.tmp (by rfl) (by rfl) Res.nil), rfl, by rfl, by rfl, by rfl⟩
        · replace h := ite_f hg29 h
          refine AWp.skip ?_
          refine seqQ_n ?_
          refine AWp.seq ?_
          refine AWp.region (OpJs.cons (OpJ.assign (ltN hN rfl) (Opd.int .i64 (0)))
            (OpJs.cons (OpJ.assign (ltN hN rfl) (Opd.int .i64 (0)))
            (OpJs.nil))) (by rfl) (by rfl) ?_
          refine seqQ_n ?_
          refine AWp.ghost (Mat.pat [] [(13, (.d (.list 1 (p20.map (eI .i64))))), (17, (.d (.list 1 (r27.2.map (eI .i64))))), (19, (.d (.list 1 (r28.2.map (eI .i64))))), (20, (.d (.int .i64 (0 : Int)))), (21, (.d (.int .i64 (0 : Int))))] [] hB (by rfl) (by rfl) (by rfl)) ?_
          refine AWp.seq ?_
          refine AWp.seq ?_
          refine AWp.region (OpJs.cons (OpJ.move (ltN hN rfl) (Opd.tmp 13 (.d (.list 1 (p20.map (eI .i64))))))
            (OpJs.cons (OpJ.val (v' := (.d (.int .i64 (p20.length : Int)))) (by simp) (OpJ.lenD Try.underlying22 (ltN hN rfl) (Opd.tmp 91 (.d (.list 1 (p20.map (eI .i64)))))))
            (OpJs.cons (OpJ.move (ltN hN rfl) (Opd.int .i64 (0)))
            (OpJs.nil)))) (by rfl) (by rfl) ?_
          refine seqQ_n ?_
          refine AWp.ghost (Mat.pat [] [(17, (.d (.list 1 (r27.2.map (eI .i64))))), (19, (.d (.list 1 (r28.2.map (eI .i64))))), (20, (.d (.int .i64 (0 : Int)))), (21, (.d (.int .i64 (0 : Int)))), (92, (.d (.int .i64 (p20.length : Int)))), (93, (.d (.int .i64 (0 : Int))))] [] hB (by rfl) (by rfl) (by rfl)) ?_
          refine AWp.block ?_
          obtain ⟨x45, hx46, h⟩ := bindS h
          refine AWp.ghost (Mat.pat [] ((fun s30 : Int × Int × Int => ([(17, (.d (.list 1 (r27.2.map (eI .i64))))), (19, (.d (.list 1 (r28.2.map (eI .i64))))), (20, (.d (.int .i64 s30.1))), (21, (.d (.int .i64 s30.2.1))), (92, (.d (.int .i64 (p20.length : Int)))), (93, (.d (.int .i64 s30.2.2)))] : EL)) ((0 : Int), (0 : Int), (0 : Int))) ((fun s30 : Int × Int × Int => ([] : OL)) ((0 : Int), (0 : Int), (0 : Int))) hB (by rfl) (by rfl) (by rfl)) ?_
          refine AWp.loopS (exchangepointlaw12_MeterMore_L1 p20 r27 r28) (fun s30 : Int × Int × Int => ([(17, (.d (.list 1 (r27.2.map (eI .i64))))), (19, (.d (.list 1 (r28.2.map (eI .i64))))), (20, (.d (.int .i64 s30.1))), (21, (.d (.int .i64 s30.2.1))), (92, (.d (.int .i64 (p20.length : Int)))), (93, (.d (.int .i64 s30.2.2)))] : EL)) (fun s30 : Int × Int × Int => ([] : OL)) (fun (x : (Unit) ⊕ (Unit)) e E' O' => match x with | (.inl _p) => e = .ret ∧ Mat B E' O' ([(10, (.d (.bool false)))] : EL) ([] : OL) | (.inr _p) => e = .exit 3 ∧ Mat B E' O' ([] : EL) ([] : OL)) hx46 (fun s30 y h => ?_) (fun e E' O' hR => ?_)
          · unfold exchangepointlaw12_MeterMore_L1 at h
            show AWp _ _ _ _ ([(17, (.d (.list 1 (r27.2.map (eI .i64))))), (19, (.d (.list 1 (r28.2.map (eI .i64))))), (20, (.d (.int .i64 s30.1))), (21, (.d (.int .i64 s30.2.1))), (92, (.d (.int .i64 (p20.length : Int)))), (93, (.d (.int .i64 s30.2.2)))] : EL) ([] : OL)
            refine AWp.seq ?_
            refine AWp.region (OpJs.cons (OpJ.lss (ltN hN rfl) (Opd.tmp 93 (.d (.int .i64 s30.2.2))) (Opd.tmp 92 (.d (.int .i64 (p20.length : Int)))))
              (OpJs.nil)) (by rfl) (by rfl) ?_
            refine seqQ_n ?_
            refine AWp.ghost (Mat.pat [] [(17, (.d (.list 1 (r27.2.map (eI .i64))))), (19, (.d (.list 1 (r28.2.map (eI .i64))))), (20, (.d (.int .i64 s30.1))), (21, (.d (.int .i64 s30.2.1))), (92, (.d (.int .i64 (p20.length : Int)))), (93, (.d (.int .i64 s30.2.2))), (94, (.d (.bool (decide (s30.2.2 < (p20.length : Int))))))] [] hB (by rfl) (by rfl) (by rfl)) ?_
            refine AWp.seq ?_
            refine AWp.cond (b := (decide (s30.2.2 < (p20.length : Int)))) (by rfl) (fun hg41 => ?_) (fun hg41 => ?_)
            · replace h := ite_t hg41 h
              refine AWp.skip ?_
              refine seqQ_n ?_
              refine AWp.seq ?_
              refine AWp.block ?_
              refine AWp.seq ?_
              refine AWp.region (OpJs.cons (OpJ.move (ltN hN rfl) (Opd.tmp 93 (.d (.int .i64 s30.2.2))))
                (OpJs.cons (OpJ.assign (ltN hN rfl) (Opd.tmp 95 (.d (.int .i64 s30.2.2))))
                (OpJs.nil))) (by rfl) (by rfl) ?_
              refine seqQ_n ?_
              refine AWp.ghost (Mat.pat [] [(17, (.d (.list 1 (r27.2.map (eI .i64))))), (19, (.d (.list 1 (r28.2.map (eI .i64))))), (20, (.d (.int .i64 s30.1))), (21, (.d (.int .i64 s30.2.1))), (22, (.d (.int .i64 s30.2.2))), (92, (.d (.int .i64 (p20.length : Int)))), (93, (.d (.int .i64 s30.2.2)))] [] hB (by rfl) (by rfl) (by rfl)) ?_
              refine AWp.seq ?_
              obtain ⟨x42, hx42, h⟩ := bindS h
              obtain ⟨x43, hx43, h⟩ := bindS h
              refine AWp.draws (by kernel_rfl) (OpJs.cons (OpJ.move (ltN hN rfl) (Opd.tmp 20 (.d (.int .i64 s30.1))))
                (OpJs.cons (OpJ.move (ltN hN rfl) (Opd.tmp 17 (.d (.list 1 (r27.2.map (eI .i64))))))
                (OpJs.cons (OpJ.move (ltN hN rfl) (Opd.tmp 22 (.d (.int .i64 s30.2.2))))
                (OpJs.cons (OpJ.indexD (el := (.int .i64 x42)) Try.underlying22 tyS3 (idx_some hx42).1 (get_map (eI .i64) (idx_some hx42).2) (ltN hN rfl) (Opd.tmp 97 (.d (.list 1 (r27.2.map (eI .i64))))) (Opd.tmp 98 (.d (.int .i64 s30.2.2))))
                (OpJs.cons (OpJ.loadD tyS3 (by rfl) (by rfl) (ltN hN rfl) (Opd.tmp 99 (.dptr (.int .i64 x42))))
                (OpJs.cons (OpJ.add (ltN hN rfl) (Opd.tmp 96 (.d (.int .i64 s30.1))) (Opd.tmp 100 (.d (.int .i64 x42))))
                (OpJs.cons (OpJ.move (ltN hN rfl) (Opd.tmp 21 (.d (.int .i64 s30.2.1))))
                (OpJs.cons (OpJ.move (ltN hN rfl) (Opd.tmp 19 (.d (.list 1 (r28.2.map (eI .i64))))))
                (OpJs.cons (OpJ.move (ltN hN rfl) (Opd.tmp 22 (.d (.int .i64 s30.2.2))))
                (OpJs.cons (OpJ.indexD (el := (.int .i64 x43)) Try.underlying22 tyS3 (idx_some hx43).1 (get_map (eI .i64) (idx_some hx43).2) (ltN hN rfl) (Opd.tmp 103 (.d (.list 1 (r28.2.map (eI .i64))))) (Opd.tmp 104 (.d (.int .i64 s30.2.2))))
                (OpJs.cons (OpJ.loadD tyS3 (by rfl) (by rfl) (ltN hN rfl) (Opd.tmp 105 (.dptr (.int .i64 x43))))
                (OpJs.cons (OpJ.add (ltN hN rfl) (Opd.tmp 102 (.d (.int .i64 s30.2.1))) (Opd.tmp 106 (.d (.int .i64 x43))))
                (OpJs.cons (OpJ.assign (ltN hN rfl) (Opd.tmp 101 (.d (.int .i64 (w64 (s30.1 + x42))))))
                (OpJs.cons (OpJ.assign (ltN hN rfl) (Opd.tmp 107 (.d (.int .i64 (w64 (s30.2.1 + x43))))))
                (OpJs.nil))))))))))))))) (by kernel_rfl) (by rfl) (by rfl) ?_
              refine seqQ_n ?_
              refine AWp.ghost (Mat.pat [] [(17, (.d (.list 1 (r27.2.map (eI .i64))))), (19, (.d (.list 1 (r28.2.map (eI .i64))))), (20, (.d (.int .i64 (w64 (s30.1 + x42))))), (21, (.d (.int .i64 (w64 (s30.2.1 + x43))))), (92, (.d (.int .i64 (p20.length : Int)))), (93, (.d (.int .i64 s30.2.2)))] [] hB (by rfl) (by rfl) (by rfl)) ?_
              refine AWp.seq ?_
              refine AWp.region (OpJs.cons (OpJ.move (ltN hN rfl) (Opd.tmp 20 (.d (.int .i64 (w64 (s30.1 + x42))))))
                (OpJs.cons (OpJ.move (ltN hN rfl) (Opd.tmp 21 (.d (.int .i64 (w64 (s30.2.1 + x43))))))
                (OpJs.cons (OpJ.gtr (ltN hN rfl) (Opd.tmp 108 (.d (.int .i64 (w64 (s30.1 + x42))))) (Opd.tmp 109 (.d (.int .i64 (w64 (s30.2.1 + x43))))))
                (OpJs.nil)))) (by rfl) (by rfl) ?_
              refine seqQ_n ?_
              refine AWp.ghost (Mat.pat [] [(17, (.d (.list 1 (r27.2.map (eI .i64))))), (19, (.d (.list 1 (r28.2.map (eI .i64))))), (20, (.d (.int .i64 (w64 (s30.1 + x42))))), (21, (.d (.int .i64 (w64 (s30.2.1 + x43))))), (92, (.d (.int .i64 (p20.length : Int)))), (93, (.d (.int .i64 s30.2.2))), (110, (.d (.bool (decide ((w64 (s30.2.1 + x43)) < (w64 (s30.1 + x42)))))))] [] hB (by rfl) (by rfl) (by rfl)) ?_
              refine AWp.cond (b := (decide ((w64 (s30.2.1 + x43)) < (w64 (s30.1 + x42))))) (by rfl) (fun hg44 => ?_) (fun hg44 => ?_)
              · replace h := ite_t hg44 h
                refine AWp.seq ?_
                refine AWp.region (OpJs.cons (OpJ.assign (ltN hN rfl) (Opd.bool false))
                  (OpJs.nil)) (by rfl) (by rfl) ?_
                refine seqQ_n ?_
                refine AWp.ghost (Mat.pat [] [(10, (.d (.bool false)))] [] hB (by rfl) (by rfl) (by rfl)) ?_
                refine AWp.ret ?_
                refine blkQ_r ?_
                refine seqQ_r ?_
                obtain rfl := Option.some.inj h
                exact ⟨(fun hc => by cases hc), rfl, (Mat.pat [] ((fun _ : Unit => ([(10, (.d (.bool false)))] : EL)) ()) ((fun _ : Unit => ([] : OL)) ()) hB (by rfl) (by rfl) (by rfl))⟩
              · replace h := ite_f hg44 h
                refine AWp.skip ?_
                refine blkQ_n ?_
                refine seqQ_n ?_
                refine AWp.region (OpJs.cons (OpJ.add (ltN hN rfl) (Opd.tmp 93 (.d (.int .i64 s30.2.2))) (Opd.int .i64 (1)))
                  (OpJs.cons (OpJ.move (ltN hN rfl) (Opd.tmp 111 (.d (.int .i64 (w64 (s30.2.2 + (1 : Int)))))))
                  (OpJs.nil))) (by rfl) (by rfl) ?_
                obtain rfl := Option.some.inj h
                exact ⟨rfl, (Mat.trans (Mat.pat [] [(17, (.d (.list 1 (r27.2.map (eI .i64))))), (19, (.d (.list 1 (r28.2.map (eI .i64))))), (20, (.d (.int .i64 (w64 (s30.1 + x42))))), (21, (.d (.int .i64 (w64 (s30.2.1 + x43))))), (92, (.d (.int .i64 (p20.length : Int)))), (93, (.d (.int .i64 (w64 (s30.2.2 + (1 : Int))))))] [] hB (by rfl) (by rfl) (by rfl)) (Mat.pat [] ((fun s30 : Int × Int × Int => ([(17, (.d (.list 1 (r27.2.map (eI .i64))))), (19, (.d (.list 1 (r28.2.map (eI .i64))))), (20, (.d (.int .i64 s30.1))), (21, (.d (.int .i64 s30.2.1))), (92, (.d (.int .i64 (p20.length : Int)))), (93, (.d (.int .i64 s30.2.2)))] : EL)) ((w64 (s30.1 + x42)), (w64 (s30.2.1 + x43)), (w64 (s30.2.2 + (1 : Int))))) ((fun s30 : Int × Int × Int => ([] : OL)) ((w64 (s30.1 + x42)), (w64 (s30.2.1 + x43)), (w64 (s30.2.2 + (1 : Int))))) hB (by rfl) (by rfl) (by rfl)))⟩
            · replace h := ite_f hg41 h
              refine AWp.exit ?_
              refine seqQ_e ?_
              obtain rfl := Option.some.inj h
              exact ⟨(fun hc => by cases hc), rfl, (Mat.pat [] ((fun _ : Unit => ([] : EL)) ()) ((fun _ : Unit => ([] : OL)) ()) hB (by rfl) (by rfl) (by rfl))⟩
          · rcases x45 with _ | _
            · obtain ⟨rfl, hmat⟩ := hR
              refine blkQ_r ?_
              refine seqQ_r ?_
              obtain rfl := Option.some.inj h
              exact ⟨.inl rfl, _, _, (Mat.trans hmat (Mat.pat [] [(10, (.d (.bool false)))] [] hB (by rfl) (by rfl) (by rfl))), [(.d (.bool false))], (Res.tmp (by rfl) (by rfl) Res.nil), rfl, by rfl, by rfl, by rfl⟩
            · obtain ⟨rfl, hmat⟩ := hR
              refine blkQ_hit ?_
              refine seqQ_n ?_
              refine AWp.ghost hmat ?_
              refine AWp.seq ?_
              obtain ⟨r47, hr47, h⟩ := bindS h
              refine AWp.region (OpJs.cons (OpJ.callFn hB fnOk6 (exchangepointlaw12_awake_ac  r47 hr47) [] (by kernel_rfl) (ltN hN rfl) (by kernel_rfl) OpdL.nil)
                (OpJs.cons (OpJ.assign (ltN hN rfl) (Opd.tmp 112 (.d (.bool r47))))
                (OpJs.nil))) (by rfl) (by rfl) ?_
              refine seqQ_n ?_
              refine AWp.ghost (Mat.pat [] [(10, (.d (.bool r47)))] [] hB (by rfl) (by rfl) (by rfl)) ?_
              refine AWp.ret ?_
              obtain rfl := Option.some.inj h
              exact ⟨.inl rfl, _, _, (Mat.pat [] [(10, (.d (.bool r47)))] [] hB (by rfl) (by rfl) (by rfl)), [(.d (.bool r47))], (Res.tmp (by rfl) (by rfl) Res.nil), rfl, by rfl, by rfl, by rfl⟩
    · refine AWp.cond (b := (r6 == (0 : Int))) (by rfl) (fun hg48 => ?_) (fun hg48 => ?_)
      · replace h := ite_t hg48 h
        refine AWp.region (OpJs.cons (OpJ.move (ltN hN rfl) (Opd.tmp 2 (.d (.int .i64 r3))))
          (OpJs.cons (OpJ.val (v' := (.ptr 1012 0 [0])) (by rfl) (OpJ.fieldP Try.underlying26 (by rfl) (o := 0) (by rfl) tyS3 (by decide) (obj := (.box 26 (.d (.st [(.int .i64 r5), (.int .i64 r4), (.int .i64 r3)])))) (ltN hN rfl) (Opd.tmp 12 (.ptr 1012 0 []))))
          (OpJs.cons (OpJ.storeB (bt := 26) (c := (.d (.st [(.int .i64 r5), (.int .i64 r4), (.int .i64 r3)]))) (v := (.d (.int .i64 r3))) (c' := (.d (.st [(.int .i64 r3), (.int .i64 r4), (.int .i64 r3)]))) tyS3 (SetAt.dst1 (f := (.int .i64 r5)) (f' := (.int .i64 r3)) (by rfl) (by rfl) (SetAt.here _ _) (by rfl) (by rfl) (by first | rfl | omega)) (by rfl) (by rfl) (by simp) rfl (Opd.tmp 50 (.ptr 1012 0 [0])) (Opd.tmp 49 (.d (.int .i64 r3))))
          (OpJs.nil)))) (by rfl) (by rfl) ?_
        exact hjj10 _ h _ _ (Mat.trans (Mat.pat [] [(0, (.d (.list 1 (a0.map (eI .i64))))), (11, (.ptr 1011 0 [])), (12, (.ptr 1012 0 []))] [(1011, some (.box 26 (.d (.st [(.int .i64 r5), (.int .i64 r4), (.int .i64 r3)])))), (1012, some (.box 26 (.d (.st [(.int .i64 r3), (.int .i64 r4), (.int .i64 r3)]))))] hB (by rfl) (by rfl) (by rfl)) (Mat.pat [] ((fun m9 : Int × Int × Int => ([(0, (.d (.list 1 (a0.map (eI .i64))))), (11, (.ptr 1011 0 [])), (12, (.ptr 1012 0 []))] : EL)) (r3, r4, r3)) ((fun m9 : Int × Int × Int => ([(1011, some (.box 26 (.d (.st [(.int .i64 r5), (.int .i64 r4), (.int .i64 r3)])))), (1012, some (.box 26 (.d (.st [(.int .i64 m9.1), (.int .i64 m9.2.1), (.int .i64 m9.2.2)]))))] : OL)) (r3, r4, r3)) hB (by rfl) (by rfl) (by rfl)))
      · replace h := ite_f hg48 h
        refine AWp.seq ?_
        refine AWp.region (OpJs.cons (OpJ.eqlI (ltN hN rfl) (Opd.tmp 42 (.d (.int .i64 r6))) (Opd.int .i64 (1)))
          (OpJs.cons (OpJ.assign (ltN hN rfl) (Opd.tmp 52 (.d (.bool (r6 == (1 : Int))))))
          (OpJs.nil))) (by rfl) (by rfl) ?_
        refine seqQ_n ?_
        refine AWp.ghost (Mat.pat [] [(0, (.d (.list 1 (a0.map (eI .i64))))), (2, (.d (.int .i64 r3))), (11, (.ptr 1011 0 [])), (12, (.ptr 1012 0 [])), (51, (.d (.bool (r6 == (1 : Int)))))] [(1011, some (.box 26 (.d (.st [(.int .i64 r5), (.int .i64 r4), (.int .i64 r3)])))), (1012, some (.box 26 (.d (.st [(.int .i64 r5), (.int .i64 r4), (.int .i64 r3)]))))] hB (by rfl) (by rfl) (by rfl)) ?_
        refine AWp.cond (b := (r6 == (1 : Int))) (by rfl) (fun hg49 => ?_) (fun hg49 => ?_)
        · replace h := ite_t hg49 h
          refine AWp.region (OpJs.cons (OpJ.move (ltN hN rfl) (Opd.tmp 2 (.d (.int .i64 r3))))
            (OpJs.cons (OpJ.val (v' := (.ptr 1012 1 [1])) (by rfl) (OpJ.fieldP Try.underlying26 (by rfl) (o := 1) (by rfl) tyS3 (by decide) (obj := (.box 26 (.d (.st [(.int .i64 r5), (.int .i64 r4), (.int .i64 r3)])))) (ltN hN rfl) (Opd.tmp 12 (.ptr 1012 0 []))))
            (OpJs.cons (OpJ.storeB (bt := 26) (c := (.d (.st [(.int .i64 r5), (.int .i64 r4), (.int .i64 r3)]))) (v := (.d (.int .i64 r3))) (c' := (.d (.st [(.int .i64 r5), (.int .i64 r3), (.int .i64 r3)]))) tyS3 (SetAt.dst1 (f := (.int .i64 r4)) (f' := (.int .i64 r3)) (by rfl) (by rfl) (SetAt.here _ _) (by rfl) (by rfl) (by first | rfl | omega)) (by rfl) (by rfl) (by simp) rfl (Opd.tmp 54 (.ptr 1012 1 [1])) (Opd.tmp 53 (.d (.int .i64 r3))))
            (OpJs.nil)))) (by rfl) (by rfl) ?_
          exact hjj10 _ h _ _ (Mat.trans (Mat.pat [] [(0, (.d (.list 1 (a0.map (eI .i64))))), (11, (.ptr 1011 0 [])), (12, (.ptr 1012 0 []))] [(1011, some (.box 26 (.d (.st [(.int .i64 r5), (.int .i64 r4), (.int .i64 r3)])))), (1012, some (.box 26 (.d (.st [(.int .i64 r5), (.int .i64 r3), (.int .i64 r3)]))))] hB (by rfl) (by rfl) (by rfl)) (Mat.pat [] ((fun m9 : Int × Int × Int => ([(0, (.d (.list 1 (a0.map (eI .i64))))), (11, (.ptr 1011 0 [])), (12, (.ptr 1012 0 []))] : EL)) (r5, r3, r3)) ((fun m9 : Int × Int × Int => ([(1011, some (.box 26 (.d (.st [(.int .i64 r5), (.int .i64 r4), (.int .i64 r3)])))), (1012, some (.box 26 (.d (.st [(.int .i64 m9.1), (.int .i64 m9.2.1), (.int .i64 m9.2.2)]))))] : OL)) (r5, r3, r3)) hB (by rfl) (by rfl) (by rfl)))
        · replace h := ite_f hg49 h
          refine AWp.region (OpJs.cons (OpJ.val (v' := (.ptr 1012 2 [2])) (by rfl) (OpJ.fieldP Try.underlying26 (by rfl) (o := 2) (by rfl) tyS3 (by decide) (obj := (.box 26 (.d (.st [(.int .i64 r5), (.int .i64 r4), (.int .i64 r3)])))) (ltN hN rfl) (Opd.tmp 12 (.ptr 1012 0 []))))
            (OpJs.cons (OpJ.loadB (bt := 26) (c := (.d (.st [(.int .i64 r5), (.int .i64 r4), (.int .i64 r3)]))) (v := (.d (.int .i64 r3))) tyS3 (At.dst1 (f := (.int .i64 r3)) (by rfl) (by rfl) (At.here _) (by first | rfl | omega)) (by rfl) (by rfl) rfl (ltN hN rfl) (Opd.tmp 43 (.ptr 1012 2 [2])))
            (OpJs.cons (OpJ.add (ltN hN rfl) (Opd.tmp 44 (.d (.int .i64 r3))) (Opd.int .i64 (5)))
            (OpJs.cons (OpJ.val (v' := (.ptr 1012 2 [2])) (by rfl) (OpJ.fieldP Try.underlying26 (by rfl) (o := 2) (by rfl) tyS3 (by decide) (obj := (.box 26 (.d (.st [(.int .i64 r5), (.int .i64 r4), (.int .i64 r3)])))) (ltN hN rfl) (Opd.tmp 12 (.ptr 1012 0 []))))
            (OpJs.cons (OpJ.storeB (bt := 26) (c := (.d (.st [(.int .i64 r5), (.int .i64 r4), (.int .i64 r3)]))) (v := (.d (.int .i64 (w64 (r3 + (5 : Int)))))) (c' := (.d (.st [(.int .i64 r5), (.int .i64 r4), (.int .i64 (w64 (r3 + (5 : Int))))]))) tyS3 (SetAt.dst1 (f := (.int .i64 r3)) (f' := (.int .i64 (w64 (r3 + (5 : Int))))) (by rfl) (by rfl) (SetAt.here _ _) (by rfl) (by rfl) (by first | rfl | omega)) (by rfl) (by rfl) (by simp) rfl (Opd.tmp 46 (.ptr 1012 2 [2])) (Opd.tmp 45 (.d (.int .i64 (w64 (r3 + (5 : Int)))))))
            (OpJs.nil)))))) (by rfl) (by rfl) ?_
          exact hjj10 _ h _ _ (Mat.trans (Mat.pat [] [(0, (.d (.list 1 (a0.map (eI .i64))))), (11, (.ptr 1011 0 [])), (12, (.ptr 1012 0 []))] [(1011, some (.box 26 (.d (.st [(.int .i64 r5), (.int .i64 r4), (.int .i64 r3)])))), (1012, some (.box 26 (.d (.st [(.int .i64 r5), (.int .i64 r4), (.int .i64 (w64 (r3 + (5 : Int))))]))))] hB (by rfl) (by rfl) (by rfl)) (Mat.pat [] ((fun m9 : Int × Int × Int => ([(0, (.d (.list 1 (a0.map (eI .i64))))), (11, (.ptr 1011 0 [])), (12, (.ptr 1012 0 []))] : EL)) (r5, r4, (w64 (r3 + (5 : Int))))) ((fun m9 : Int × Int × Int => ([(1011, some (.box 26 (.d (.st [(.int .i64 r5), (.int .i64 r4), (.int .i64 r3)])))), (1012, some (.box 26 (.d (.st [(.int .i64 m9.1), (.int .i64 m9.2.1), (.int .i64 m9.2.2)]))))] : OL)) (r5, r4, (w64 (r3 + (5 : Int))))) hB (by rfl) (by rfl) (by rfl)))

end Go.Proofs.Ytfkncddpcidnfaa
