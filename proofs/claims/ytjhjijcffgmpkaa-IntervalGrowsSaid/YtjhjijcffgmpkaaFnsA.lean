/- Printed by gen.py: the Go functions as plain functions, and that the code does what they say. -/
import Derived.Test.YtjhjijcffgmpkaaChecked
import Derived.Test.YtjhjijcffgmpkaaVcN
import Derived.KernelRfl
namespace Go.Proofs.Ytjhjijcffgmpkaa
open Go Go.Vc
def e_LeIi64 (x : (List Int)) : D := (.list 1 (x.map (eI .i64)))

def e_A61eIi64 (x : (List Int)) : D := (.arr 61 1 (x.map (eI .i64)))

theorem fnOk9 : FnOk Try.prog 9 := ⟨by kernel_rfl⟩

theorem tyS3 : TyS Try.prog 3 1 false := ⟨by kernel_rfl, by kernel_rfl⟩

theorem tyZD3 : TyZ Try.prog 3 (.d (.int .i64 (0 : Int))) := ⟨by kernel_rfl, fun w => by kernel_rfl⟩

theorem tyS23 : TyS Try.prog 23 1 false := ⟨by kernel_rfl, by kernel_rfl⟩

theorem tyZD23 : TyZ Try.prog 23 (.d (.list 1 (([] : List Int).map (eI .i64)))) := ⟨by kernel_rfl, fun w => by kernel_rfl⟩

theorem tyZ42 : TyZ Try.prog 42 (.d (.arr 61 61 ((List.replicate 61 (List.replicate 61 (0 : Int))).map e_A61eIi64))) := ⟨by kernel_rfl, fun w => by kernel_rfl⟩

theorem tyS40 : TyS Try.prog 40 61 true := ⟨by kernel_rfl, by kernel_rfl⟩

theorem fnOk21 : FnOk Try.prog 21 := ⟨by kernel_rfl⟩

theorem fnOk22 : FnOk Try.prog 22 := ⟨by kernel_rfl⟩

theorem fnOk10 : FnOk Try.prog 10 := ⟨by kernel_rfl⟩

theorem tyE3 : TyE Try.prog 3 1 8 := ⟨by kernel_rfl, by decide⟩

theorem fnOk23 : FnOk Try.prog 23 := ⟨by kernel_rfl⟩

theorem fnOk11 : FnOk Try.prog 11 := ⟨by kernel_rfl⟩

theorem fnOk24 : FnOk Try.prog 24 := ⟨by kernel_rfl⟩

theorem fnOk29 : FnOk Try.prog 29 := ⟨by kernel_rfl⟩

theorem fnOk25 : FnOk Try.prog 25 := ⟨by kernel_rfl⟩

theorem fnOk12 : FnOk Try.prog 12 := ⟨by kernel_rfl⟩

theorem fnOk26 : FnOk Try.prog 26 := ⟨by kernel_rfl⟩

theorem fnOk27 : FnOk Try.prog 27 := ⟨by kernel_rfl⟩

theorem fnOk13 : FnOk Try.prog 13 := ⟨by kernel_rfl⟩

theorem fnOk14 : FnOk Try.prog 14 := ⟨by kernel_rfl⟩

theorem fnOk15 : FnOk Try.prog 15 := ⟨by kernel_rfl⟩

theorem fnOk16 : FnOk Try.prog 16 := ⟨by kernel_rfl⟩

theorem fnOk33 : FnOk Try.prog 33 := ⟨by kernel_rfl⟩

theorem fnOk31 : FnOk Try.prog 31 := ⟨by kernel_rfl⟩

theorem fnOk28 : FnOk Try.prog 28 := ⟨by kernel_rfl⟩

theorem fnOk17 : FnOk Try.prog 17 := ⟨by kernel_rfl⟩

theorem fnOk18 : FnOk Try.prog 18 := ⟨by kernel_rfl⟩

theorem fnOk32 : FnOk Try.prog 32 := ⟨by kernel_rfl⟩

theorem fnOk30 : FnOk Try.prog 30 := ⟨by kernel_rfl⟩

theorem fnOk19 : FnOk Try.prog 19 := ⟨by kernel_rfl⟩

theorem fnOk20 : FnOk Try.prog 20 := ⟨by kernel_rfl⟩

noncomputable def exchangepointmill_Mod (a0 : Int) (a1 : Int) : Option (Int) :=
  chk (decide (a1 ≠ 0)) <|
  jn (fun m3 : Int =>
  some m3) (fun j4 =>
  (if (decide ((Int.tmod a0 a1) < (0 : Int))) = true then
  j4 (w64 ((Int.tmod a0 a1) + a1))
  else
  j4 (Int.tmod a0 a1)))
set_option maxHeartbeats 4000000 in
set_option maxRecDepth 100000 in
theorem exchangepointmill_Mod_ac (a0 : Int) (a1 : Int) (r : Int) (h : exchangepointmill_Mod a0 a1 = some r) : AC Try.prog 9 [(.d (.int .i64 a0)), (.d (.int .i64 a1))] [] (.d (.int .i64 r)) [] := by
  refine AC.of_code2 Try.func9 rfl rfl (Nat.le_of_ble_eq_true (by rfl)) fun B hB hN => ?_
  delta exchangepointmill_Mod at h
  refine AWp.seq ?_
  refine AWp.region (OpJs.cons (OpJ.assign (ltN hN rfl) (Opd.int .i64 (0)))
  (OpJs.nil)) (by rfl) (by rfl) ?_
  refine seqQ_n ?_
  refine AWp.ghost (Mat.pat [] [(0, (.d (.int .i64 a0))), (1, (.d (.int .i64 a1)))] [] hB (by rfl) (by rfl) (by rfl)) ?_
  refine AWp.seq ?_
  obtain ⟨hc1, h⟩ := chk_some h
  refine AWp.region (OpJs.cons (OpJ.move (ltN hN rfl) (Opd.tmp 0 (.d (.int .i64 a0))))
  (OpJs.cons (OpJ.move (ltN hN rfl) (Opd.tmp 1 (.d (.int .i64 a1))))
  (OpJs.cons (OpJ.rem (ltN hN rfl) (Opd.tmp 6 (.d (.int .i64 a0))) (Opd.tmp 7 (.d (.int .i64 a1))) (of_decide_eq_true hc1))
  (OpJs.cons (OpJ.assign (ltN hN rfl) (Opd.tmp 8 (.d (.int .i64 (Int.tmod a0 a1)))))
  (OpJs.nil))))) (by rfl) (by rfl) ?_
  refine seqQ_n ?_
  refine AWp.ghost (Mat.pat [] [(1, (.d (.int .i64 a1))), (5, (.d (.int .i64 (Int.tmod a0 a1))))] [] hB (by rfl) (by rfl) (by rfl)) ?_
  refine AWp.seq ?_
  refine AWp.seq ?_
  refine AWp.region (OpJs.cons (OpJ.move (ltN hN rfl) (Opd.tmp 5 (.d (.int .i64 (Int.tmod a0 a1)))))
  (OpJs.cons (OpJ.lss (ltN hN rfl) (Opd.tmp 9 (.d (.int .i64 (Int.tmod a0 a1)))) (Opd.int .i64 (0)))
  (OpJs.nil))) (by rfl) (by rfl) ?_
  refine seqQ_n ?_
  refine AWp.ghost (Mat.pat [] [(1, (.d (.int .i64 a1))), (5, (.d (.int .i64 (Int.tmod a0 a1)))), (10, (.d (.bool (decide ((Int.tmod a0 a1) < (0 : Int))))))] [] hB (by rfl) (by rfl) (by rfl)) ?_
  refine AWp.cut h (fun m3 : Int => ([(5, (.d (.int .i64 m3)))] : EL)) (fun m3 : Int => ([] : OL)) (fun m3 h E' O' hmat => ?_) (fun j4 hjj4 h => ?_)
  · refine seqQ_n ?_
    refine AWp.ghost hmat ?_
    refine AWp.seq ?_
    refine AWp.region (OpJs.cons (OpJ.move (ltN hN rfl) (Opd.tmp 5 (.d (.int .i64 m3))))
      (OpJs.cons (OpJ.assign (ltN hN rfl) (Opd.tmp 14 (.d (.int .i64 m3))))
      (OpJs.nil))) (by rfl) (by rfl) ?_
    refine seqQ_n ?_
    refine AWp.ghost (Mat.pat [] [(4, (.d (.int .i64 m3)))] [] hB (by rfl) (by rfl) (by rfl)) ?_
    refine AWp.ret ?_
    obtain rfl := Option.some.inj h
    exact ⟨.inl rfl, _, _, (Mat.pat [] [(4, (.d (.int .i64 m3)))] [] hB (by rfl) (by rfl) (by rfl)), [(.d (.int .i64 m3))], (Res.tmp (by rfl) (by rfl) Res.nil), rfl, by rfl, by rfl, by rfl⟩
  · refine AWp.cond (b := (decide ((Int.tmod a0 a1) < (0 : Int)))) (by rfl) (fun hg5 => ?_) (fun hg5 => ?_)
    · replace h := ite_t hg5 h
      refine AWp.region (OpJs.cons (OpJ.move (ltN hN rfl) (Opd.tmp 5 (.d (.int .i64 (Int.tmod a0 a1)))))
        (OpJs.cons (OpJ.move (ltN hN rfl) (Opd.tmp 1 (.d (.int .i64 a1))))
        (OpJs.cons (OpJ.add (ltN hN rfl) (Opd.tmp 11 (.d (.int .i64 (Int.tmod a0 a1)))) (Opd.tmp 12 (.d (.int .i64 a1))))
        (OpJs.cons (OpJ.assign (ltN hN rfl) (Opd.tmp 13 (.d (.int .i64 (w64 ((Int.tmod a0 a1) + a1))))))
        (OpJs.nil))))) (by rfl) (by rfl) ?_
      exact hjj4 _ h _ _ (Mat.trans (Mat.pat [] [(5, (.d (.int .i64 (w64 ((Int.tmod a0 a1) + a1)))))] [] hB (by rfl) (by rfl) (by rfl)) (Mat.pat [] ((fun m3 : Int => ([(5, (.d (.int .i64 m3)))] : EL)) (w64 ((Int.tmod a0 a1) + a1))) ((fun m3 : Int => ([] : OL)) (w64 ((Int.tmod a0 a1) + a1))) hB (by rfl) (by rfl) (by rfl)))
    · replace h := ite_f hg5 h
      refine AWp.skip ?_
      exact hjj4 _ h _ _ (Mat.pat [] ((fun m3 : Int => ([(5, (.d (.int .i64 m3)))] : EL)) (Int.tmod a0 a1)) ((fun m3 : Int => ([] : OL)) (Int.tmod a0 a1)) hB (by rfl) (by rfl) (by rfl))

noncomputable def interval_pascal_L1 (s1 : Int × (List (List Int))) (s106 : Int × (List (List Int))) : Option ((((List (List Int)))) ⊕ (Int × (List (List Int)))) :=
  (if (decide (s106.1 ≤ s1.1)) = true then
  chk (decide (0 ≤ (w64 (s1.1 - (1 : Int)))) && decide ((w64 (s1.1 - (1 : Int))) < 61)) <|
  chk (decide (0 ≤ (w64 (s106.1 - (1 : Int)))) && decide ((w64 (s106.1 - (1 : Int))) < 61)) <|
  (idx s106.2 (w64 (s1.1 - (1 : Int)))).bind fun x137 =>
  (idx x137 (w64 (s106.1 - (1 : Int)))).bind fun x138 =>
  chk (decide (0 ≤ (w64 (s1.1 - (1 : Int)))) && decide ((w64 (s1.1 - (1 : Int))) < 61)) <|
  chk (decide (0 ≤ s106.1) && decide (s106.1 < 61)) <|
  (idx s106.2 (w64 (s1.1 - (1 : Int)))).bind fun x141 =>
  (idx x141 s106.1).bind fun x142 =>
  chk (decide (0 ≤ s1.1) && decide (s1.1 < 61)) <|
  chk (decide (0 ≤ s106.1) && decide (s106.1 < 61)) <|
  (idx s106.2 s1.1).bind fun x145 =>
  (idx x145 s106.1).bind fun x146 =>
  some (.inr ((w64 (s106.1 + (1 : Int))), (s106.2.set s1.1.toNat (x145.set s106.1.toNat (w64 (x138 + x142))))))
  else
  some (.inl s106.2))
noncomputable def interval_pascal_L0 (s1 : Int × (List (List Int))) : Option ((((List (List Int)))) ⊕ (Int × (List (List Int)))) :=
  (if (decide (s1.1 < (61 : Int))) = true then
  chk (decide (0 ≤ s1.1) && decide (s1.1 < 61)) <|
  chk (decide (0 ≤ (0 : Int)) && decide ((0 : Int) < 61)) <|
  (idx s1.2 s1.1).bind fun x104 =>
  (idx x104 (0 : Int)).bind fun x105 =>
  (loop (interval_pascal_L1 s1) ((1 : Int), (s1.2.set s1.1.toNat (x104.set 0 (1 : Int))))).bind fun p133 =>
  some (.inr ((w64 (s1.1 + (1 : Int))), p133))
  else
  some (.inl s1.2))
noncomputable def interval_pascal : Option ((List (List Int))) :=
  (loop (interval_pascal_L0) ((0 : Int), (List.replicate 61 (List.replicate 61 (0 : Int))))).bind fun p100 =>
  some p100
set_option maxHeartbeats 4000000 in
set_option maxRecDepth 100000 in
theorem interval_pascal_ac (r : (List (List Int))) (h : interval_pascal = some r) : AC Try.prog 21 [] [] (.ptr 1001 0 []) [(1001, some (.box 42 (.d (.arr 61 61 (r.map e_A61eIi64)))))] := by
  refine AC.of_code2 Try.func21 rfl rfl (Nat.le_of_ble_eq_true (by rfl)) fun B hB hN => ?_
  delta interval_pascal at h
  refine AWp.seq ?_
  refine AWp.region (OpJs.cons (OpJ.assign (v := .junk) (ltN hN rfl) (Opd.junk _))
  (OpJs.nil)) (by rfl) (by rfl) ?_
  refine seqQ_n ?_
  refine AWp.ghost (Mat.pat [] [] [] hB (by rfl) (by rfl) (by rfl)) ?_
  refine AWp.seq ?_
  refine AWp.region (OpJs.cons (OpJ.alloc hB tyZ42 (nm := 1001) (by decide) (ltN hN rfl))
  (OpJs.nil)) (by rfl) (by rfl) ?_
  refine seqQ_n ?_
  refine AWp.ghost (Mat.pat [] [(1, (.ptr 1001 0 []))] [(1001, some (.box 42 (.d (.arr 61 61 ((List.replicate 61 (List.replicate 61 (0 : Int))).map e_A61eIi64)))))] hB (by rfl) (by rfl) (by rfl)) ?_
  refine AWp.seq ?_
  refine AWp.seq ?_
  refine AWp.region (OpJs.cons (OpJ.move (ltN hN rfl) (Opd.int .i64 (0)))
  (OpJs.nil)) (by rfl) (by rfl) ?_
  refine seqQ_n ?_
  refine AWp.ghost (Mat.pat [] [(1, (.ptr 1001 0 [])), (4, (.d (.int .i64 (0 : Int))))] [(1001, some (.box 42 (.d (.arr 61 61 ((List.replicate 61 (List.replicate 61 (0 : Int))).map e_A61eIi64)))))] hB (by rfl) (by rfl) (by rfl)) ?_
  refine AWp.block ?_
  obtain ⟨p100, hx150, h⟩ := bindS h
  refine AWp.ghost (Mat.pat [] ((fun s1 : Int × (List (List Int)) => ([(1, (.ptr 1001 0 [])), (4, (.d (.int .i64 s1.1)))] : EL)) ((0 : Int), (List.replicate 61 (List.replicate 61 (0 : Int))))) ((fun s1 : Int × (List (List Int)) => ([(1001, some (.box 42 (.d (.arr 61 61 (s1.2.map e_A61eIi64)))))] : OL)) ((0 : Int), (List.replicate 61 (List.replicate 61 (0 : Int))))) hB (by rfl) (by rfl) (by rfl)) ?_
  refine AWp.loopS (interval_pascal_L0) (fun s1 : Int × (List (List Int)) => ([(1, (.ptr 1001 0 [])), (4, (.d (.int .i64 s1.1)))] : EL)) (fun s1 : Int × (List (List Int)) => ([(1001, some (.box 42 (.d (.arr 61 61 (s1.2.map e_A61eIi64)))))] : OL)) (fun (p100 : ((List (List Int)))) e E' O' => e = .exit 0 ∧ Mat B E' O' ([(1, (.ptr 1001 0 []))] : EL) ([(1001, some (.box 42 (.d (.arr 61 61 (p100.map e_A61eIi64)))))] : OL)) hx150 (fun s1 y h => ?_) (fun e E' O' hR => ?_)
  · unfold interval_pascal_L0 at h
    show AWp _ _ _ _ ([(1, (.ptr 1001 0 [])), (4, (.d (.int .i64 s1.1)))] : EL) ([(1001, some (.box 42 (.d (.arr 61 61 (s1.2.map e_A61eIi64)))))] : OL)
    refine AWp.seq ?_
    refine AWp.region (OpJs.cons (OpJ.lss (ltN hN rfl) (Opd.tmp 4 (.d (.int .i64 s1.1))) (Opd.int .i64 (61)))
      (OpJs.nil)) (by rfl) (by rfl) ?_
    refine seqQ_n ?_
    refine AWp.ghost (Mat.pat [] [(1, (.ptr 1001 0 [])), (4, (.d (.int .i64 s1.1))), (5, (.d (.bool (decide (s1.1 < (61 : Int))))))] [(1001, some (.box 42 (.d (.arr 61 61 (s1.2.map e_A61eIi64)))))] hB (by rfl) (by rfl) (by rfl)) ?_
    refine AWp.seq ?_
    refine AWp.cond (b := (decide (s1.1 < (61 : Int)))) (by rfl) (fun hg101 => ?_) (fun hg101 => ?_)
    · replace h := ite_t hg101 h
      refine AWp.skip ?_
      refine seqQ_n ?_
      refine AWp.seq ?_
      refine AWp.block ?_
      refine AWp.seq ?_
      refine AWp.region (OpJs.cons (OpJ.move (ltN hN rfl) (Opd.tmp 4 (.d (.int .i64 s1.1))))
        (OpJs.cons (OpJ.assign (ltN hN rfl) (Opd.tmp 6 (.d (.int .i64 s1.1))))
        (OpJs.nil))) (by rfl) (by rfl) ?_
      refine seqQ_n ?_
      refine AWp.ghost (Mat.pat [] [(1, (.ptr 1001 0 [])), (2, (.d (.int .i64 s1.1))), (4, (.d (.int .i64 s1.1)))] [(1001, some (.box 42 (.d (.arr 61 61 (s1.2.map e_A61eIi64)))))] hB (by rfl) (by rfl) (by rfl)) ?_
      refine AWp.seq ?_
      obtain ⟨hc102, h⟩ := chk_some h
      obtain ⟨hc103, h⟩ := chk_some h
      obtain ⟨x104, hx104, h⟩ := bindS h
      obtain ⟨x105, hx105, h⟩ := bindS h
      refine AWp.region (OpJs.cons (OpJ.move (ltN hN rfl) (Opd.tmp 2 (.d (.int .i64 s1.1))))
        (OpJs.cons (OpJ.val (v' := (.ptr 1001 (0 + s1.1.toNat * 61) [s1.1.toNat])) (by rfl) (OpJ.indexPA Try.underlying42 tyS40 (obj := (.box 42 (.d (.arr 61 61 (s1.2.map e_A61eIi64))))) (and_l hc102) (and_r hc102) (ltN hN rfl) (Opd.tmp 1 (.ptr 1001 0 [])) (Opd.tmp 7 (.d (.int .i64 s1.1)))))
        (OpJs.cons (OpJ.val (v' := (.ptr 1001 ((0 + s1.1.toNat * 61) + 0 * 1) [s1.1.toNat, 0])) (by rfl) (OpJ.indexPA Try.underlying40 tyS3 (obj := (.box 42 (.d (.arr 61 61 (s1.2.map e_A61eIi64))))) (and_l hc103) (and_r hc103) (ltN hN rfl) (Opd.tmp 8 (.ptr 1001 (0 + s1.1.toNat * 61) [s1.1.toNat])) (Opd.int .i64 (0))))
        (OpJs.cons (OpJ.storeB (bt := 42) (c := (.d (.arr 61 61 (s1.2.map e_A61eIi64)))) (v := (.d (.int .i64 (1 : Int)))) (c' := (.d (.arr 61 61 ((s1.2.set s1.1.toNat (x104.set 0 (1 : Int))).map e_A61eIi64)))) tyS3 (SetAt.arrM e_A61eIi64 (idx_some hx104).2 (SetAt.arrM (eI .i64) (idx_some hx105).2 (SetAt.here _ _) (by rfl) (by first | rfl | omega)) (by rfl) (by first | rfl | omega)) (by rfl) (by rfl) (by simp) rfl (Opd.tmp 9 (.ptr 1001 ((0 + s1.1.toNat * 61) + 0 * 1) [s1.1.toNat, 0])) (Opd.int .i64 (1)))
        (OpJs.nil))))) (by rfl) (by rfl) ?_
      refine seqQ_n ?_
      refine AWp.ghost (Mat.pat [] [(1, (.ptr 1001 0 [])), (2, (.d (.int .i64 s1.1))), (4, (.d (.int .i64 s1.1)))] [(1001, some (.box 42 (.d (.arr 61 61 ((s1.2.set s1.1.toNat (x104.set 0 (1 : Int))).map e_A61eIi64)))))] hB (by rfl) (by rfl) (by rfl)) ?_
      refine AWp.seq ?_
      refine AWp.region (OpJs.cons (OpJ.assign (ltN hN rfl) (Opd.int .i64 (1)))
        (OpJs.nil)) (by rfl) (by rfl) ?_
      refine seqQ_n ?_
      refine AWp.ghost (Mat.pat [] [(1, (.ptr 1001 0 [])), (2, (.d (.int .i64 s1.1))), (3, (.d (.int .i64 (1 : Int)))), (4, (.d (.int .i64 s1.1)))] [(1001, some (.box 42 (.d (.arr 61 61 ((s1.2.set s1.1.toNat (x104.set 0 (1 : Int))).map e_A61eIi64)))))] hB (by rfl) (by rfl) (by rfl)) ?_
      refine AWp.block ?_
      obtain ⟨p133, hx148, h⟩ := bindS h
      refine AWp.ghost (Mat.pat [] ((fun s106 : Int × (List (List Int)) => ([(1, (.ptr 1001 0 [])), (2, (.d (.int .i64 s1.1))), (3, (.d (.int .i64 s106.1))), (4, (.d (.int .i64 s1.1)))] : EL)) ((1 : Int), (s1.2.set s1.1.toNat (x104.set 0 (1 : Int))))) ((fun s106 : Int × (List (List Int)) => ([(1001, some (.box 42 (.d (.arr 61 61 (s106.2.map e_A61eIi64)))))] : OL)) ((1 : Int), (s1.2.set s1.1.toNat (x104.set 0 (1 : Int))))) hB (by rfl) (by rfl) (by rfl)) ?_
      refine AWp.loopS (interval_pascal_L1 s1) (fun s106 : Int × (List (List Int)) => ([(1, (.ptr 1001 0 [])), (2, (.d (.int .i64 s1.1))), (3, (.d (.int .i64 s106.1))), (4, (.d (.int .i64 s1.1)))] : EL)) (fun s106 : Int × (List (List Int)) => ([(1001, some (.box 42 (.d (.arr 61 61 (s106.2.map e_A61eIi64)))))] : OL)) (fun (p133 : ((List (List Int)))) e E' O' => e = .exit 2 ∧ Mat B E' O' ([(1, (.ptr 1001 0 [])), (4, (.d (.int .i64 s1.1)))] : EL) ([(1001, some (.box 42 (.d (.arr 61 61 (p133.map e_A61eIi64)))))] : OL)) hx148 (fun s106 y h => ?_) (fun e E' O' hR => ?_)
      · unfold interval_pascal_L1 at h
        show AWp _ _ _ _ ([(1, (.ptr 1001 0 [])), (2, (.d (.int .i64 s1.1))), (3, (.d (.int .i64 s106.1))), (4, (.d (.int .i64 s1.1)))] : EL) ([(1001, some (.box 42 (.d (.arr 61 61 (s106.2.map e_A61eIi64)))))] : OL)
        refine AWp.seq ?_
        refine AWp.seq ?_
        refine AWp.region (OpJs.cons (OpJ.move (ltN hN rfl) (Opd.tmp 3 (.d (.int .i64 s106.1))))
          (OpJs.cons (OpJ.move (ltN hN rfl) (Opd.tmp 2 (.d (.int .i64 s1.1))))
          (OpJs.cons (OpJ.leq (ltN hN rfl) (Opd.tmp 10 (.d (.int .i64 s106.1))) (Opd.tmp 11 (.d (.int .i64 s1.1))))
          (OpJs.nil)))) (by rfl) (by rfl) ?_
        refine seqQ_n ?_
        refine AWp.ghost (Mat.pat [] [(1, (.ptr 1001 0 [])), (2, (.d (.int .i64 s1.1))), (3, (.d (.int .i64 s106.1))), (4, (.d (.int .i64 s1.1))), (12, (.d (.bool (decide (s106.1 ≤ s1.1)))))] [(1001, some (.box 42 (.d (.arr 61 61 (s106.2.map e_A61eIi64)))))] hB (by rfl) (by rfl) (by rfl)) ?_
        refine AWp.cond (b := (decide (s106.1 ≤ s1.1))) (by rfl) (fun hg134 => ?_) (fun hg134 => ?_)
        · replace h := ite_t hg134 h
          refine AWp.skip ?_
          refine seqQ_n ?_
          refine AWp.seq ?_
          refine AWp.block ?_
          obtain ⟨hc135, h⟩ := chk_some h
          obtain ⟨hc136, h⟩ := chk_some h
          obtain ⟨x137, hx137, h⟩ := bindS h
          obtain ⟨x138, hx138, h⟩ := bindS h
          obtain ⟨hc139, h⟩ := chk_some h
          obtain ⟨hc140, h⟩ := chk_some h
          obtain ⟨x141, hx141, h⟩ := bindS h
          obtain ⟨x142, hx142, h⟩ := bindS h
          obtain ⟨hc143, h⟩ := chk_some h
          obtain ⟨hc144, h⟩ := chk_some h
          obtain ⟨x145, hx145, h⟩ := bindS h
          obtain ⟨x146, hx146, h⟩ := bindS h
          refine AWp.draws (by kernel_rfl) (OpJs.cons (OpJ.move (ltN hN rfl) (Opd.tmp 2 (.d (.int .i64 s1.1))))
            (OpJs.cons (OpJ.move (ltN hN rfl) (Opd.tmp 3 (.d (.int .i64 s106.1))))
            (OpJs.cons (OpJ.move (ltN hN rfl) (Opd.tmp 2 (.d (.int .i64 s1.1))))
            (OpJs.cons (OpJ.sub (ltN hN rfl) (Opd.tmp 17 (.d (.int .i64 s1.1))) (Opd.int .i64 (1)))
            (OpJs.cons (OpJ.move (ltN hN rfl) (Opd.tmp 3 (.d (.int .i64 s106.1))))
            (OpJs.cons (OpJ.sub (ltN hN rfl) (Opd.tmp 19 (.d (.int .i64 s106.1))) (Opd.int .i64 (1)))
            (OpJs.cons (OpJ.val (v' := (.ptr 1001 (0 + (w64 (s1.1 - (1 : Int))).toNat * 61) [(w64 (s1.1 - (1 : Int))).toNat])) (by rfl) (OpJ.indexPA Try.underlying42 tyS40 (obj := (.box 42 (.d (.arr 61 61 (s106.2.map e_A61eIi64))))) (and_l hc135) (and_r hc135) (ltN hN rfl) (Opd.tmp 1 (.ptr 1001 0 [])) (Opd.tmp 18 (.d (.int .i64 (w64 (s1.1 - (1 : Int))))))))
            (OpJs.cons (OpJ.val (v' := (.ptr 1001 ((0 + (w64 (s1.1 - (1 : Int))).toNat * 61) + (w64 (s106.1 - (1 : Int))).toNat * 1) [(w64 (s1.1 - (1 : Int))).toNat, (w64 (s106.1 - (1 : Int))).toNat])) (by rfl) (OpJ.indexPA Try.underlying40 tyS3 (obj := (.box 42 (.d (.arr 61 61 (s106.2.map e_A61eIi64))))) (and_l hc136) (and_r hc136) (ltN hN rfl) (Opd.tmp 21 (.ptr 1001 (0 + (w64 (s1.1 - (1 : Int))).toNat * 61) [(w64 (s1.1 - (1 : Int))).toNat])) (Opd.tmp 20 (.d (.int .i64 (w64 (s106.1 - (1 : Int))))))))
            (OpJs.cons (OpJ.loadB (bt := 42) (c := (.d (.arr 61 61 (s106.2.map e_A61eIi64)))) (v := (.d (.int .i64 x138))) tyS3 (At.arr1 e_A61eIi64 (idx_some hx137).2 (At.arr1 (eI .i64) (idx_some hx138).2 (At.here _) (by first | rfl | omega)) (by first | rfl | omega)) (by rfl) (by rfl) rfl (ltN hN rfl) (Opd.tmp 22 (.ptr 1001 ((0 + (w64 (s1.1 - (1 : Int))).toNat * 61) + (w64 (s106.1 - (1 : Int))).toNat * 1) [(w64 (s1.1 - (1 : Int))).toNat, (w64 (s106.1 - (1 : Int))).toNat])))
            (OpJs.cons (OpJ.move (ltN hN rfl) (Opd.tmp 2 (.d (.int .i64 s1.1))))
            (OpJs.cons (OpJ.sub (ltN hN rfl) (Opd.tmp 24 (.d (.int .i64 s1.1))) (Opd.int .i64 (1)))
            (OpJs.cons (OpJ.move (ltN hN rfl) (Opd.tmp 3 (.d (.int .i64 s106.1))))
            (OpJs.cons (OpJ.val (v' := (.ptr 1001 (0 + (w64 (s1.1 - (1 : Int))).toNat * 61) [(w64 (s1.1 - (1 : Int))).toNat])) (by rfl) (OpJ.indexPA Try.underlying42 tyS40 (obj := (.box 42 (.d (.arr 61 61 (s106.2.map e_A61eIi64))))) (and_l hc139) (and_r hc139) (ltN hN rfl) (Opd.tmp 1 (.ptr 1001 0 [])) (Opd.tmp 25 (.d (.int .i64 (w64 (s1.1 - (1 : Int))))))))
            (OpJs.cons (OpJ.val (v' := (.ptr 1001 ((0 + (w64 (s1.1 - (1 : Int))).toNat * 61) + s106.1.toNat * 1) [(w64 (s1.1 - (1 : Int))).toNat, s106.1.toNat])) (by rfl) (OpJ.indexPA Try.underlying40 tyS3 (obj := (.box 42 (.d (.arr 61 61 (s106.2.map e_A61eIi64))))) (and_l hc140) (and_r hc140) (ltN hN rfl) (Opd.tmp 27 (.ptr 1001 (0 + (w64 (s1.1 - (1 : Int))).toNat * 61) [(w64 (s1.1 - (1 : Int))).toNat])) (Opd.tmp 26 (.d (.int .i64 s106.1)))))
            (OpJs.cons (OpJ.loadB (bt := 42) (c := (.d (.arr 61 61 (s106.2.map e_A61eIi64)))) (v := (.d (.int .i64 x142))) tyS3 (At.arr1 e_A61eIi64 (idx_some hx141).2 (At.arr1 (eI .i64) (idx_some hx142).2 (At.here _) (by first | rfl | omega)) (by first | rfl | omega)) (by rfl) (by rfl) rfl (ltN hN rfl) (Opd.tmp 28 (.ptr 1001 ((0 + (w64 (s1.1 - (1 : Int))).toNat * 61) + s106.1.toNat * 1) [(w64 (s1.1 - (1 : Int))).toNat, s106.1.toNat])))
            (OpJs.cons (OpJ.add (ltN hN rfl) (Opd.tmp 23 (.d (.int .i64 x138))) (Opd.tmp 29 (.d (.int .i64 x142))))
            (OpJs.cons (OpJ.val (v' := (.ptr 1001 (0 + s1.1.toNat * 61) [s1.1.toNat])) (by rfl) (OpJ.indexPA Try.underlying42 tyS40 (obj := (.box 42 (.d (.arr 61 61 (s106.2.map e_A61eIi64))))) (and_l hc143) (and_r hc143) (ltN hN rfl) (Opd.tmp 1 (.ptr 1001 0 [])) (Opd.tmp 15 (.d (.int .i64 s1.1)))))
            (OpJs.cons (OpJ.val (v' := (.ptr 1001 ((0 + s1.1.toNat * 61) + s106.1.toNat * 1) [s1.1.toNat, s106.1.toNat])) (by rfl) (OpJ.indexPA Try.underlying40 tyS3 (obj := (.box 42 (.d (.arr 61 61 (s106.2.map e_A61eIi64))))) (and_l hc144) (and_r hc144) (ltN hN rfl) (Opd.tmp 31 (.ptr 1001 (0 + s1.1.toNat * 61) [s1.1.toNat])) (Opd.tmp 16 (.d (.int .i64 s106.1)))))
            (OpJs.cons (OpJ.storeB (bt := 42) (c := (.d (.arr 61 61 (s106.2.map e_A61eIi64)))) (v := (.d (.int .i64 (w64 (x138 + x142))))) (c' := (.d (.arr 61 61 ((s106.2.set s1.1.toNat (x145.set s106.1.toNat (w64 (x138 + x142)))).map e_A61eIi64)))) tyS3 (SetAt.arrM e_A61eIi64 (idx_some hx145).2 (SetAt.arrM (eI .i64) (idx_some hx146).2 (SetAt.here _ _) (by rfl) (by first | rfl | omega)) (by rfl) (by first | rfl | omega)) (by rfl) (by rfl) (by simp) rfl (Opd.tmp 32 (.ptr 1001 ((0 + s1.1.toNat * 61) + s106.1.toNat * 1) [s1.1.toNat, s106.1.toNat])) (Opd.tmp 30 (.d (.int .i64 (w64 (x138 + x142))))))
            (OpJs.nil)))))))))))))))))))) (by kernel_rfl) (by rfl) (by rfl) ?_
          refine blkQ_n ?_
          refine seqQ_n ?_
          refine AWp.ghost (Mat.pat [] [(1, (.ptr 1001 0 [])), (2, (.d (.int .i64 s1.1))), (3, (.d (.int .i64 s106.1))), (4, (.d (.int .i64 s1.1)))] [(1001, some (.box 42 (.d (.arr 61 61 ((s106.2.set s1.1.toNat (x145.set s106.1.toNat (w64 (x138 + x142)))).map e_A61eIi64)))))] hB (by rfl) (by rfl) (by rfl)) ?_
          refine AWp.region (OpJs.cons (OpJ.move (ltN hN rfl) (Opd.tmp 3 (.d (.int .i64 s106.1))))
            (OpJs.cons (OpJ.add (ltN hN rfl) (Opd.tmp 13 (.d (.int .i64 s106.1))) (Opd.int .i64 (1)))
            (OpJs.cons (OpJ.assign (ltN hN rfl) (Opd.tmp 14 (.d (.int .i64 (w64 (s106.1 + (1 : Int)))))))
            (OpJs.nil)))) (by rfl) (by rfl) ?_
          obtain rfl := Option.some.inj h
          exact ⟨rfl, (Mat.trans (Mat.pat [] [(1, (.ptr 1001 0 [])), (2, (.d (.int .i64 s1.1))), (3, (.d (.int .i64 (w64 (s106.1 + (1 : Int)))))), (4, (.d (.int .i64 s1.1)))] [(1001, some (.box 42 (.d (.arr 61 61 ((s106.2.set s1.1.toNat (x145.set s106.1.toNat (w64 (x138 + x142)))).map e_A61eIi64)))))] hB (by rfl) (by rfl) (by rfl)) (Mat.pat [] ((fun s106 : Int × (List (List Int)) => ([(1, (.ptr 1001 0 [])), (2, (.d (.int .i64 s1.1))), (3, (.d (.int .i64 s106.1))), (4, (.d (.int .i64 s1.1)))] : EL)) ((w64 (s106.1 + (1 : Int))), (s106.2.set s1.1.toNat (x145.set s106.1.toNat (w64 (x138 + x142)))))) ((fun s106 : Int × (List (List Int)) => ([(1001, some (.box 42 (.d (.arr 61 61 (s106.2.map e_A61eIi64)))))] : OL)) ((w64 (s106.1 + (1 : Int))), (s106.2.set s1.1.toNat (x145.set s106.1.toNat (w64 (x138 + x142)))))) hB (by rfl) (by rfl) (by rfl)))⟩
        · replace h := ite_f hg134 h
          refine AWp.exit ?_
          refine seqQ_e ?_
          obtain rfl := Option.some.inj h
          exact ⟨(fun hc => by cases hc), rfl, (Mat.pat [] ((fun p133 : (List (List Int)) => ([(1, (.ptr 1001 0 [])), (4, (.d (.int .i64 s1.1)))] : EL)) s106.2) ((fun p133 : (List (List Int)) => ([(1001, some (.box 42 (.d (.arr 61 61 (p133.map e_A61eIi64)))))] : OL)) s106.2) hB (by rfl) (by rfl) (by rfl))⟩
      · obtain ⟨rfl, hmat⟩ := hR
        refine blkQ_hit ?_
        refine blkQ_n ?_
        refine seqQ_n ?_
        refine AWp.ghost hmat ?_
        refine AWp.region (OpJs.cons (OpJ.add (ltN hN rfl) (Opd.tmp 4 (.d (.int .i64 s1.1))) (Opd.int .i64 (1)))
          (OpJs.cons (OpJ.move (ltN hN rfl) (Opd.tmp 33 (.d (.int .i64 (w64 (s1.1 + (1 : Int)))))))
          (OpJs.nil))) (by rfl) (by rfl) ?_
        obtain rfl := Option.some.inj h
        exact ⟨rfl, (Mat.trans (Mat.pat [] [(1, (.ptr 1001 0 [])), (4, (.d (.int .i64 (w64 (s1.1 + (1 : Int))))))] [(1001, some (.box 42 (.d (.arr 61 61 (p133.map e_A61eIi64)))))] hB (by rfl) (by rfl) (by rfl)) (Mat.pat [] ((fun s1 : Int × (List (List Int)) => ([(1, (.ptr 1001 0 [])), (4, (.d (.int .i64 s1.1)))] : EL)) ((w64 (s1.1 + (1 : Int))), p133)) ((fun s1 : Int × (List (List Int)) => ([(1001, some (.box 42 (.d (.arr 61 61 (s1.2.map e_A61eIi64)))))] : OL)) ((w64 (s1.1 + (1 : Int))), p133)) hB (by rfl) (by rfl) (by rfl)))⟩
    · replace h := ite_f hg101 h
      refine AWp.exit ?_
      refine seqQ_e ?_
      obtain rfl := Option.some.inj h
      exact ⟨(fun hc => by cases hc), rfl, (Mat.pat [] ((fun p100 : (List (List Int)) => ([(1, (.ptr 1001 0 []))] : EL)) s1.2) ((fun p100 : (List (List Int)) => ([(1001, some (.box 42 (.d (.arr 61 61 (p100.map e_A61eIi64)))))] : OL)) s1.2) hB (by rfl) (by rfl) (by rfl))⟩
  · obtain ⟨rfl, hmat⟩ := hR
    refine blkQ_hit ?_
    refine seqQ_n ?_
    refine AWp.ghost hmat ?_
    refine AWp.seq ?_
    refine AWp.region (OpJs.cons (OpJ.assign (ltN hN rfl) (Opd.tmp 1 (.ptr 1001 0 [])))
      (OpJs.nil)) (by rfl) (by rfl) ?_
    refine seqQ_n ?_
    refine AWp.ghost (Mat.pat [] [(0, (.ptr 1001 0 []))] [(1001, some (.box 42 (.d (.arr 61 61 (p100.map e_A61eIi64)))))] hB (by rfl) (by rfl) (by rfl)) ?_
    refine AWp.ret ?_
    obtain rfl := Option.some.inj h
    exact ⟨.inl rfl, _, _, (Mat.pat [] [(0, (.ptr 1001 0 []))] [(1001, some (.box 42 (.d (.arr 61 61 (p100.map e_A61eIi64)))))] hB (by rfl) (by rfl) (by rfl)), [(.ptr 1001 0 [])], (Res.tmp (by rfl) (by rfl) Res.nil), rfl, by rfl, by rfl, by rfl⟩

noncomputable def interval_triangle_choose (a0 : (List (List Int))) (a1 : Int) (a2 : Int) : Option (Int × (List (List Int))) :=
  (if (((decide (a1 < (0 : Int))) || (decide (a2 < (0 : Int)))) || (decide (a1 < a2))) = true then
  some ((0 : Int), a0)
  else
  chk (decide (0 ≤ a1) && decide (a1 < 61)) <|
  chk (decide (0 ≤ a2) && decide (a2 < 61)) <|
  (idx a0 a1).bind fun x4 =>
  (idx x4 a2).bind fun x5 =>
  some (x5, a0))
set_option maxHeartbeats 4000000 in
set_option maxRecDepth 100000 in
theorem interval_triangle_choose_ac (a0 : (List (List Int))) (a1 : Int) (a2 : Int) (r : Int × (List (List Int))) (h : interval_triangle_choose a0 a1 a2 = some r) : AC Try.prog 22 [(.ptr 0 0 []), (.d (.int .i64 a1)), (.d (.int .i64 a2))] [(0, (.box 42 (.d (.arr 61 61 (a0.map e_A61eIi64)))))] (.d (.int .i64 r.1)) [(0, some (.box 42 (.d (.arr 61 61 (r.2.map e_A61eIi64)))))] := by
  refine AC.of_code2 Try.func22 rfl rfl (Nat.le_of_ble_eq_true (by rfl)) fun B hB hN => ?_
  delta interval_triangle_choose at h
  refine AWp.seq ?_
  refine AWp.region (OpJs.cons (OpJ.assign (ltN hN rfl) (Opd.int .i64 (0)))
  (OpJs.nil)) (by rfl) (by rfl) ?_
  refine seqQ_n ?_
  refine AWp.ghost (Mat.pat [] [(0, (.ptr 0 0 [])), (1, (.d (.int .i64 a1))), (2, (.d (.int .i64 a2)))] [(0, some (.box 42 (.d (.arr 61 61 (a0.map e_A61eIi64)))))] hB (by rfl) (by rfl) (by rfl)) ?_
  refine AWp.seq ?_
  refine AWp.seq ?_
  refine AWp.region (OpJs.cons (OpJ.move (ltN hN rfl) (Opd.tmp 1 (.d (.int .i64 a1))))
  (OpJs.cons (OpJ.lss (ltN hN rfl) (Opd.tmp 7 (.d (.int .i64 a1))) (Opd.int .i64 (0)))
  (OpJs.cons (OpJ.move (ltN hN rfl) (Opd.tmp 8 (.d (.bool (decide (a1 < (0 : Int)))))))
  (OpJs.cons (OpJ.opt' (v := (.d (.int .i64 a2))) (OpJ.move (ltN hN rfl) (Opd.tmp 2 (.d (.int .i64 a2)))) (by rfl) (GuardV.plain _) (ltN hN rfl) (by rfl) (by rfl) (by rfl) (by rfl) (OptL.keep rfl OptL.nil))
  (OpJs.cons (OpJ.opt' (v := (.d (.bool (decide (a2 < (0 : Int)))))) (OpJ.lss (ltN hN rfl) (Opd.tmp 10 (.d (.int .i64 a2))) (Opd.int .i64 (0))) (by rfl) (GuardV.plain _) (ltN hN rfl) (by rfl) (by rfl) (by rfl) (by rfl) (OptL.opt OptL.nil))
  (OpJs.cons (OpJ.pickOr rfl (ltN hN rfl) (Opd.tmp 9 (.d (.bool (decide (a1 < (0 : Int)))))) (Opd.tmp 11 (.opt ((decide (a1 < (0 : Int))) == false) (.d (.bool (decide (a2 < (0 : Int))))))))
  (OpJs.cons (OpJ.move (ltN hN rfl) (Opd.tmp 12 (.d (.bool ((decide (a1 < (0 : Int))) || (decide (a2 < (0 : Int))))))))
  (OpJs.cons (OpJ.opt' (v := (.d (.int .i64 a2))) (OpJ.move (ltN hN rfl) (Opd.tmp 2 (.d (.int .i64 a2)))) (by rfl) (GuardV.plain _) (ltN hN rfl) (by rfl) (by rfl) (by rfl) (by rfl) (OptL.keep rfl OptL.nil))
  (OpJs.cons (OpJ.opt' (v := (.d (.int .i64 a1))) (OpJ.move (ltN hN rfl) (Opd.tmp 1 (.d (.int .i64 a1)))) (by rfl) (GuardV.plain _) (ltN hN rfl) (by rfl) (by rfl) (by rfl) (by rfl) (OptL.keep rfl OptL.nil))
  (OpJs.cons (OpJ.opt' (v := (.d (.bool (decide (a1 < a2))))) (OpJ.gtr (ltN hN rfl) (Opd.tmp 14 (.d (.int .i64 a2))) (Opd.tmp 15 (.d (.int .i64 a1)))) (by rfl) (GuardV.plain _) (ltN hN rfl) (by rfl) (by rfl) (by rfl) (by rfl) (OptL.opt (OptL.opt OptL.nil)))
  (OpJs.cons (OpJ.pickOr rfl (ltN hN rfl) (Opd.tmp 13 (.d (.bool ((decide (a1 < (0 : Int))) || (decide (a2 < (0 : Int))))))) (Opd.tmp 16 (.opt (((decide (a1 < (0 : Int))) || (decide (a2 < (0 : Int)))) == false) (.d (.bool (decide (a1 < a2)))))))
  (OpJs.nil)))))))))))) (by rfl) (by rfl) ?_
  refine seqQ_n ?_
  refine AWp.ghost (Mat.pat [] [(0, (.ptr 0 0 [])), (1, (.d (.int .i64 a1))), (2, (.d (.int .i64 a2))), (17, (.d (.bool (((decide (a1 < (0 : Int))) || (decide (a2 < (0 : Int)))) || (decide (a1 < a2))))))] [(0, some (.box 42 (.d (.arr 61 61 (a0.map e_A61eIi64)))))] hB (by rfl) (by rfl) (by rfl)) ?_
  refine AWp.cond (b := (((decide (a1 < (0 : Int))) || (decide (a2 < (0 : Int)))) || (decide (a1 < a2)))) (by rfl) (fun hg1 => ?_) (fun hg1 => ?_)
  · replace h := ite_t hg1 h
    refine AWp.seq ?_
    refine AWp.region (OpJs.cons (OpJ.assign (ltN hN rfl) (Opd.int .i64 (0)))
      (OpJs.nil)) (by rfl) (by rfl) ?_
    refine seqQ_n ?_
    refine AWp.ghost (Mat.pat [] [(6, (.d (.int .i64 (0 : Int))))] [(0, some (.box 42 (.d (.arr 61 61 (a0.map e_A61eIi64)))))] hB (by rfl) (by rfl) (by rfl)) ?_
    refine AWp.ret ?_
    refine seqQ_r ?_
    obtain rfl := Option.some.inj h
    exact ⟨.inl rfl, _, _, (Mat.pat [] [(6, (.d (.int .i64 (0 : Int))))] [(0, some (.box 42 (.d (.arr 61 61 (a0.map e_A61eIi64)))))] hB (by rfl) (by rfl) (by rfl)), [(.d (.int .i64 (0 : Int)))], (Res.tmp (by rfl) (by rfl) Res.nil), rfl, by rfl, by rfl, by rfl⟩
  · replace h := ite_f hg1 h
    refine AWp.skip ?_
    refine seqQ_n ?_
    refine AWp.seq ?_
    obtain ⟨hc2, h⟩ := chk_some h
    obtain ⟨hc3, h⟩ := chk_some h
    obtain ⟨x4, hx4, h⟩ := bindS h
    obtain ⟨x5, hx5, h⟩ := bindS h
    refine AWp.region (OpJs.cons (OpJ.move (ltN hN rfl) (Opd.tmp 0 (.ptr 0 0 [])))
      (OpJs.cons (OpJ.move (ltN hN rfl) (Opd.tmp 1 (.d (.int .i64 a1))))
      (OpJs.cons (OpJ.move (ltN hN rfl) (Opd.tmp 2 (.d (.int .i64 a2))))
      (OpJs.cons (OpJ.nilP (obj := (.box 42 (.d (.arr 61 61 (a0.map e_A61eIi64))))) (ltN hN rfl) (Opd.tmp 18 (.ptr 0 0 [])))
      (OpJs.cons (OpJ.val (v' := (.ptr 0 (0 + a1.toNat * 61) [a1.toNat])) (by rfl) (OpJ.indexPA Try.underlying42 tyS40 (obj := (.box 42 (.d (.arr 61 61 (a0.map e_A61eIi64))))) (and_l hc2) (and_r hc2) (ltN hN rfl) (Opd.tmp 21 (.ptr 0 0 [])) (Opd.tmp 19 (.d (.int .i64 a1)))))
      (OpJs.cons (OpJ.val (v' := (.ptr 0 ((0 + a1.toNat * 61) + a2.toNat * 1) [a1.toNat, a2.toNat])) (by rfl) (OpJ.indexPA Try.underlying40 tyS3 (obj := (.box 42 (.d (.arr 61 61 (a0.map e_A61eIi64))))) (and_l hc3) (and_r hc3) (ltN hN rfl) (Opd.tmp 22 (.ptr 0 (0 + a1.toNat * 61) [a1.toNat])) (Opd.tmp 20 (.d (.int .i64 a2)))))
      (OpJs.cons (OpJ.loadB (bt := 42) (c := (.d (.arr 61 61 (a0.map e_A61eIi64)))) (v := (.d (.int .i64 x5))) tyS3 (At.arr1 e_A61eIi64 (idx_some hx4).2 (At.arr1 (eI .i64) (idx_some hx5).2 (At.here _) (by first | rfl | omega)) (by first | rfl | omega)) (by rfl) (by rfl) rfl (ltN hN rfl) (Opd.tmp 23 (.ptr 0 ((0 + a1.toNat * 61) + a2.toNat * 1) [a1.toNat, a2.toNat])))
      (OpJs.cons (OpJ.assign (ltN hN rfl) (Opd.tmp 24 (.d (.int .i64 x5))))
      (OpJs.nil))))))))) (by rfl) (by rfl) ?_
    refine seqQ_n ?_
    refine AWp.ghost (Mat.pat [] [(6, (.d (.int .i64 x5)))] [(0, some (.box 42 (.d (.arr 61 61 (a0.map e_A61eIi64)))))] hB (by rfl) (by rfl) (by rfl)) ?_
    refine AWp.ret ?_
    obtain rfl := Option.some.inj h
    exact ⟨.inl rfl, _, _, (Mat.pat [] [(6, (.d (.int .i64 x5)))] [(0, some (.box 42 (.d (.arr 61 61 (a0.map e_A61eIi64)))))] hB (by rfl) (by rfl) (by rfl)), [(.d (.int .i64 x5))], (Res.tmp (by rfl) (by rfl) Res.nil), rfl, by rfl, by rfl, by rfl⟩

noncomputable def interval_Choose (a0 : Int) (a1 : Int) : Option (Int × Int) :=
  (if ((((decide (a0 < (0 : Int))) || (decide ((60 : Int) < a0))) || (decide (a1 < (0 : Int)))) || (decide (a0 < a1))) = true then
  some ((0 : Int), (1 : Int))
  else
  (interval_pascal).bind fun r2 =>
  (interval_triangle_choose r2 a0 a1).bind fun r3 =>
  some (r3.1, (0 : Int)))
set_option maxHeartbeats 4000000 in
set_option maxRecDepth 100000 in
theorem interval_Choose_ac (a0 : Int) (a1 : Int) (r : Int × Int) (h : interval_Choose a0 a1 = some r) : AC Try.prog 10 [(.d (.int .i64 a0)), (.d (.int .i64 a1))] [] (.tup [(.d (.int .i64 r.1)), (.d (.int .i64 r.2))]) [] := by
  refine AC.of_code2 Try.func10 rfl rfl (Nat.le_of_ble_eq_true (by rfl)) fun B hB hN => ?_
  delta interval_Choose at h
  refine AWp.seq ?_
  refine AWp.region (OpJs.cons (OpJ.assign (ltN hN rfl) (Opd.int .i64 (0)))
  (OpJs.cons (OpJ.assign (ltN hN rfl) (Opd.int .i64 (0)))
  (OpJs.nil))) (by rfl) (by rfl) ?_
  refine seqQ_n ?_
  refine AWp.ghost (Mat.pat [] [(0, (.d (.int .i64 a0))), (1, (.d (.int .i64 a1)))] [] hB (by rfl) (by rfl) (by rfl)) ?_
  refine AWp.seq ?_
  refine AWp.seq ?_
  refine AWp.region (OpJs.cons (OpJ.move (ltN hN rfl) (Opd.tmp 0 (.d (.int .i64 a0))))
  (OpJs.cons (OpJ.lss (ltN hN rfl) (Opd.tmp 6 (.d (.int .i64 a0))) (Opd.int .i64 (0)))
  (OpJs.cons (OpJ.move (ltN hN rfl) (Opd.tmp 7 (.d (.bool (decide (a0 < (0 : Int)))))))
  (OpJs.cons (OpJ.opt' (v := (.d (.int .i64 a0))) (OpJ.move (ltN hN rfl) (Opd.tmp 0 (.d (.int .i64 a0)))) (by rfl) (GuardV.plain _) (ltN hN rfl) (by rfl) (by rfl) (by rfl) (by rfl) (OptL.keep rfl OptL.nil))
  (OpJs.cons (OpJ.opt' (v := (.d (.bool (decide ((60 : Int) < a0))))) (OpJ.gtr (ltN hN rfl) (Opd.tmp 9 (.d (.int .i64 a0))) (Opd.int .i64 (60))) (by rfl) (GuardV.plain _) (ltN hN rfl) (by rfl) (by rfl) (by rfl) (by rfl) (OptL.opt OptL.nil))
  (OpJs.cons (OpJ.pickOr rfl (ltN hN rfl) (Opd.tmp 8 (.d (.bool (decide (a0 < (0 : Int)))))) (Opd.tmp 10 (.opt ((decide (a0 < (0 : Int))) == false) (.d (.bool (decide ((60 : Int) < a0)))))))
  (OpJs.cons (OpJ.move (ltN hN rfl) (Opd.tmp 11 (.d (.bool ((decide (a0 < (0 : Int))) || (decide ((60 : Int) < a0)))))))
  (OpJs.cons (OpJ.opt' (v := (.d (.int .i64 a1))) (OpJ.move (ltN hN rfl) (Opd.tmp 1 (.d (.int .i64 a1)))) (by rfl) (GuardV.plain _) (ltN hN rfl) (by rfl) (by rfl) (by rfl) (by rfl) (OptL.keep rfl OptL.nil))
  (OpJs.cons (OpJ.opt' (v := (.d (.bool (decide (a1 < (0 : Int)))))) (OpJ.lss (ltN hN rfl) (Opd.tmp 13 (.d (.int .i64 a1))) (Opd.int .i64 (0))) (by rfl) (GuardV.plain _) (ltN hN rfl) (by rfl) (by rfl) (by rfl) (by rfl) (OptL.opt OptL.nil))
  (OpJs.cons (OpJ.pickOr rfl (ltN hN rfl) (Opd.tmp 12 (.d (.bool ((decide (a0 < (0 : Int))) || (decide ((60 : Int) < a0)))))) (Opd.tmp 14 (.opt (((decide (a0 < (0 : Int))) || (decide ((60 : Int) < a0))) == false) (.d (.bool (decide (a1 < (0 : Int))))))))
  (OpJs.cons (OpJ.move (ltN hN rfl) (Opd.tmp 15 (.d (.bool (((decide (a0 < (0 : Int))) || (decide ((60 : Int) < a0))) || (decide (a1 < (0 : Int))))))))
  (OpJs.cons (OpJ.opt' (v := (.d (.int .i64 a1))) (OpJ.move (ltN hN rfl) (Opd.tmp 1 (.d (.int .i64 a1)))) (by rfl) (GuardV.plain _) (ltN hN rfl) (by rfl) (by rfl) (by rfl) (by rfl) (OptL.keep rfl OptL.nil))
  (OpJs.cons (OpJ.opt' (v := (.d (.int .i64 a0))) (OpJ.move (ltN hN rfl) (Opd.tmp 0 (.d (.int .i64 a0)))) (by rfl) (GuardV.plain _) (ltN hN rfl) (by rfl) (by rfl) (by rfl) (by rfl) (OptL.keep rfl OptL.nil))
  (OpJs.cons (OpJ.opt' (v := (.d (.bool (decide (a0 < a1))))) (OpJ.gtr (ltN hN rfl) (Opd.tmp 17 (.d (.int .i64 a1))) (Opd.tmp 18 (.d (.int .i64 a0)))) (by rfl) (GuardV.plain _) (ltN hN rfl) (by rfl) (by rfl) (by rfl) (by rfl) (OptL.opt (OptL.opt OptL.nil)))
  (OpJs.cons (OpJ.pickOr rfl (ltN hN rfl) (Opd.tmp 16 (.d (.bool (((decide (a0 < (0 : Int))) || (decide ((60 : Int) < a0))) || (decide (a1 < (0 : Int))))))) (Opd.tmp 19 (.opt ((((decide (a0 < (0 : Int))) || (decide ((60 : Int) < a0))) || (decide (a1 < (0 : Int)))) == false) (.d (.bool (decide (a0 < a1)))))))
  (OpJs.nil)))))))))))))))) (by rfl) (by rfl) ?_
  refine seqQ_n ?_
  refine AWp.ghost (Mat.pat [] [(0, (.d (.int .i64 a0))), (1, (.d (.int .i64 a1))), (20, (.d (.bool ((((decide (a0 < (0 : Int))) || (decide ((60 : Int) < a0))) || (decide (a1 < (0 : Int)))) || (decide (a0 < a1))))))] [] hB (by rfl) (by rfl) (by rfl)) ?_
  refine AWp.cond (b := ((((decide (a0 < (0 : Int))) || (decide ((60 : Int) < a0))) || (decide (a1 < (0 : Int)))) || (decide (a0 < a1)))) (by rfl) (fun hg1 => ?_) (fun hg1 => ?_)
  · replace h := ite_t hg1 h
    refine AWp.seq ?_
    refine AWp.region (OpJs.cons (OpJ.assign (ltN hN rfl) (Opd.int .i64 (0)))
      (OpJs.cons (OpJ.assign (ltN hN rfl) (Opd.int .i64 (1)))
      (OpJs.nil))) (by rfl) (by rfl) ?_
    refine seqQ_n ?_
    refine AWp.ghost (Mat.pat [] [(4, (.d (.int .i64 (0 : Int)))), (5, (.d (.int .i64 (1 : Int))))] [] hB (by rfl) (by rfl) (by rfl)) ?_
    refine AWp.ret ?_
    refine seqQ_r ?_
    obtain rfl := Option.some.inj h
    exact ⟨.inl rfl, _, _, (Mat.pat [] [(4, (.d (.int .i64 (0 : Int)))), (5, (.d (.int .i64 (1 : Int))))] [] hB (by rfl) (by rfl) (by rfl)), [(.d (.int .i64 (0 : Int))), (.d (.int .i64 (1 : Int)))], (Res.tmp (by rfl) (by rfl) (Res.tmp (by rfl) (by rfl) Res.nil)), rfl, by rfl, by rfl, by rfl⟩
  · replace h := ite_f hg1 h
    refine AWp.skip ?_
    refine seqQ_n ?_
    refine AWp.seq ?_
    obtain ⟨r2, hr2, h⟩ := bindS h
    obtain ⟨r3, hr3, h⟩ := bindS h
    refine AWp.region (OpJs.cons (OpJ.callFn hB fnOk21 (interval_pascal_ac  r2 hr2) [(1001, 100210)] (by kernel_rfl) (ltN hN rfl) (by kernel_rfl) OpdL.nil)
      (OpJs.cons (OpJ.move (ltN hN rfl) (Opd.tmp 0 (.d (.int .i64 a0))))
      (OpJs.cons (OpJ.move (ltN hN rfl) (Opd.tmp 1 (.d (.int .i64 a1))))
      (OpJs.cons (OpJ.callFn hB fnOk22 (interval_triangle_choose_ac r2 a0 a1 r3 hr3) [(0, 100210)] (by kernel_rfl) (ltN hN rfl) (by kernel_rfl) (OpdL.cons (Opd.tmp 21 (.ptr 100210 0 [])) (OpdL.cons (Opd.tmp 22 (.d (.int .i64 a0))) (OpdL.cons (Opd.tmp 23 (.d (.int .i64 a1))) OpdL.nil))))
      (OpJs.cons (OpJ.assign (ltN hN rfl) (Opd.tmp 24 (.d (.int .i64 r3.1))))
      (OpJs.cons (OpJ.assign (ltN hN rfl) (Opd.int .i64 (0)))
      (OpJs.nil))))))) (by rfl) (by rfl) ?_
    refine seqQ_n ?_
    refine AWp.ghost (Mat.pat [] [(4, (.d (.int .i64 r3.1))), (5, (.d (.int .i64 (0 : Int))))] [] hB (by rfl) (by rfl) (by rfl)) ?_
    refine AWp.ret ?_
    obtain rfl := Option.some.inj h
    exact ⟨.inl rfl, _, _, (Mat.pat [] [(4, (.d (.int .i64 r3.1))), (5, (.d (.int .i64 (0 : Int))))] [] hB (by rfl) (by rfl) (by rfl)), [(.d (.int .i64 r3.1)), (.d (.int .i64 (0 : Int)))], (Res.tmp (by rfl) (by rfl) (Res.tmp (by rfl) (by rfl) Res.nil)), rfl, by rfl, by rfl, by rfl⟩

noncomputable def exchangepointref39_choose_L1 (s62 : Int × (List Int)) : Option ((((List Int))) ⊕ (Int × (List Int))) :=
  (if (decide ((0 : Int) < s62.1)) = true then
  (idx s62.2 s62.1).bind fun x79 =>
  (idx s62.2 s62.1).bind fun x80 =>
  (idx s62.2 (w64 (s62.1 - (1 : Int)))).bind fun x81 =>
  (idx s62.2 (w64 (s62.1 - (1 : Int)))).bind fun x82 =>
  (idx s62.2 s62.1).bind fun x83 =>
  (idx s62.2 s62.1).bind fun x84 =>
  some (.inr ((w64 (s62.1 - (1 : Int))), (s62.2.set s62.1.toNat (w64 (x80 + x82)))))
  else
  some (.inl s62.2))
noncomputable def exchangepointref39_choose_L0 (a0 : Int) (s5 : Int × (List Int)) : Option ((((List Int))) ⊕ (Int × (List Int))) :=
  (if (decide (s5.1 ≤ a0)) = true then
  (loop (exchangepointref39_choose_L1) (s5.1, s5.2)).bind fun p77 =>
  some (.inr ((w64 (s5.1 + (1 : Int))), p77))
  else
  some (.inl s5.2))
noncomputable def exchangepointref39_choose (a0 : Int) (a1 : Int) : Option (Int) :=
  (if ((decide (a1 < (0 : Int))) || (decide (a0 < a1))) = true then
  some (0 : Int)
  else
  chk ((decide (0 ≤ (w64 (a0 + (2 : Int)))) && decide ((w64 (a0 + (2 : Int))) ≤ (w64 (a0 + (2 : Int)))) && decide ((w64 (a0 + (2 : Int))) ≤ (LIM : Int)))) <|
  (idx (List.replicate (w64 (a0 + (2 : Int))).toNat (0 : Int)) (0 : Int)).bind fun x3 =>
  (idx (List.replicate (w64 (a0 + (2 : Int))).toNat (0 : Int)) (0 : Int)).bind fun x4 =>
  (loop (exchangepointref39_choose_L0 a0) ((1 : Int), ((List.replicate (w64 (a0 + (2 : Int))).toNat (0 : Int)).set 0 (1 : Int)))).bind fun p60 =>
  (idx p60 a1).bind fun x89 =>
  (idx p60 a1).bind fun x90 =>
  some x90)
set_option maxHeartbeats 4000000 in
set_option maxRecDepth 100000 in
theorem exchangepointref39_choose_ac (a0 : Int) (a1 : Int) (r : Int) (h : exchangepointref39_choose a0 a1 = some r) : AC Try.prog 23 [(.d (.int .i64 a0)), (.d (.int .i64 a1))] [] (.d (.int .i64 r)) [] := by
  refine AC.of_code2 Try.func23 rfl rfl (Nat.le_of_ble_eq_true (by rfl)) fun B hB hN => ?_
  delta exchangepointref39_choose at h
  refine AWp.seq ?_
  refine AWp.region (OpJs.cons (OpJ.assign (ltN hN rfl) (Opd.int .i64 (0)))
  (OpJs.nil)) (by rfl) (by rfl) ?_
  refine seqQ_n ?_
  refine AWp.ghost (Mat.pat [] [(0, (.d (.int .i64 a0))), (1, (.d (.int .i64 a1)))] [] hB (by rfl) (by rfl) (by rfl)) ?_
  refine AWp.seq ?_
  refine AWp.seq ?_
  refine AWp.region (OpJs.cons (OpJ.move (ltN hN rfl) (Opd.tmp 1 (.d (.int .i64 a1))))
  (OpJs.cons (OpJ.lss (ltN hN rfl) (Opd.tmp 8 (.d (.int .i64 a1))) (Opd.int .i64 (0)))
  (OpJs.cons (OpJ.move (ltN hN rfl) (Opd.tmp 9 (.d (.bool (decide (a1 < (0 : Int)))))))
  (OpJs.cons (OpJ.opt' (v := (.d (.int .i64 a1))) (OpJ.move (ltN hN rfl) (Opd.tmp 1 (.d (.int .i64 a1)))) (by rfl) (GuardV.plain _) (ltN hN rfl) (by rfl) (by rfl) (by rfl) (by rfl) (OptL.keep rfl OptL.nil))
  (OpJs.cons (OpJ.opt' (v := (.d (.int .i64 a0))) (OpJ.move (ltN hN rfl) (Opd.tmp 0 (.d (.int .i64 a0)))) (by rfl) (GuardV.plain _) (ltN hN rfl) (by rfl) (by rfl) (by rfl) (by rfl) (OptL.keep rfl OptL.nil))
  (OpJs.cons (OpJ.opt' (v := (.d (.bool (decide (a0 < a1))))) (OpJ.gtr (ltN hN rfl) (Opd.tmp 11 (.d (.int .i64 a1))) (Opd.tmp 12 (.d (.int .i64 a0)))) (by rfl) (GuardV.plain _) (ltN hN rfl) (by rfl) (by rfl) (by rfl) (by rfl) (OptL.opt (OptL.opt OptL.nil)))
  (OpJs.cons (OpJ.pickOr rfl (ltN hN rfl) (Opd.tmp 10 (.d (.bool (decide (a1 < (0 : Int)))))) (Opd.tmp 13 (.opt ((decide (a1 < (0 : Int))) == false) (.d (.bool (decide (a0 < a1)))))))
  (OpJs.nil)))))))) (by rfl) (by rfl) ?_
  refine seqQ_n ?_
  refine AWp.ghost (Mat.pat [] [(0, (.d (.int .i64 a0))), (1, (.d (.int .i64 a1))), (14, (.d (.bool ((decide (a1 < (0 : Int))) || (decide (a0 < a1))))))] [] hB (by rfl) (by rfl) (by rfl)) ?_
  refine AWp.cond (b := ((decide (a1 < (0 : Int))) || (decide (a0 < a1)))) (by rfl) (fun hg1 => ?_) (fun hg1 => ?_)
  · replace h := ite_t hg1 h
    refine AWp.seq ?_
    refine AWp.region (OpJs.cons (OpJ.assign (ltN hN rfl) (Opd.int .i64 (0)))
      (OpJs.nil)) (by rfl) (by rfl) ?_
    refine seqQ_n ?_
    refine AWp.ghost (Mat.pat [] [(4, (.d (.int .i64 (0 : Int))))] [] hB (by rfl) (by rfl) (by rfl)) ?_
    refine AWp.ret ?_
    refine seqQ_r ?_
    obtain rfl := Option.some.inj h
    exact ⟨.inl rfl, _, _, (Mat.pat [] [(4, (.d (.int .i64 (0 : Int))))] [] hB (by rfl) (by rfl) (by rfl)), [(.d (.int .i64 (0 : Int)))], (Res.tmp (by rfl) (by rfl) Res.nil), rfl, by rfl, by rfl, by rfl⟩
  · replace h := ite_f hg1 h
    refine AWp.skip ?_
    refine seqQ_n ?_
    refine AWp.seq ?_
    obtain ⟨hc2, h⟩ := chk_some h
    refine AWp.region (OpJs.cons (OpJ.move (ltN hN rfl) (Opd.tmp 0 (.d (.int .i64 a0))))
      (OpJs.cons (OpJ.add (ltN hN rfl) (Opd.tmp 15 (.d (.int .i64 a0))) (Opd.int .i64 (2)))
      (OpJs.cons (OpJ.make hB Try.underlying23 tyE3 tyZD3 (by rfl) (nm := 1017) (by decide) (of_decide_eq_true (and_l2 (and_l2 hc2))) (of_decide_eq_true (and_r2 (and_l2 hc2))) (lim_mul (of_decide_eq_true (and_r2 hc2)) (by decide)) (lim_le (of_decide_eq_true (and_r2 hc2))) (ltN hN rfl) (es := (List.replicate (w64 (a0 + (2 : Int))).toNat (0 : Int)).map (eI .i64)) (by rw [List.map_replicate]; rfl) (len := (List.replicate (w64 (a0 + (2 : Int))).toNat (0 : Int)).length) (by simp) (Opd.tmp 16 (.d (.int .i64 (w64 (a0 + (2 : Int)))))) (Opd.tmp 16 (.d (.int .i64 (w64 (a0 + (2 : Int)))))))
      (OpJs.cons (OpJ.assign (ltN hN rfl) (Opd.tmp 17 (.sref 1017 1 0 ((List.replicate (w64 (a0 + (2 : Int))).toNat (0 : Int)).length))))
      (OpJs.nil))))) (by rfl) (by rfl) ?_
    refine seqQ_n ?_
    refine AWp.ghost (Mat.pat [] [(0, (.d (.int .i64 a0))), (1, (.d (.int .i64 a1))), (5, (.sref 1017 1 0 ((List.replicate (w64 (a0 + (2 : Int))).toNat (0 : Int)).length)))] [(1017, some (.row 3 1 ((List.replicate (w64 (a0 + (2 : Int))).toNat (0 : Int)).map (eI .i64))))] hB (by rfl) (by rfl) (by rfl)) ?_
    refine AWp.seq ?_
    obtain ⟨x3, hx3, h⟩ := bindS h
    obtain ⟨x4, hx4, h⟩ := bindS h
    refine AWp.region (OpJs.cons (OpJ.move (ltN hN rfl) (Opd.tmp 5 (.sref 1017 1 0 ((List.replicate (w64 (a0 + (2 : Int))).toNat (0 : Int)).length))))
      (OpJs.cons (OpJ.val (v' := (.ptr 1017 (0 * 1) [0])) (by simp) (OpJ.indexS Try.underlying23 tyS3 (obj := (.row 3 1 ((List.replicate (w64 (a0 + (2 : Int))).toNat (0 : Int)).map (eI .i64)))) (idx_some hx3).1 (by have := idx_lt hx3; simpa using this) (ltN hN rfl) (Opd.tmp 18 (.sref 1017 1 0 ((List.replicate (w64 (a0 + (2 : Int))).toNat (0 : Int)).length))) (Opd.int .i64 (0))))
      (OpJs.cons (OpJ.storeR (e := 3) (sz := 1) (es := (List.replicate (w64 (a0 + (2 : Int))).toNat (0 : Int)).map (eI .i64)) (es' := ((List.replicate (w64 (a0 + (2 : Int))).toNat (0 : Int)).set 0 (1 : Int)).map (eI .i64)) tyS3 (get_map (eI .i64) (idx_some hx4).2) (o := 0) (v := (.int .i64 (1 : Int))) (el' := (.int .i64 (1 : Int))) (SetAt.here _ _) (by rfl) (map_set _ _ _ _) (by rfl) (by rfl) (Opd.tmp 19 (.ptr 1017 (0 * 1) [0])) (Opd.int .i64 (1)))
      (OpJs.nil)))) (by rfl) (by rfl) ?_
    refine seqQ_n ?_
    refine AWp.ghost (Mat.pat [] [(0, (.d (.int .i64 a0))), (1, (.d (.int .i64 a1))), (5, (.sref 1017 1 0 ((List.replicate (w64 (a0 + (2 : Int))).toNat (0 : Int)).length)))] [(1017, some (.row 3 1 (((List.replicate (w64 (a0 + (2 : Int))).toNat (0 : Int)).set 0 (1 : Int)).map (eI .i64))))] hB (by rfl) (by rfl) (by rfl)) ?_
    refine AWp.seq ?_
    refine AWp.seq ?_
    refine AWp.region (OpJs.cons (OpJ.assign (ltN hN rfl) (Opd.int .i64 (1)))
      (OpJs.nil)) (by rfl) (by rfl) ?_
    refine seqQ_n ?_
    refine AWp.ghost (Mat.pat [] [(0, (.d (.int .i64 a0))), (1, (.d (.int .i64 a1))), (5, (.sref 1017 1 0 ((List.replicate (w64 (a0 + (2 : Int))).toNat (0 : Int)).length))), (6, (.d (.int .i64 (1 : Int))))] [(1017, some (.row 3 1 (((List.replicate (w64 (a0 + (2 : Int))).toNat (0 : Int)).set 0 (1 : Int)).map (eI .i64))))] hB (by rfl) (by rfl) (by rfl)) ?_
    refine AWp.block ?_
    obtain ⟨p60, hx88, h⟩ := bindS h
    refine AWp.ghost (Mat.trans (Mat.val (k := 5) (v := (.sref 1017 1 0 ((List.replicate (w64 (a0 + (2 : Int))).toNat (0 : Int)).length))) (v' := (.sref 1017 1 0 (((List.replicate (w64 (a0 + (2 : Int))).toNat (0 : Int)).set 0 (1 : Int)).length))) (by rfl) (by simp)) (Mat.pat [] ((fun s5 : Int × (List Int) => ([(0, (.d (.int .i64 a0))), (1, (.d (.int .i64 a1))), (5, (.sref 1017 1 0 s5.2.length)), (6, (.d (.int .i64 s5.1)))] : EL)) ((1 : Int), ((List.replicate (w64 (a0 + (2 : Int))).toNat (0 : Int)).set 0 (1 : Int)))) ((fun s5 : Int × (List Int) => ([(1017, some (.row 3 1 (s5.2.map (eI .i64))))] : OL)) ((1 : Int), ((List.replicate (w64 (a0 + (2 : Int))).toNat (0 : Int)).set 0 (1 : Int)))) hB (by rfl) (by rfl) (by rfl))) ?_
    refine AWp.loopS (exchangepointref39_choose_L0 a0) (fun s5 : Int × (List Int) => ([(0, (.d (.int .i64 a0))), (1, (.d (.int .i64 a1))), (5, (.sref 1017 1 0 s5.2.length)), (6, (.d (.int .i64 s5.1)))] : EL)) (fun s5 : Int × (List Int) => ([(1017, some (.row 3 1 (s5.2.map (eI .i64))))] : OL)) (fun (p60 : ((List Int))) e E' O' => e = .exit 0 ∧ Mat B E' O' ([(1, (.d (.int .i64 a1))), (5, (.sref 1017 1 0 p60.length))] : EL) ([(1017, some (.row 3 1 (p60.map (eI .i64))))] : OL)) hx88 (fun s5 y h => ?_) (fun e E' O' hR => ?_)
    · unfold exchangepointref39_choose_L0 at h
      show AWp _ _ _ _ ([(0, (.d (.int .i64 a0))), (1, (.d (.int .i64 a1))), (5, (.sref 1017 1 0 s5.2.length)), (6, (.d (.int .i64 s5.1)))] : EL) ([(1017, some (.row 3 1 (s5.2.map (eI .i64))))] : OL)
      refine AWp.seq ?_
      refine AWp.seq ?_
      refine AWp.region (OpJs.cons (OpJ.move (ltN hN rfl) (Opd.tmp 6 (.d (.int .i64 s5.1))))
        (OpJs.cons (OpJ.move (ltN hN rfl) (Opd.tmp 0 (.d (.int .i64 a0))))
        (OpJs.cons (OpJ.leq (ltN hN rfl) (Opd.tmp 20 (.d (.int .i64 s5.1))) (Opd.tmp 21 (.d (.int .i64 a0))))
        (OpJs.nil)))) (by rfl) (by rfl) ?_
      refine seqQ_n ?_
      refine AWp.ghost (Mat.pat [] [(0, (.d (.int .i64 a0))), (1, (.d (.int .i64 a1))), (5, (.sref 1017 1 0 s5.2.length)), (6, (.d (.int .i64 s5.1))), (22, (.d (.bool (decide (s5.1 ≤ a0)))))] [(1017, some (.row 3 1 (s5.2.map (eI .i64))))] hB (by rfl) (by rfl) (by rfl)) ?_
      refine AWp.cond (b := (decide (s5.1 ≤ a0))) (by rfl) (fun hg61 => ?_) (fun hg61 => ?_)
      · replace h := ite_t hg61 h
        refine AWp.skip ?_
        refine seqQ_n ?_
        refine AWp.seq ?_
        refine AWp.block ?_
        refine AWp.seq ?_
        refine AWp.region (OpJs.cons (OpJ.move (ltN hN rfl) (Opd.tmp 6 (.d (.int .i64 s5.1))))
          (OpJs.cons (OpJ.assign (ltN hN rfl) (Opd.tmp 25 (.d (.int .i64 s5.1))))
          (OpJs.nil))) (by rfl) (by rfl) ?_
        refine seqQ_n ?_
        refine AWp.ghost (Mat.pat [] [(0, (.d (.int .i64 a0))), (1, (.d (.int .i64 a1))), (5, (.sref 1017 1 0 s5.2.length)), (6, (.d (.int .i64 s5.1))), (7, (.d (.int .i64 s5.1)))] [(1017, some (.row 3 1 (s5.2.map (eI .i64))))] hB (by rfl) (by rfl) (by rfl)) ?_
        refine AWp.block ?_
        obtain ⟨p77, hx86, h⟩ := bindS h
        refine AWp.ghost (Mat.pat [] ((fun s62 : Int × (List Int) => ([(0, (.d (.int .i64 a0))), (1, (.d (.int .i64 a1))), (5, (.sref 1017 1 0 s62.2.length)), (6, (.d (.int .i64 s5.1))), (7, (.d (.int .i64 s62.1)))] : EL)) (s5.1, s5.2)) ((fun s62 : Int × (List Int) => ([(1017, some (.row 3 1 (s62.2.map (eI .i64))))] : OL)) (s5.1, s5.2)) hB (by rfl) (by rfl) (by rfl)) ?_
        refine AWp.loopS (exchangepointref39_choose_L1) (fun s62 : Int × (List Int) => ([(0, (.d (.int .i64 a0))), (1, (.d (.int .i64 a1))), (5, (.sref 1017 1 0 s62.2.length)), (6, (.d (.int .i64 s5.1))), (7, (.d (.int .i64 s62.1)))] : EL)) (fun s62 : Int × (List Int) => ([(1017, some (.row 3 1 (s62.2.map (eI .i64))))] : OL)) (fun (p77 : ((List Int))) e E' O' => e = .exit 2 ∧ Mat B E' O' ([(0, (.d (.int .i64 a0))), (1, (.d (.int .i64 a1))), (5, (.sref 1017 1 0 p77.length)), (6, (.d (.int .i64 s5.1)))] : EL) ([(1017, some (.row 3 1 (p77.map (eI .i64))))] : OL)) hx86 (fun s62 y h => ?_) (fun e E' O' hR => ?_)
        · unfold exchangepointref39_choose_L1 at h
          show AWp _ _ _ _ ([(0, (.d (.int .i64 a0))), (1, (.d (.int .i64 a1))), (5, (.sref 1017 1 0 s62.2.length)), (6, (.d (.int .i64 s5.1))), (7, (.d (.int .i64 s62.1)))] : EL) ([(1017, some (.row 3 1 (s62.2.map (eI .i64))))] : OL)
          refine AWp.seq ?_
          refine AWp.seq ?_
          refine AWp.region (OpJs.cons (OpJ.move (ltN hN rfl) (Opd.tmp 7 (.d (.int .i64 s62.1))))
            (OpJs.cons (OpJ.gtr (ltN hN rfl) (Opd.tmp 26 (.d (.int .i64 s62.1))) (Opd.int .i64 (0)))
            (OpJs.nil))) (by rfl) (by rfl) ?_
          refine seqQ_n ?_
          refine AWp.ghost (Mat.pat [] [(0, (.d (.int .i64 a0))), (1, (.d (.int .i64 a1))), (5, (.sref 1017 1 0 s62.2.length)), (6, (.d (.int .i64 s5.1))), (7, (.d (.int .i64 s62.1))), (27, (.d (.bool (decide ((0 : Int) < s62.1)))))] [(1017, some (.row 3 1 (s62.2.map (eI .i64))))] hB (by rfl) (by rfl) (by rfl)) ?_
          refine AWp.cond (b := (decide ((0 : Int) < s62.1))) (by rfl) (fun hg78 => ?_) (fun hg78 => ?_)
          · replace h := ite_t hg78 h
            refine AWp.skip ?_
            refine seqQ_n ?_
            refine AWp.seq ?_
            refine AWp.block ?_
            obtain ⟨x79, hx79, h⟩ := bindS h
            obtain ⟨x80, hx80, h⟩ := bindS h
            obtain ⟨x81, hx81, h⟩ := bindS h
            obtain ⟨x82, hx82, h⟩ := bindS h
            obtain ⟨x83, hx83, h⟩ := bindS h
            obtain ⟨x84, hx84, h⟩ := bindS h
            refine AWp.draws (by kernel_rfl) (OpJs.cons (OpJ.move (ltN hN rfl) (Opd.tmp 5 (.sref 1017 1 0 s62.2.length)))
              (OpJs.cons (OpJ.move (ltN hN rfl) (Opd.tmp 7 (.d (.int .i64 s62.1))))
              (OpJs.cons (OpJ.val (v' := (.ptr 1017 (s62.1.toNat * 1) [s62.1.toNat])) (by simp) (OpJ.indexS Try.underlying23 tyS3 (obj := (.row 3 1 (s62.2.map (eI .i64)))) (idx_some hx79).1 (by have := idx_lt hx79; simpa using this) (ltN hN rfl) (Opd.tmp 30 (.sref 1017 1 0 s62.2.length)) (Opd.tmp 31 (.d (.int .i64 s62.1)))))
              (OpJs.cons (OpJ.loadR (e := 3) (sz := 1) (es := s62.2.map (eI .i64)) tyS3 (get_map (eI .i64) (idx_some hx80).2) (o := 0) (v := (.int .i64 x80)) (At.here _) (by rfl) (by rfl) (by rfl) (ltN hN rfl) (Opd.tmp 32 (.ptr 1017 (s62.1.toNat * 1) [s62.1.toNat])))
              (OpJs.cons (OpJ.move (ltN hN rfl) (Opd.tmp 5 (.sref 1017 1 0 s62.2.length)))
              (OpJs.cons (OpJ.move (ltN hN rfl) (Opd.tmp 7 (.d (.int .i64 s62.1))))
              (OpJs.cons (OpJ.sub (ltN hN rfl) (Opd.tmp 35 (.d (.int .i64 s62.1))) (Opd.int .i64 (1)))
              (OpJs.cons (OpJ.val (v' := (.ptr 1017 ((w64 (s62.1 - (1 : Int))).toNat * 1) [(w64 (s62.1 - (1 : Int))).toNat])) (by simp) (OpJ.indexS Try.underlying23 tyS3 (obj := (.row 3 1 (s62.2.map (eI .i64)))) (idx_some hx81).1 (by have := idx_lt hx81; simpa using this) (ltN hN rfl) (Opd.tmp 34 (.sref 1017 1 0 s62.2.length)) (Opd.tmp 36 (.d (.int .i64 (w64 (s62.1 - (1 : Int))))))))
              (OpJs.cons (OpJ.loadR (e := 3) (sz := 1) (es := s62.2.map (eI .i64)) tyS3 (get_map (eI .i64) (idx_some hx82).2) (o := 0) (v := (.int .i64 x82)) (At.here _) (by rfl) (by rfl) (by rfl) (ltN hN rfl) (Opd.tmp 37 (.ptr 1017 ((w64 (s62.1 - (1 : Int))).toNat * 1) [(w64 (s62.1 - (1 : Int))).toNat])))
              (OpJs.cons (OpJ.add (ltN hN rfl) (Opd.tmp 33 (.d (.int .i64 x80))) (Opd.tmp 38 (.d (.int .i64 x82))))
              (OpJs.cons (OpJ.val (v' := (.ptr 1017 (s62.1.toNat * 1) [s62.1.toNat])) (by simp) (OpJ.indexS Try.underlying23 tyS3 (obj := (.row 3 1 (s62.2.map (eI .i64)))) (idx_some hx83).1 (by have := idx_lt hx83; simpa using this) (ltN hN rfl) (Opd.tmp 30 (.sref 1017 1 0 s62.2.length)) (Opd.tmp 31 (.d (.int .i64 s62.1)))))
              (OpJs.cons (OpJ.storeR (e := 3) (sz := 1) (es := s62.2.map (eI .i64)) (es' := (s62.2.set s62.1.toNat (w64 (x80 + x82))).map (eI .i64)) tyS3 (get_map (eI .i64) (idx_some hx84).2) (o := 0) (v := (.int .i64 (w64 (x80 + x82)))) (el' := (.int .i64 (w64 (x80 + x82)))) (SetAt.here _ _) (by rfl) (map_set _ _ _ _) (by rfl) (by rfl) (Opd.tmp 40 (.ptr 1017 (s62.1.toNat * 1) [s62.1.toNat])) (Opd.tmp 39 (.d (.int .i64 (w64 (x80 + x82))))))
              (OpJs.nil))))))))))))) (by kernel_rfl) (by rfl) (by rfl) ?_
            refine blkQ_n ?_
            refine seqQ_n ?_
            refine AWp.ghost (Mat.pat [] [(0, (.d (.int .i64 a0))), (1, (.d (.int .i64 a1))), (5, (.sref 1017 1 0 s62.2.length)), (6, (.d (.int .i64 s5.1))), (7, (.d (.int .i64 s62.1)))] [(1017, some (.row 3 1 ((s62.2.set s62.1.toNat (w64 (x80 + x82))).map (eI .i64))))] hB (by rfl) (by rfl) (by rfl)) ?_
            refine AWp.region (OpJs.cons (OpJ.move (ltN hN rfl) (Opd.tmp 7 (.d (.int .i64 s62.1))))
              (OpJs.cons (OpJ.sub (ltN hN rfl) (Opd.tmp 28 (.d (.int .i64 s62.1))) (Opd.int .i64 (1)))
              (OpJs.cons (OpJ.assign (ltN hN rfl) (Opd.tmp 29 (.d (.int .i64 (w64 (s62.1 - (1 : Int)))))))
              (OpJs.nil)))) (by rfl) (by rfl) ?_
            obtain rfl := Option.some.inj h
            exact ⟨rfl, (Mat.trans (Mat.pat [] [(0, (.d (.int .i64 a0))), (1, (.d (.int .i64 a1))), (5, (.sref 1017 1 0 s62.2.length)), (6, (.d (.int .i64 s5.1))), (7, (.d (.int .i64 (w64 (s62.1 - (1 : Int))))))] [(1017, some (.row 3 1 ((s62.2.set s62.1.toNat (w64 (x80 + x82))).map (eI .i64))))] hB (by rfl) (by rfl) (by rfl)) (Mat.trans (Mat.val (k := 5) (v := (.sref 1017 1 0 s62.2.length)) (v' := (.sref 1017 1 0 ((s62.2.set s62.1.toNat (w64 (x80 + x82))).length))) (by rfl) (by simp)) (Mat.pat [] ((fun s62 : Int × (List Int) => ([(0, (.d (.int .i64 a0))), (1, (.d (.int .i64 a1))), (5, (.sref 1017 1 0 s62.2.length)), (6, (.d (.int .i64 s5.1))), (7, (.d (.int .i64 s62.1)))] : EL)) ((w64 (s62.1 - (1 : Int))), (s62.2.set s62.1.toNat (w64 (x80 + x82))))) ((fun s62 : Int × (List Int) => ([(1017, some (.row 3 1 (s62.2.map (eI .i64))))] : OL)) ((w64 (s62.1 - (1 : Int))), (s62.2.set s62.1.toNat (w64 (x80 + x82))))) hB (by rfl) (by rfl) (by rfl))))⟩
          · replace h := ite_f hg78 h
            refine AWp.exit ?_
            refine seqQ_e ?_
            obtain rfl := Option.some.inj h
            exact ⟨(fun hc => by cases hc), rfl, (Mat.pat [] ((fun p77 : (List Int) => ([(0, (.d (.int .i64 a0))), (1, (.d (.int .i64 a1))), (5, (.sref 1017 1 0 p77.length)), (6, (.d (.int .i64 s5.1)))] : EL)) s62.2) ((fun p77 : (List Int) => ([(1017, some (.row 3 1 (p77.map (eI .i64))))] : OL)) s62.2) hB (by rfl) (by rfl) (by rfl))⟩
        · obtain ⟨rfl, hmat⟩ := hR
          refine blkQ_hit ?_
          refine blkQ_n ?_
          refine seqQ_n ?_
          refine AWp.ghost hmat ?_
          refine AWp.region (OpJs.cons (OpJ.move (ltN hN rfl) (Opd.tmp 6 (.d (.int .i64 s5.1))))
            (OpJs.cons (OpJ.add (ltN hN rfl) (Opd.tmp 23 (.d (.int .i64 s5.1))) (Opd.int .i64 (1)))
            (OpJs.cons (OpJ.assign (ltN hN rfl) (Opd.tmp 24 (.d (.int .i64 (w64 (s5.1 + (1 : Int)))))))
            (OpJs.nil)))) (by rfl) (by rfl) ?_
          obtain rfl := Option.some.inj h
          exact ⟨rfl, (Mat.trans (Mat.pat [] [(0, (.d (.int .i64 a0))), (1, (.d (.int .i64 a1))), (5, (.sref 1017 1 0 p77.length)), (6, (.d (.int .i64 (w64 (s5.1 + (1 : Int))))))] [(1017, some (.row 3 1 (p77.map (eI .i64))))] hB (by rfl) (by rfl) (by rfl)) (Mat.pat [] ((fun s5 : Int × (List Int) => ([(0, (.d (.int .i64 a0))), (1, (.d (.int .i64 a1))), (5, (.sref 1017 1 0 s5.2.length)), (6, (.d (.int .i64 s5.1)))] : EL)) ((w64 (s5.1 + (1 : Int))), p77)) ((fun s5 : Int × (List Int) => ([(1017, some (.row 3 1 (s5.2.map (eI .i64))))] : OL)) ((w64 (s5.1 + (1 : Int))), p77)) hB (by rfl) (by rfl) (by rfl)))⟩
      · replace h := ite_f hg61 h
        refine AWp.exit ?_
        refine seqQ_e ?_
        obtain rfl := Option.some.inj h
        exact ⟨(fun hc => by cases hc), rfl, (Mat.pat [] ((fun p60 : (List Int) => ([(1, (.d (.int .i64 a1))), (5, (.sref 1017 1 0 p60.length))] : EL)) s5.2) ((fun p60 : (List Int) => ([(1017, some (.row 3 1 (p60.map (eI .i64))))] : OL)) s5.2) hB (by rfl) (by rfl) (by rfl))⟩
    · obtain ⟨rfl, hmat⟩ := hR
      refine blkQ_hit ?_
      refine seqQ_n ?_
      refine AWp.ghost hmat ?_
      refine AWp.seq ?_
      obtain ⟨x89, hx89, h⟩ := bindS h
      obtain ⟨x90, hx90, h⟩ := bindS h
      refine AWp.region (OpJs.cons (OpJ.move (ltN hN rfl) (Opd.tmp 5 (.sref 1017 1 0 p60.length)))
        (OpJs.cons (OpJ.move (ltN hN rfl) (Opd.tmp 1 (.d (.int .i64 a1))))
        (OpJs.cons (OpJ.val (v' := (.ptr 1017 (a1.toNat * 1) [a1.toNat])) (by simp) (OpJ.indexS Try.underlying23 tyS3 (obj := (.row 3 1 (p60.map (eI .i64)))) (idx_some hx89).1 (by have := idx_lt hx89; simpa using this) (ltN hN rfl) (Opd.tmp 41 (.sref 1017 1 0 p60.length)) (Opd.tmp 42 (.d (.int .i64 a1)))))
        (OpJs.cons (OpJ.loadR (e := 3) (sz := 1) (es := p60.map (eI .i64)) tyS3 (get_map (eI .i64) (idx_some hx90).2) (o := 0) (v := (.int .i64 x90)) (At.here _) (by rfl) (by rfl) (by rfl) (ltN hN rfl) (Opd.tmp 43 (.ptr 1017 (a1.toNat * 1) [a1.toNat])))
        (OpJs.cons (OpJ.assign (ltN hN rfl) (Opd.tmp 44 (.d (.int .i64 x90))))
        (OpJs.nil)))))) (by rfl) (by rfl) ?_
      refine seqQ_n ?_
      refine AWp.ghost (Mat.pat [] [(4, (.d (.int .i64 x90)))] [] hB (by rfl) (by rfl) (by rfl)) ?_
      refine AWp.ret ?_
      obtain rfl := Option.some.inj h
      exact ⟨.inl rfl, _, _, (Mat.pat [] [(4, (.d (.int .i64 x90)))] [] hB (by rfl) (by rfl) (by rfl)), [(.d (.int .i64 x90))], (Res.tmp (by rfl) (by rfl) Res.nil), rfl, by rfl, by rfl, by rfl⟩

noncomputable def exchangepointref39_Choose (a0 : Int) (a1 : Int) : Option (Int × Int) :=
  (if ((((decide (a0 < (0 : Int))) || (decide ((60 : Int) < a0))) || (decide (a1 < (0 : Int)))) || (decide (a0 < a1))) = true then
  some ((0 : Int), (1 : Int))
  else
  (exchangepointref39_choose a0 a1).bind fun r2 =>
  some (r2, (0 : Int)))
set_option maxHeartbeats 4000000 in
set_option maxRecDepth 100000 in
theorem exchangepointref39_Choose_ac (a0 : Int) (a1 : Int) (r : Int × Int) (h : exchangepointref39_Choose a0 a1 = some r) : AC Try.prog 11 [(.d (.int .i64 a0)), (.d (.int .i64 a1))] [] (.tup [(.d (.int .i64 r.1)), (.d (.int .i64 r.2))]) [] := by
  refine AC.of_code2 Try.func11 rfl rfl (Nat.le_of_ble_eq_true (by rfl)) fun B hB hN => ?_
  delta exchangepointref39_Choose at h
  refine AWp.seq ?_
  refine AWp.region (OpJs.cons (OpJ.assign (ltN hN rfl) (Opd.int .i64 (0)))
  (OpJs.cons (OpJ.assign (ltN hN rfl) (Opd.int .i64 (0)))
  (OpJs.nil))) (by rfl) (by rfl) ?_
  refine seqQ_n ?_
  refine AWp.ghost (Mat.pat [] [(0, (.d (.int .i64 a0))), (1, (.d (.int .i64 a1)))] [] hB (by rfl) (by rfl) (by rfl)) ?_
  refine AWp.seq ?_
  refine AWp.seq ?_
  refine AWp.region (OpJs.cons (OpJ.move (ltN hN rfl) (Opd.tmp 0 (.d (.int .i64 a0))))
  (OpJs.cons (OpJ.lss (ltN hN rfl) (Opd.tmp 6 (.d (.int .i64 a0))) (Opd.int .i64 (0)))
  (OpJs.cons (OpJ.move (ltN hN rfl) (Opd.tmp 7 (.d (.bool (decide (a0 < (0 : Int)))))))
  (OpJs.cons (OpJ.opt' (v := (.d (.int .i64 a0))) (OpJ.move (ltN hN rfl) (Opd.tmp 0 (.d (.int .i64 a0)))) (by rfl) (GuardV.plain _) (ltN hN rfl) (by rfl) (by rfl) (by rfl) (by rfl) (OptL.keep rfl OptL.nil))
  (OpJs.cons (OpJ.opt' (v := (.d (.bool (decide ((60 : Int) < a0))))) (OpJ.gtr (ltN hN rfl) (Opd.tmp 9 (.d (.int .i64 a0))) (Opd.int .i64 (60))) (by rfl) (GuardV.plain _) (ltN hN rfl) (by rfl) (by rfl) (by rfl) (by rfl) (OptL.opt OptL.nil))
  (OpJs.cons (OpJ.pickOr rfl (ltN hN rfl) (Opd.tmp 8 (.d (.bool (decide (a0 < (0 : Int)))))) (Opd.tmp 10 (.opt ((decide (a0 < (0 : Int))) == false) (.d (.bool (decide ((60 : Int) < a0)))))))
  (OpJs.cons (OpJ.move (ltN hN rfl) (Opd.tmp 11 (.d (.bool ((decide (a0 < (0 : Int))) || (decide ((60 : Int) < a0)))))))
  (OpJs.cons (OpJ.opt' (v := (.d (.int .i64 a1))) (OpJ.move (ltN hN rfl) (Opd.tmp 1 (.d (.int .i64 a1)))) (by rfl) (GuardV.plain _) (ltN hN rfl) (by rfl) (by rfl) (by rfl) (by rfl) (OptL.keep rfl OptL.nil))
  (OpJs.cons (OpJ.opt' (v := (.d (.bool (decide (a1 < (0 : Int)))))) (OpJ.lss (ltN hN rfl) (Opd.tmp 13 (.d (.int .i64 a1))) (Opd.int .i64 (0))) (by rfl) (GuardV.plain _) (ltN hN rfl) (by rfl) (by rfl) (by rfl) (by rfl) (OptL.opt OptL.nil))
  (OpJs.cons (OpJ.pickOr rfl (ltN hN rfl) (Opd.tmp 12 (.d (.bool ((decide (a0 < (0 : Int))) || (decide ((60 : Int) < a0)))))) (Opd.tmp 14 (.opt (((decide (a0 < (0 : Int))) || (decide ((60 : Int) < a0))) == false) (.d (.bool (decide (a1 < (0 : Int))))))))
  (OpJs.cons (OpJ.move (ltN hN rfl) (Opd.tmp 15 (.d (.bool (((decide (a0 < (0 : Int))) || (decide ((60 : Int) < a0))) || (decide (a1 < (0 : Int))))))))
  (OpJs.cons (OpJ.opt' (v := (.d (.int .i64 a1))) (OpJ.move (ltN hN rfl) (Opd.tmp 1 (.d (.int .i64 a1)))) (by rfl) (GuardV.plain _) (ltN hN rfl) (by rfl) (by rfl) (by rfl) (by rfl) (OptL.keep rfl OptL.nil))
  (OpJs.cons (OpJ.opt' (v := (.d (.int .i64 a0))) (OpJ.move (ltN hN rfl) (Opd.tmp 0 (.d (.int .i64 a0)))) (by rfl) (GuardV.plain _) (ltN hN rfl) (by rfl) (by rfl) (by rfl) (by rfl) (OptL.keep rfl OptL.nil))
  (OpJs.cons (OpJ.opt' (v := (.d (.bool (decide (a0 < a1))))) (OpJ.gtr (ltN hN rfl) (Opd.tmp 17 (.d (.int .i64 a1))) (Opd.tmp 18 (.d (.int .i64 a0)))) (by rfl) (GuardV.plain _) (ltN hN rfl) (by rfl) (by rfl) (by rfl) (by rfl) (OptL.opt (OptL.opt OptL.nil)))
  (OpJs.cons (OpJ.pickOr rfl (ltN hN rfl) (Opd.tmp 16 (.d (.bool (((decide (a0 < (0 : Int))) || (decide ((60 : Int) < a0))) || (decide (a1 < (0 : Int))))))) (Opd.tmp 19 (.opt ((((decide (a0 < (0 : Int))) || (decide ((60 : Int) < a0))) || (decide (a1 < (0 : Int)))) == false) (.d (.bool (decide (a0 < a1)))))))
  (OpJs.nil)))))))))))))))) (by rfl) (by rfl) ?_
  refine seqQ_n ?_
  refine AWp.ghost (Mat.pat [] [(0, (.d (.int .i64 a0))), (1, (.d (.int .i64 a1))), (20, (.d (.bool ((((decide (a0 < (0 : Int))) || (decide ((60 : Int) < a0))) || (decide (a1 < (0 : Int)))) || (decide (a0 < a1))))))] [] hB (by rfl) (by rfl) (by rfl)) ?_
  refine AWp.cond (b := ((((decide (a0 < (0 : Int))) || (decide ((60 : Int) < a0))) || (decide (a1 < (0 : Int)))) || (decide (a0 < a1)))) (by rfl) (fun hg1 => ?_) (fun hg1 => ?_)
  · replace h := ite_t hg1 h
    refine AWp.seq ?_
    refine AWp.region (OpJs.cons (OpJ.assign (ltN hN rfl) (Opd.int .i64 (0)))
      (OpJs.cons (OpJ.assign (ltN hN rfl) (Opd.int .i64 (1)))
      (OpJs.nil))) (by rfl) (by rfl) ?_
    refine seqQ_n ?_
    refine AWp.ghost (Mat.pat [] [(4, (.d (.int .i64 (0 : Int)))), (5, (.d (.int .i64 (1 : Int))))] [] hB (by rfl) (by rfl) (by rfl)) ?_
    refine AWp.ret ?_
    refine seqQ_r ?_
    obtain rfl := Option.some.inj h
    exact ⟨.inl rfl, _, _, (Mat.pat [] [(4, (.d (.int .i64 (0 : Int)))), (5, (.d (.int .i64 (1 : Int))))] [] hB (by rfl) (by rfl) (by rfl)), [(.d (.int .i64 (0 : Int))), (.d (.int .i64 (1 : Int)))], (Res.tmp (by rfl) (by rfl) (Res.tmp (by rfl) (by rfl) Res.nil)), rfl, by rfl, by rfl, by rfl⟩
  · replace h := ite_f hg1 h
    refine AWp.skip ?_
    refine seqQ_n ?_
    refine AWp.seq ?_
    obtain ⟨r2, hr2, h⟩ := bindS h
    refine AWp.region (OpJs.cons (OpJ.move (ltN hN rfl) (Opd.tmp 0 (.d (.int .i64 a0))))
      (OpJs.cons (OpJ.move (ltN hN rfl) (Opd.tmp 1 (.d (.int .i64 a1))))
      (OpJs.cons (OpJ.callFn hB fnOk23 (exchangepointref39_choose_ac a0 a1 r2 hr2) [] (by kernel_rfl) (ltN hN rfl) (by kernel_rfl) (OpdL.cons (Opd.tmp 21 (.d (.int .i64 a0))) (OpdL.cons (Opd.tmp 22 (.d (.int .i64 a1))) OpdL.nil)))
      (OpJs.cons (OpJ.assign (ltN hN rfl) (Opd.tmp 23 (.d (.int .i64 r2))))
      (OpJs.cons (OpJ.assign (ltN hN rfl) (Opd.int .i64 (0)))
      (OpJs.nil)))))) (by rfl) (by rfl) ?_
    refine seqQ_n ?_
    refine AWp.ghost (Mat.pat [] [(4, (.d (.int .i64 r2))), (5, (.d (.int .i64 (0 : Int))))] [] hB (by rfl) (by rfl) (by rfl)) ?_
    refine AWp.ret ?_
    obtain rfl := Option.some.inj h
    exact ⟨.inl rfl, _, _, (Mat.pat [] [(4, (.d (.int .i64 r2))), (5, (.d (.int .i64 (0 : Int))))] [] hB (by rfl) (by rfl) (by rfl)), [(.d (.int .i64 r2)), (.d (.int .i64 (0 : Int)))], (Res.tmp (by rfl) (by rfl) (Res.tmp (by rfl) (by rfl) Res.nil)), rfl, by rfl, by rfl, by rfl⟩

noncomputable def interval_valid (a0 : Int) (a1 : Int) (a2 : Int) (a3 : Int) : Option (Bool) :=
  some ((((((((decide ((0 : Int) ≤ a0)) && (decide (a0 ≤ (60 : Int)))) && (decide ((0 : Int) ≤ a1))) && (decide (a1 ≤ a0))) && (decide ((0 : Int) ≤ a2))) && (decide (a2 ≤ a0))) && (decide ((1 : Int) ≤ a3))) && (decide (a3 < (1000 : Int))))
set_option maxHeartbeats 4000000 in
set_option maxRecDepth 100000 in
theorem interval_valid_ac (a0 : Int) (a1 : Int) (a2 : Int) (a3 : Int) (r : Bool) (h : interval_valid a0 a1 a2 a3 = some r) : AC Try.prog 24 [(.d (.int .i64 a0)), (.d (.int .i64 a1)), (.d (.int .i64 a2)), (.d (.int .i64 a3))] [] (.d (.bool r)) [] := by
  refine AC.of_code2 Try.func24 rfl rfl (Nat.le_of_ble_eq_true (by rfl)) fun B hB hN => ?_
  delta interval_valid at h
  refine AWp.seq ?_
  refine AWp.region (OpJs.cons (OpJ.assign (ltN hN rfl) (Opd.bool false))
  (OpJs.nil)) (by rfl) (by rfl) ?_
  refine seqQ_n ?_
  refine AWp.ghost (Mat.pat [] [(0, (.d (.int .i64 a0))), (1, (.d (.int .i64 a1))), (2, (.d (.int .i64 a2))), (3, (.d (.int .i64 a3)))] [] hB (by rfl) (by rfl) (by rfl)) ?_
  refine AWp.seq ?_
  refine AWp.region (OpJs.cons (OpJ.move (ltN hN rfl) (Opd.tmp 0 (.d (.int .i64 a0))))
  (OpJs.cons (OpJ.geq (ltN hN rfl) (Opd.tmp 9 (.d (.int .i64 a0))) (Opd.int .i64 (0)))
  (OpJs.cons (OpJ.move (ltN hN rfl) (Opd.tmp 10 (.d (.bool (decide ((0 : Int) ≤ a0))))))
  (OpJs.cons (OpJ.opt' (v := (.d (.int .i64 a0))) (OpJ.move (ltN hN rfl) (Opd.tmp 0 (.d (.int .i64 a0)))) (by rfl) (GuardV.plain _) (ltN hN rfl) (by rfl) (by rfl) (by rfl) (by rfl) (OptL.keep rfl OptL.nil))
  (OpJs.cons (OpJ.opt' (v := (.d (.bool (decide (a0 ≤ (60 : Int)))))) (OpJ.leq (ltN hN rfl) (Opd.tmp 12 (.d (.int .i64 a0))) (Opd.int .i64 (60))) (by rfl) (GuardV.plain _) (ltN hN rfl) (by rfl) (by rfl) (by rfl) (by rfl) (OptL.opt OptL.nil))
  (OpJs.cons (OpJ.pickAnd rfl (ltN hN rfl) (Opd.tmp 11 (.d (.bool (decide ((0 : Int) ≤ a0))))) (Opd.tmp 13 (.opt ((decide ((0 : Int) ≤ a0)) == true) (.d (.bool (decide (a0 ≤ (60 : Int))))))))
  (OpJs.cons (OpJ.move (ltN hN rfl) (Opd.tmp 14 (.d (.bool ((decide ((0 : Int) ≤ a0)) && (decide (a0 ≤ (60 : Int))))))))
  (OpJs.cons (OpJ.opt' (v := (.d (.int .i64 a1))) (OpJ.move (ltN hN rfl) (Opd.tmp 1 (.d (.int .i64 a1)))) (by rfl) (GuardV.plain _) (ltN hN rfl) (by rfl) (by rfl) (by rfl) (by rfl) (OptL.keep rfl OptL.nil))
  (OpJs.cons (OpJ.opt' (v := (.d (.bool (decide ((0 : Int) ≤ a1))))) (OpJ.geq (ltN hN rfl) (Opd.tmp 16 (.d (.int .i64 a1))) (Opd.int .i64 (0))) (by rfl) (GuardV.plain _) (ltN hN rfl) (by rfl) (by rfl) (by rfl) (by rfl) (OptL.opt OptL.nil))
  (OpJs.cons (OpJ.pickAnd rfl (ltN hN rfl) (Opd.tmp 15 (.d (.bool ((decide ((0 : Int) ≤ a0)) && (decide (a0 ≤ (60 : Int))))))) (Opd.tmp 17 (.opt (((decide ((0 : Int) ≤ a0)) && (decide (a0 ≤ (60 : Int)))) == true) (.d (.bool (decide ((0 : Int) ≤ a1)))))))
  (OpJs.cons (OpJ.move (ltN hN rfl) (Opd.tmp 18 (.d (.bool (((decide ((0 : Int) ≤ a0)) && (decide (a0 ≤ (60 : Int)))) && (decide ((0 : Int) ≤ a1)))))))
  (OpJs.cons (OpJ.opt' (v := (.d (.int .i64 a1))) (OpJ.move (ltN hN rfl) (Opd.tmp 1 (.d (.int .i64 a1)))) (by rfl) (GuardV.plain _) (ltN hN rfl) (by rfl) (by rfl) (by rfl) (by rfl) (OptL.keep rfl OptL.nil))
  (OpJs.cons (OpJ.opt' (v := (.d (.int .i64 a0))) (OpJ.move (ltN hN rfl) (Opd.tmp 0 (.d (.int .i64 a0)))) (by rfl) (GuardV.plain _) (ltN hN rfl) (by rfl) (by rfl) (by rfl) (by rfl) (OptL.keep rfl OptL.nil))
  (OpJs.cons (OpJ.opt' (v := (.d (.bool (decide (a1 ≤ a0))))) (OpJ.leq (ltN hN rfl) (Opd.tmp 20 (.d (.int .i64 a1))) (Opd.tmp 21 (.d (.int .i64 a0)))) (by rfl) (GuardV.plain _) (ltN hN rfl) (by rfl) (by rfl) (by rfl) (by rfl) (OptL.opt (OptL.opt OptL.nil)))
  (OpJs.cons (OpJ.pickAnd rfl (ltN hN rfl) (Opd.tmp 19 (.d (.bool (((decide ((0 : Int) ≤ a0)) && (decide (a0 ≤ (60 : Int)))) && (decide ((0 : Int) ≤ a1)))))) (Opd.tmp 22 (.opt ((((decide ((0 : Int) ≤ a0)) && (decide (a0 ≤ (60 : Int)))) && (decide ((0 : Int) ≤ a1))) == true) (.d (.bool (decide (a1 ≤ a0)))))))
  (OpJs.cons (OpJ.move (ltN hN rfl) (Opd.tmp 23 (.d (.bool ((((decide ((0 : Int) ≤ a0)) && (decide (a0 ≤ (60 : Int)))) && (decide ((0 : Int) ≤ a1))) && (decide (a1 ≤ a0)))))))
  (OpJs.cons (OpJ.opt' (v := (.d (.int .i64 a2))) (OpJ.move (ltN hN rfl) (Opd.tmp 2 (.d (.int .i64 a2)))) (by rfl) (GuardV.plain _) (ltN hN rfl) (by rfl) (by rfl) (by rfl) (by rfl) (OptL.keep rfl OptL.nil))
  (OpJs.cons (OpJ.opt' (v := (.d (.bool (decide ((0 : Int) ≤ a2))))) (OpJ.geq (ltN hN rfl) (Opd.tmp 25 (.d (.int .i64 a2))) (Opd.int .i64 (0))) (by rfl) (GuardV.plain _) (ltN hN rfl) (by rfl) (by rfl) (by rfl) (by rfl) (OptL.opt OptL.nil))
  (OpJs.cons (OpJ.pickAnd rfl (ltN hN rfl) (Opd.tmp 24 (.d (.bool ((((decide ((0 : Int) ≤ a0)) && (decide (a0 ≤ (60 : Int)))) && (decide ((0 : Int) ≤ a1))) && (decide (a1 ≤ a0)))))) (Opd.tmp 26 (.opt (((((decide ((0 : Int) ≤ a0)) && (decide (a0 ≤ (60 : Int)))) && (decide ((0 : Int) ≤ a1))) && (decide (a1 ≤ a0))) == true) (.d (.bool (decide ((0 : Int) ≤ a2)))))))
  (OpJs.cons (OpJ.move (ltN hN rfl) (Opd.tmp 27 (.d (.bool (((((decide ((0 : Int) ≤ a0)) && (decide (a0 ≤ (60 : Int)))) && (decide ((0 : Int) ≤ a1))) && (decide (a1 ≤ a0))) && (decide ((0 : Int) ≤ a2)))))))
  (OpJs.cons (OpJ.opt' (v := (.d (.int .i64 a2))) (OpJ.move (ltN hN rfl) (Opd.tmp 2 (.d (.int .i64 a2)))) (by rfl) (GuardV.plain _) (ltN hN rfl) (by rfl) (by rfl) (by rfl) (by rfl) (OptL.keep rfl OptL.nil))
  (OpJs.cons (OpJ.opt' (v := (.d (.int .i64 a0))) (OpJ.move (ltN hN rfl) (Opd.tmp 0 (.d (.int .i64 a0)))) (by rfl) (GuardV.plain _) (ltN hN rfl) (by rfl) (by rfl) (by rfl) (by rfl) (OptL.keep rfl OptL.nil))
  (OpJs.cons (OpJ.opt' (v := (.d (.bool (decide (a2 ≤ a0))))) (OpJ.leq (ltN hN rfl) (Opd.tmp 29 (.d (.int .i64 a2))) (Opd.tmp 30 (.d (.int .i64 a0)))) (by rfl) (GuardV.plain _) (ltN hN rfl) (by rfl) (by rfl) (by rfl) (by rfl) (OptL.opt (OptL.opt OptL.nil)))
  (OpJs.cons (OpJ.pickAnd rfl (ltN hN rfl) (Opd.tmp 28 (.d (.bool (((((decide ((0 : Int) ≤ a0)) && (decide (a0 ≤ (60 : Int)))) && (decide ((0 : Int) ≤ a1))) && (decide (a1 ≤ a0))) && (decide ((0 : Int) ≤ a2)))))) (Opd.tmp 31 (.opt ((((((decide ((0 : Int) ≤ a0)) && (decide (a0 ≤ (60 : Int)))) && (decide ((0 : Int) ≤ a1))) && (decide (a1 ≤ a0))) && (decide ((0 : Int) ≤ a2))) == true) (.d (.bool (decide (a2 ≤ a0)))))))
  (OpJs.cons (OpJ.move (ltN hN rfl) (Opd.tmp 32 (.d (.bool ((((((decide ((0 : Int) ≤ a0)) && (decide (a0 ≤ (60 : Int)))) && (decide ((0 : Int) ≤ a1))) && (decide (a1 ≤ a0))) && (decide ((0 : Int) ≤ a2))) && (decide (a2 ≤ a0)))))))
  (OpJs.cons (OpJ.opt' (v := (.d (.int .i64 a3))) (OpJ.move (ltN hN rfl) (Opd.tmp 3 (.d (.int .i64 a3)))) (by rfl) (GuardV.plain _) (ltN hN rfl) (by rfl) (by rfl) (by rfl) (by rfl) (OptL.keep rfl OptL.nil))
  (OpJs.cons (OpJ.opt' (v := (.d (.bool (decide ((1 : Int) ≤ a3))))) (OpJ.geq (ltN hN rfl) (Opd.tmp 34 (.d (.int .i64 a3))) (Opd.int .i64 (1))) (by rfl) (GuardV.plain _) (ltN hN rfl) (by rfl) (by rfl) (by rfl) (by rfl) (OptL.opt OptL.nil))
  (OpJs.cons (OpJ.pickAnd rfl (ltN hN rfl) (Opd.tmp 33 (.d (.bool ((((((decide ((0 : Int) ≤ a0)) && (decide (a0 ≤ (60 : Int)))) && (decide ((0 : Int) ≤ a1))) && (decide (a1 ≤ a0))) && (decide ((0 : Int) ≤ a2))) && (decide (a2 ≤ a0)))))) (Opd.tmp 35 (.opt (((((((decide ((0 : Int) ≤ a0)) && (decide (a0 ≤ (60 : Int)))) && (decide ((0 : Int) ≤ a1))) && (decide (a1 ≤ a0))) && (decide ((0 : Int) ≤ a2))) && (decide (a2 ≤ a0))) == true) (.d (.bool (decide ((1 : Int) ≤ a3)))))))
  (OpJs.cons (OpJ.move (ltN hN rfl) (Opd.tmp 36 (.d (.bool (((((((decide ((0 : Int) ≤ a0)) && (decide (a0 ≤ (60 : Int)))) && (decide ((0 : Int) ≤ a1))) && (decide (a1 ≤ a0))) && (decide ((0 : Int) ≤ a2))) && (decide (a2 ≤ a0))) && (decide ((1 : Int) ≤ a3)))))))
  (OpJs.cons (OpJ.opt' (v := (.d (.int .i64 a3))) (OpJ.move (ltN hN rfl) (Opd.tmp 3 (.d (.int .i64 a3)))) (by rfl) (GuardV.plain _) (ltN hN rfl) (by rfl) (by rfl) (by rfl) (by rfl) (OptL.keep rfl OptL.nil))
  (OpJs.cons (OpJ.opt' (v := (.d (.bool (decide (a3 < (1000 : Int)))))) (OpJ.lss (ltN hN rfl) (Opd.tmp 38 (.d (.int .i64 a3))) (Opd.int .i64 (1000))) (by rfl) (GuardV.plain _) (ltN hN rfl) (by rfl) (by rfl) (by rfl) (by rfl) (OptL.opt OptL.nil))
  (OpJs.cons (OpJ.pickAnd rfl (ltN hN rfl) (Opd.tmp 37 (.d (.bool (((((((decide ((0 : Int) ≤ a0)) && (decide (a0 ≤ (60 : Int)))) && (decide ((0 : Int) ≤ a1))) && (decide (a1 ≤ a0))) && (decide ((0 : Int) ≤ a2))) && (decide (a2 ≤ a0))) && (decide ((1 : Int) ≤ a3)))))) (Opd.tmp 39 (.opt ((((((((decide ((0 : Int) ≤ a0)) && (decide (a0 ≤ (60 : Int)))) && (decide ((0 : Int) ≤ a1))) && (decide (a1 ≤ a0))) && (decide ((0 : Int) ≤ a2))) && (decide (a2 ≤ a0))) && (decide ((1 : Int) ≤ a3))) == true) (.d (.bool (decide (a3 < (1000 : Int))))))))
  (OpJs.cons (OpJ.assign (ltN hN rfl) (Opd.tmp 40 (.d (.bool ((((((((decide ((0 : Int) ≤ a0)) && (decide (a0 ≤ (60 : Int)))) && (decide ((0 : Int) ≤ a1))) && (decide (a1 ≤ a0))) && (decide ((0 : Int) ≤ a2))) && (decide (a2 ≤ a0))) && (decide ((1 : Int) ≤ a3))) && (decide (a3 < (1000 : Int))))))))
  (OpJs.nil)))))))))))))))))))))))))))))))))) (by rfl) (by rfl) ?_
  refine seqQ_n ?_
  refine AWp.ghost (Mat.pat [] [(8, (.d (.bool ((((((((decide ((0 : Int) ≤ a0)) && (decide (a0 ≤ (60 : Int)))) && (decide ((0 : Int) ≤ a1))) && (decide (a1 ≤ a0))) && (decide ((0 : Int) ≤ a2))) && (decide (a2 ≤ a0))) && (decide ((1 : Int) ≤ a3))) && (decide (a3 < (1000 : Int)))))))] [] hB (by rfl) (by rfl) (by rfl)) ?_
  refine AWp.ret ?_
  obtain rfl := Option.some.inj h
  exact ⟨.inl rfl, _, _, (Mat.pat [] [(8, (.d (.bool ((((((((decide ((0 : Int) ≤ a0)) && (decide (a0 ≤ (60 : Int)))) && (decide ((0 : Int) ≤ a1))) && (decide (a1 ≤ a0))) && (decide ((0 : Int) ≤ a2))) && (decide (a2 ≤ a0))) && (decide ((1 : Int) ≤ a3))) && (decide (a3 < (1000 : Int)))))))] [] hB (by rfl) (by rfl) (by rfl)), [(.d (.bool ((((((((decide ((0 : Int) ≤ a0)) && (decide (a0 ≤ (60 : Int)))) && (decide ((0 : Int) ≤ a1))) && (decide (a1 ≤ a0))) && (decide ((0 : Int) ≤ a2))) && (decide (a2 ≤ a0))) && (decide ((1 : Int) ≤ a3))) && (decide (a3 < (1000 : Int))))))], (Res.tmp (by rfl) (by rfl) Res.nil), rfl, by rfl, by rfl, by rfl⟩

noncomputable def interval_triangle_exactly (a0 : (List (List Int))) (a1 : Int) (a2 : Int) (a3 : Int) (a4 : Int) : Option (Int × (List (List Int))) :=
  (interval_triangle_choose a0 a3 a4).bind fun r1 =>
  (interval_triangle_choose r1.2 (w64 (a1 - a3)) (w64 (a2 - a4))).bind fun r2 =>
  some ((w64 (r1.1 * r2.1)), r2.2)
set_option maxHeartbeats 4000000 in
set_option maxRecDepth 100000 in
theorem interval_triangle_exactly_ac (a0 : (List (List Int))) (a1 : Int) (a2 : Int) (a3 : Int) (a4 : Int) (r : Int × (List (List Int))) (h : interval_triangle_exactly a0 a1 a2 a3 a4 = some r) : AC Try.prog 29 [(.ptr 0 0 []), (.d (.int .i64 a1)), (.d (.int .i64 a2)), (.d (.int .i64 a3)), (.d (.int .i64 a4))] [(0, (.box 42 (.d (.arr 61 61 (a0.map e_A61eIi64)))))] (.d (.int .i64 r.1)) [(0, some (.box 42 (.d (.arr 61 61 (r.2.map e_A61eIi64)))))] := by
  refine AC.of_code2 Try.func29 rfl rfl (Nat.le_of_ble_eq_true (by rfl)) fun B hB hN => ?_
  delta interval_triangle_exactly at h
  refine AWp.seq ?_
  refine AWp.region (OpJs.cons (OpJ.assign (ltN hN rfl) (Opd.int .i64 (0)))
  (OpJs.nil)) (by rfl) (by rfl) ?_
  refine seqQ_n ?_
  refine AWp.ghost (Mat.pat [] [(0, (.ptr 0 0 [])), (1, (.d (.int .i64 a1))), (2, (.d (.int .i64 a2))), (3, (.d (.int .i64 a3))), (4, (.d (.int .i64 a4)))] [(0, some (.box 42 (.d (.arr 61 61 (a0.map e_A61eIi64)))))] hB (by rfl) (by rfl) (by rfl)) ?_
  refine AWp.seq ?_
  obtain ⟨r1, hr1, h⟩ := bindS h
  obtain ⟨r2, hr2, h⟩ := bindS h
  refine AWp.region (OpJs.cons (OpJ.move (ltN hN rfl) (Opd.tmp 0 (.ptr 0 0 [])))
  (OpJs.cons (OpJ.move (ltN hN rfl) (Opd.tmp 3 (.d (.int .i64 a3))))
  (OpJs.cons (OpJ.move (ltN hN rfl) (Opd.tmp 4 (.d (.int .i64 a4))))
  (OpJs.cons (OpJ.callFn hB fnOk22 (interval_triangle_choose_ac a0 a3 a4 r1 hr1) [(0, 0)] (by kernel_rfl) (ltN hN rfl) (by kernel_rfl) (OpdL.cons (Opd.tmp 11 (.ptr 0 0 [])) (OpdL.cons (Opd.tmp 12 (.d (.int .i64 a3))) (OpdL.cons (Opd.tmp 13 (.d (.int .i64 a4))) OpdL.nil))))
  (OpJs.cons (OpJ.move (ltN hN rfl) (Opd.tmp 0 (.ptr 0 0 [])))
  (OpJs.cons (OpJ.move (ltN hN rfl) (Opd.tmp 1 (.d (.int .i64 a1))))
  (OpJs.cons (OpJ.move (ltN hN rfl) (Opd.tmp 3 (.d (.int .i64 a3))))
  (OpJs.cons (OpJ.sub (ltN hN rfl) (Opd.tmp 16 (.d (.int .i64 a1))) (Opd.tmp 17 (.d (.int .i64 a3))))
  (OpJs.cons (OpJ.move (ltN hN rfl) (Opd.tmp 2 (.d (.int .i64 a2))))
  (OpJs.cons (OpJ.move (ltN hN rfl) (Opd.tmp 4 (.d (.int .i64 a4))))
  (OpJs.cons (OpJ.sub (ltN hN rfl) (Opd.tmp 19 (.d (.int .i64 a2))) (Opd.tmp 20 (.d (.int .i64 a4))))
  (OpJs.cons (OpJ.callFn hB fnOk22 (interval_triangle_choose_ac r1.2 (w64 (a1 - a3)) (w64 (a2 - a4)) r2 hr2) [(0, 0)] (by kernel_rfl) (ltN hN rfl) (by kernel_rfl) (OpdL.cons (Opd.tmp 15 (.ptr 0 0 [])) (OpdL.cons (Opd.tmp 18 (.d (.int .i64 (w64 (a1 - a3))))) (OpdL.cons (Opd.tmp 21 (.d (.int .i64 (w64 (a2 - a4))))) OpdL.nil))))
  (OpJs.cons (OpJ.mul (ltN hN rfl) (Opd.tmp 14 (.d (.int .i64 r1.1))) (Opd.tmp 22 (.d (.int .i64 r2.1))))
  (OpJs.cons (OpJ.assign (ltN hN rfl) (Opd.tmp 23 (.d (.int .i64 (w64 (r1.1 * r2.1))))))
  (OpJs.nil))))))))))))))) (by rfl) (by rfl) ?_
  refine seqQ_n ?_
  refine AWp.ghost (Mat.pat [] [(10, (.d (.int .i64 (w64 (r1.1 * r2.1)))))] [(0, some (.box 42 (.d (.arr 61 61 (r2.2.map e_A61eIi64)))))] hB (by rfl) (by rfl) (by rfl)) ?_
  refine AWp.ret ?_
  obtain rfl := Option.some.inj h
  exact ⟨.inl rfl, _, _, (Mat.pat [] [(10, (.d (.int .i64 (w64 (r1.1 * r2.1)))))] [(0, some (.box 42 (.d (.arr 61 61 (r2.2.map e_A61eIi64)))))] hB (by rfl) (by rfl) (by rfl)), [(.d (.int .i64 (w64 (r1.1 * r2.1))))], (Res.tmp (by rfl) (by rfl) Res.nil), rfl, by rfl, by rfl, by rfl⟩

noncomputable def interval_triangle_tails_L0 (a1 : Int) (a2 : Int) (a3 : Int) (a4 : Int) (s1 : Int × Int × Int × (List (List Int))) : Option (((Int × Int × (List (List Int)))) ⊕ (Int × Int × Int × (List (List Int)))) :=
  (if (decide (s1.2.2.1 ≤ a2)) = true then
  (interval_triangle_exactly s1.2.2.2 a1 a2 a3 s1.2.2.1).bind fun r24 =>
  jn (fun m26 : Int =>
  jn (fun m29 : Int =>
  some (.inr (m26, m29, (w64 (s1.2.2.1 + (1 : Int))), r24.2))) (fun j30 =>
  (if (decide (s1.2.2.1 ≤ a4)) = true then
  j30 (w64 (s1.2.1 + r24.1))
  else
  j30 s1.2.1))) (fun j27 =>
  (if (decide (a4 ≤ s1.2.2.1)) = true then
  j27 (w64 (s1.1 + r24.1))
  else
  j27 s1.1))
  else
  some (.inl (s1.1, s1.2.1, s1.2.2.2)))
noncomputable def interval_triangle_tails (a0 : (List (List Int))) (a1 : Int) (a2 : Int) (a3 : Int) (a4 : Int) : Option (Int × Int × (List (List Int))) :=
  (loop (interval_triangle_tails_L0 a1 a2 a3 a4) ((0 : Int), (0 : Int), (0 : Int), a0)).bind fun p22 =>
  some (p22.1, p22.2.1, p22.2.2)
set_option maxHeartbeats 4000000 in
set_option maxRecDepth 100000 in
theorem interval_triangle_tails_ac (a0 : (List (List Int))) (a1 : Int) (a2 : Int) (a3 : Int) (a4 : Int) (r : Int × Int × (List (List Int))) (h : interval_triangle_tails a0 a1 a2 a3 a4 = some r) : AC Try.prog 25 [(.ptr 0 0 []), (.d (.int .i64 a1)), (.d (.int .i64 a2)), (.d (.int .i64 a3)), (.d (.int .i64 a4))] [(0, (.box 42 (.d (.arr 61 61 (a0.map e_A61eIi64)))))] (.tup [(.d (.int .i64 r.1)), (.d (.int .i64 r.2.1))]) [(0, some (.box 42 (.d (.arr 61 61 (r.2.2.map e_A61eIi64)))))] := by
  refine AC.of_code2 Try.func25 rfl rfl (Nat.le_of_ble_eq_true (by rfl)) fun B hB hN => ?_
  delta interval_triangle_tails at h
  refine AWp.seq ?_
  refine AWp.region (OpJs.cons (OpJ.assign (ltN hN rfl) (Opd.int .i64 (0)))
  (OpJs.cons (OpJ.assign (ltN hN rfl) (Opd.int .i64 (0)))
  (OpJs.nil))) (by rfl) (by rfl) ?_
  refine seqQ_n ?_
  refine AWp.ghost (Mat.pat [] [(0, (.ptr 0 0 [])), (1, (.d (.int .i64 a1))), (2, (.d (.int .i64 a2))), (3, (.d (.int .i64 a3))), (4, (.d (.int .i64 a4))), (10, (.d (.int .i64 (0 : Int)))), (11, (.d (.int .i64 (0 : Int))))] [(0, some (.box 42 (.d (.arr 61 61 (a0.map e_A61eIi64)))))] hB (by rfl) (by rfl) (by rfl)) ?_
  refine AWp.seq ?_
  refine AWp.seq ?_
  refine AWp.region (OpJs.cons (OpJ.assign (ltN hN rfl) (Opd.int .i64 (0)))
  (OpJs.nil)) (by rfl) (by rfl) ?_
  refine seqQ_n ?_
  refine AWp.ghost (Mat.pat [] [(0, (.ptr 0 0 [])), (1, (.d (.int .i64 a1))), (2, (.d (.int .i64 a2))), (3, (.d (.int .i64 a3))), (4, (.d (.int .i64 a4))), (10, (.d (.int .i64 (0 : Int)))), (11, (.d (.int .i64 (0 : Int)))), (12, (.d (.int .i64 (0 : Int))))] [(0, some (.box 42 (.d (.arr 61 61 (a0.map e_A61eIi64)))))] hB (by rfl) (by rfl) (by rfl)) ?_
  refine AWp.block ?_
  obtain ⟨p22, hx34, h⟩ := bindS h
  refine AWp.ghost (Mat.pat [] ((fun s1 : Int × Int × Int × (List (List Int)) => ([(0, (.ptr 0 0 [])), (1, (.d (.int .i64 a1))), (2, (.d (.int .i64 a2))), (3, (.d (.int .i64 a3))), (4, (.d (.int .i64 a4))), (10, (.d (.int .i64 s1.1))), (11, (.d (.int .i64 s1.2.1))), (12, (.d (.int .i64 s1.2.2.1)))] : EL)) ((0 : Int), (0 : Int), (0 : Int), a0)) ((fun s1 : Int × Int × Int × (List (List Int)) => ([(0, some (.box 42 (.d (.arr 61 61 (s1.2.2.2.map e_A61eIi64)))))] : OL)) ((0 : Int), (0 : Int), (0 : Int), a0)) hB (by rfl) (by rfl) (by rfl)) ?_
  refine AWp.loopS (interval_triangle_tails_L0 a1 a2 a3 a4) (fun s1 : Int × Int × Int × (List (List Int)) => ([(0, (.ptr 0 0 [])), (1, (.d (.int .i64 a1))), (2, (.d (.int .i64 a2))), (3, (.d (.int .i64 a3))), (4, (.d (.int .i64 a4))), (10, (.d (.int .i64 s1.1))), (11, (.d (.int .i64 s1.2.1))), (12, (.d (.int .i64 s1.2.2.1)))] : EL)) (fun s1 : Int × Int × Int × (List (List Int)) => ([(0, some (.box 42 (.d (.arr 61 61 (s1.2.2.2.map e_A61eIi64)))))] : OL)) (fun (p22 : (Int × Int × (List (List Int)))) e E' O' => e = .exit 0 ∧ Mat B E' O' ([(10, (.d (.int .i64 p22.1))), (11, (.d (.int .i64 p22.2.1)))] : EL) ([(0, some (.box 42 (.d (.arr 61 61 (p22.2.2.map e_A61eIi64)))))] : OL)) hx34 (fun s1 y h => ?_) (fun e E' O' hR => ?_)
  · unfold interval_triangle_tails_L0 at h
    show AWp _ _ _ _ ([(0, (.ptr 0 0 [])), (1, (.d (.int .i64 a1))), (2, (.d (.int .i64 a2))), (3, (.d (.int .i64 a3))), (4, (.d (.int .i64 a4))), (10, (.d (.int .i64 s1.1))), (11, (.d (.int .i64 s1.2.1))), (12, (.d (.int .i64 s1.2.2.1)))] : EL) ([(0, some (.box 42 (.d (.arr 61 61 (s1.2.2.2.map e_A61eIi64)))))] : OL)
    refine AWp.seq ?_
    refine AWp.seq ?_
    refine AWp.region (OpJs.cons (OpJ.move (ltN hN rfl) (Opd.tmp 12 (.d (.int .i64 s1.2.2.1))))
      (OpJs.cons (OpJ.move (ltN hN rfl) (Opd.tmp 2 (.d (.int .i64 a2))))
      (OpJs.cons (OpJ.leq (ltN hN rfl) (Opd.tmp 14 (.d (.int .i64 s1.2.2.1))) (Opd.tmp 15 (.d (.int .i64 a2))))
      (OpJs.nil)))) (by rfl) (by rfl) ?_
    refine seqQ_n ?_
    refine AWp.ghost (Mat.pat [] [(0, (.ptr 0 0 [])), (1, (.d (.int .i64 a1))), (2, (.d (.int .i64 a2))), (3, (.d (.int .i64 a3))), (4, (.d (.int .i64 a4))), (10, (.d (.int .i64 s1.1))), (11, (.d (.int .i64 s1.2.1))), (12, (.d (.int .i64 s1.2.2.1))), (16, (.d (.bool (decide (s1.2.2.1 ≤ a2)))))] [(0, some (.box 42 (.d (.arr 61 61 (s1.2.2.2.map e_A61eIi64)))))] hB (by rfl) (by rfl) (by rfl)) ?_
    refine AWp.cond (b := (decide (s1.2.2.1 ≤ a2))) (by rfl) (fun hg23 => ?_) (fun hg23 => ?_)
    · replace h := ite_t hg23 h
      refine AWp.skip ?_
      refine seqQ_n ?_
      refine AWp.seq ?_
      refine AWp.block ?_
      refine AWp.seq ?_
      obtain ⟨r24, hr24, h⟩ := bindS h
      refine AWp.region (OpJs.cons (OpJ.move (ltN hN rfl) (Opd.tmp 0 (.ptr 0 0 [])))
        (OpJs.cons (OpJ.move (ltN hN rfl) (Opd.tmp 1 (.d (.int .i64 a1))))
        (OpJs.cons (OpJ.move (ltN hN rfl) (Opd.tmp 2 (.d (.int .i64 a2))))
        (OpJs.cons (OpJ.move (ltN hN rfl) (Opd.tmp 3 (.d (.int .i64 a3))))
        (OpJs.cons (OpJ.move (ltN hN rfl) (Opd.tmp 12 (.d (.int .i64 s1.2.2.1))))
        (OpJs.cons (OpJ.callFn hB fnOk29 (interval_triangle_exactly_ac s1.2.2.2 a1 a2 a3 s1.2.2.1 r24 hr24) [(0, 0)] (by kernel_rfl) (ltN hN rfl) (by kernel_rfl) (OpdL.cons (Opd.tmp 19 (.ptr 0 0 [])) (OpdL.cons (Opd.tmp 20 (.d (.int .i64 a1))) (OpdL.cons (Opd.tmp 21 (.d (.int .i64 a2))) (OpdL.cons (Opd.tmp 22 (.d (.int .i64 a3))) (OpdL.cons (Opd.tmp 23 (.d (.int .i64 s1.2.2.1))) OpdL.nil))))))
        (OpJs.cons (OpJ.assign (ltN hN rfl) (Opd.tmp 24 (.d (.int .i64 r24.1))))
        (OpJs.nil)))))))) (by rfl) (by rfl) ?_
      refine seqQ_n ?_
      refine AWp.ghost (Mat.pat [] [(0, (.ptr 0 0 [])), (1, (.d (.int .i64 a1))), (2, (.d (.int .i64 a2))), (3, (.d (.int .i64 a3))), (4, (.d (.int .i64 a4))), (10, (.d (.int .i64 s1.1))), (11, (.d (.int .i64 s1.2.1))), (12, (.d (.int .i64 s1.2.2.1))), (13, (.d (.int .i64 r24.1)))] [(0, some (.box 42 (.d (.arr 61 61 (r24.2.map e_A61eIi64)))))] hB (by rfl) (by rfl) (by rfl)) ?_
      refine AWp.seq ?_
      refine AWp.seq ?_
      refine AWp.region (OpJs.cons (OpJ.move (ltN hN rfl) (Opd.tmp 12 (.d (.int .i64 s1.2.2.1))))
        (OpJs.cons (OpJ.move (ltN hN rfl) (Opd.tmp 4 (.d (.int .i64 a4))))
        (OpJs.cons (OpJ.geq (ltN hN rfl) (Opd.tmp 25 (.d (.int .i64 s1.2.2.1))) (Opd.tmp 26 (.d (.int .i64 a4))))
        (OpJs.nil)))) (by rfl) (by rfl) ?_
      refine seqQ_n ?_
      refine AWp.ghost (Mat.pat [] [(0, (.ptr 0 0 [])), (1, (.d (.int .i64 a1))), (2, (.d (.int .i64 a2))), (3, (.d (.int .i64 a3))), (4, (.d (.int .i64 a4))), (10, (.d (.int .i64 s1.1))), (11, (.d (.int .i64 s1.2.1))), (12, (.d (.int .i64 s1.2.2.1))), (13, (.d (.int .i64 r24.1))), (27, (.d (.bool (decide (a4 ≤ s1.2.2.1)))))] [(0, some (.box 42 (.d (.arr 61 61 (r24.2.map e_A61eIi64)))))] hB (by rfl) (by rfl) (by rfl)) ?_
      refine AWp.cut h (fun m26 : Int => ([(0, (.ptr 0 0 [])), (1, (.d (.int .i64 a1))), (2, (.d (.int .i64 a2))), (3, (.d (.int .i64 a3))), (4, (.d (.int .i64 a4))), (10, (.d (.int .i64 m26))), (11, (.d (.int .i64 s1.2.1))), (12, (.d (.int .i64 s1.2.2.1))), (13, (.d (.int .i64 r24.1)))] : EL)) (fun m26 : Int => ([(0, some (.box 42 (.d (.arr 61 61 (r24.2.map e_A61eIi64)))))] : OL)) (fun m26 h E' O' hmat => ?_) (fun j27 hjj27 h => ?_)
      · refine seqQ_n ?_
        refine AWp.ghost hmat ?_
        refine AWp.seq ?_
        refine AWp.region (OpJs.cons (OpJ.move (ltN hN rfl) (Opd.tmp 12 (.d (.int .i64 s1.2.2.1))))
          (OpJs.cons (OpJ.move (ltN hN rfl) (Opd.tmp 4 (.d (.int .i64 a4))))
          (OpJs.cons (OpJ.leq (ltN hN rfl) (Opd.tmp 31 (.d (.int .i64 s1.2.2.1))) (Opd.tmp 32 (.d (.int .i64 a4))))
          (OpJs.nil)))) (by rfl) (by rfl) ?_
        refine seqQ_n ?_
        refine AWp.ghost (Mat.pat [] [(0, (.ptr 0 0 [])), (1, (.d (.int .i64 a1))), (2, (.d (.int .i64 a2))), (3, (.d (.int .i64 a3))), (4, (.d (.int .i64 a4))), (10, (.d (.int .i64 m26))), (11, (.d (.int .i64 s1.2.1))), (12, (.d (.int .i64 s1.2.2.1))), (13, (.d (.int .i64 r24.1))), (33, (.d (.bool (decide (s1.2.2.1 ≤ a4)))))] [(0, some (.box 42 (.d (.arr 61 61 (r24.2.map e_A61eIi64)))))] hB (by rfl) (by rfl) (by rfl)) ?_
        refine AWp.cut h (fun m29 : Int => ([(0, (.ptr 0 0 [])), (1, (.d (.int .i64 a1))), (2, (.d (.int .i64 a2))), (3, (.d (.int .i64 a3))), (4, (.d (.int .i64 a4))), (10, (.d (.int .i64 m26))), (11, (.d (.int .i64 m29))), (12, (.d (.int .i64 s1.2.2.1)))] : EL)) (fun m29 : Int => ([(0, some (.box 42 (.d (.arr 61 61 (r24.2.map e_A61eIi64)))))] : OL)) (fun m29 h E' O' hmat => ?_) (fun j30 hjj30 h => ?_)
        · refine blkQ_n ?_
          refine seqQ_n ?_
          refine AWp.ghost hmat ?_
          refine AWp.region (OpJs.cons (OpJ.move (ltN hN rfl) (Opd.tmp 12 (.d (.int .i64 s1.2.2.1))))
            (OpJs.cons (OpJ.add (ltN hN rfl) (Opd.tmp 17 (.d (.int .i64 s1.2.2.1))) (Opd.int .i64 (1)))
            (OpJs.cons (OpJ.assign (ltN hN rfl) (Opd.tmp 18 (.d (.int .i64 (w64 (s1.2.2.1 + (1 : Int)))))))
            (OpJs.nil)))) (by rfl) (by rfl) ?_
          obtain rfl := Option.some.inj h
          exact ⟨rfl, (Mat.trans (Mat.pat [] [(0, (.ptr 0 0 [])), (1, (.d (.int .i64 a1))), (2, (.d (.int .i64 a2))), (3, (.d (.int .i64 a3))), (4, (.d (.int .i64 a4))), (10, (.d (.int .i64 m26))), (11, (.d (.int .i64 m29))), (12, (.d (.int .i64 (w64 (s1.2.2.1 + (1 : Int))))))] [(0, some (.box 42 (.d (.arr 61 61 (r24.2.map e_A61eIi64)))))] hB (by rfl) (by rfl) (by rfl)) (Mat.pat [] ((fun s1 : Int × Int × Int × (List (List Int)) => ([(0, (.ptr 0 0 [])), (1, (.d (.int .i64 a1))), (2, (.d (.int .i64 a2))), (3, (.d (.int .i64 a3))), (4, (.d (.int .i64 a4))), (10, (.d (.int .i64 s1.1))), (11, (.d (.int .i64 s1.2.1))), (12, (.d (.int .i64 s1.2.2.1)))] : EL)) (m26, m29, (w64 (s1.2.2.1 + (1 : Int))), r24.2)) ((fun s1 : Int × Int × Int × (List (List Int)) => ([(0, some (.box 42 (.d (.arr 61 61 (s1.2.2.2.map e_A61eIi64)))))] : OL)) (m26, m29, (w64 (s1.2.2.1 + (1 : Int))), r24.2)) hB (by rfl) (by rfl) (by rfl)))⟩
        · refine AWp.cond (b := (decide (s1.2.2.1 ≤ a4))) (by rfl) (fun hg31 => ?_) (fun hg31 => ?_)
          · replace h := ite_t hg31 h
            refine AWp.region (OpJs.cons (OpJ.move (ltN hN rfl) (Opd.tmp 11 (.d (.int .i64 s1.2.1))))
              (OpJs.cons (OpJ.move (ltN hN rfl) (Opd.tmp 13 (.d (.int .i64 r24.1))))
              (OpJs.cons (OpJ.add (ltN hN rfl) (Opd.tmp 34 (.d (.int .i64 s1.2.1))) (Opd.tmp 35 (.d (.int .i64 r24.1))))
              (OpJs.cons (OpJ.assign (ltN hN rfl) (Opd.tmp 36 (.d (.int .i64 (w64 (s1.2.1 + r24.1))))))
              (OpJs.nil))))) (by rfl) (by rfl) ?_
            exact hjj30 _ h _ _ (Mat.trans (Mat.pat [] [(0, (.ptr 0 0 [])), (1, (.d (.int .i64 a1))), (2, (.d (.int .i64 a2))), (3, (.d (.int .i64 a3))), (4, (.d (.int .i64 a4))), (10, (.d (.int .i64 m26))), (11, (.d (.int .i64 (w64 (s1.2.1 + r24.1))))), (12, (.d (.int .i64 s1.2.2.1)))] [(0, some (.box 42 (.d (.arr 61 61 (r24.2.map e_A61eIi64)))))] hB (by rfl) (by rfl) (by rfl)) (Mat.pat [] ((fun m29 : Int => ([(0, (.ptr 0 0 [])), (1, (.d (.int .i64 a1))), (2, (.d (.int .i64 a2))), (3, (.d (.int .i64 a3))), (4, (.d (.int .i64 a4))), (10, (.d (.int .i64 m26))), (11, (.d (.int .i64 m29))), (12, (.d (.int .i64 s1.2.2.1)))] : EL)) (w64 (s1.2.1 + r24.1))) ((fun m29 : Int => ([(0, some (.box 42 (.d (.arr 61 61 (r24.2.map e_A61eIi64)))))] : OL)) (w64 (s1.2.1 + r24.1))) hB (by rfl) (by rfl) (by rfl)))
          · replace h := ite_f hg31 h
            refine AWp.skip ?_
            exact hjj30 _ h _ _ (Mat.pat [] ((fun m29 : Int => ([(0, (.ptr 0 0 [])), (1, (.d (.int .i64 a1))), (2, (.d (.int .i64 a2))), (3, (.d (.int .i64 a3))), (4, (.d (.int .i64 a4))), (10, (.d (.int .i64 m26))), (11, (.d (.int .i64 m29))), (12, (.d (.int .i64 s1.2.2.1)))] : EL)) s1.2.1) ((fun m29 : Int => ([(0, some (.box 42 (.d (.arr 61 61 (r24.2.map e_A61eIi64)))))] : OL)) s1.2.1) hB (by rfl) (by rfl) (by rfl))
      · refine AWp.cond (b := (decide (a4 ≤ s1.2.2.1))) (by rfl) (fun hg32 => ?_) (fun hg32 => ?_)
        · replace h := ite_t hg32 h
          refine AWp.region (OpJs.cons (OpJ.move (ltN hN rfl) (Opd.tmp 10 (.d (.int .i64 s1.1))))
            (OpJs.cons (OpJ.move (ltN hN rfl) (Opd.tmp 13 (.d (.int .i64 r24.1))))
            (OpJs.cons (OpJ.add (ltN hN rfl) (Opd.tmp 28 (.d (.int .i64 s1.1))) (Opd.tmp 29 (.d (.int .i64 r24.1))))
            (OpJs.cons (OpJ.assign (ltN hN rfl) (Opd.tmp 30 (.d (.int .i64 (w64 (s1.1 + r24.1))))))
            (OpJs.nil))))) (by rfl) (by rfl) ?_
          exact hjj27 _ h _ _ (Mat.trans (Mat.pat [] [(0, (.ptr 0 0 [])), (1, (.d (.int .i64 a1))), (2, (.d (.int .i64 a2))), (3, (.d (.int .i64 a3))), (4, (.d (.int .i64 a4))), (10, (.d (.int .i64 (w64 (s1.1 + r24.1))))), (11, (.d (.int .i64 s1.2.1))), (12, (.d (.int .i64 s1.2.2.1))), (13, (.d (.int .i64 r24.1)))] [(0, some (.box 42 (.d (.arr 61 61 (r24.2.map e_A61eIi64)))))] hB (by rfl) (by rfl) (by rfl)) (Mat.pat [] ((fun m26 : Int => ([(0, (.ptr 0 0 [])), (1, (.d (.int .i64 a1))), (2, (.d (.int .i64 a2))), (3, (.d (.int .i64 a3))), (4, (.d (.int .i64 a4))), (10, (.d (.int .i64 m26))), (11, (.d (.int .i64 s1.2.1))), (12, (.d (.int .i64 s1.2.2.1))), (13, (.d (.int .i64 r24.1)))] : EL)) (w64 (s1.1 + r24.1))) ((fun m26 : Int => ([(0, some (.box 42 (.d (.arr 61 61 (r24.2.map e_A61eIi64)))))] : OL)) (w64 (s1.1 + r24.1))) hB (by rfl) (by rfl) (by rfl)))
        · replace h := ite_f hg32 h
          refine AWp.skip ?_
          exact hjj27 _ h _ _ (Mat.pat [] ((fun m26 : Int => ([(0, (.ptr 0 0 [])), (1, (.d (.int .i64 a1))), (2, (.d (.int .i64 a2))), (3, (.d (.int .i64 a3))), (4, (.d (.int .i64 a4))), (10, (.d (.int .i64 m26))), (11, (.d (.int .i64 s1.2.1))), (12, (.d (.int .i64 s1.2.2.1))), (13, (.d (.int .i64 r24.1)))] : EL)) s1.1) ((fun m26 : Int => ([(0, some (.box 42 (.d (.arr 61 61 (r24.2.map e_A61eIi64)))))] : OL)) s1.1) hB (by rfl) (by rfl) (by rfl))
    · replace h := ite_f hg23 h
      refine AWp.exit ?_
      refine seqQ_e ?_
      obtain rfl := Option.some.inj h
      exact ⟨(fun hc => by cases hc), rfl, (Mat.pat [] ((fun p22 : Int × Int × (List (List Int)) => ([(10, (.d (.int .i64 p22.1))), (11, (.d (.int .i64 p22.2.1)))] : EL)) (s1.1, s1.2.1, s1.2.2.2)) ((fun p22 : Int × Int × (List (List Int)) => ([(0, some (.box 42 (.d (.arr 61 61 (p22.2.2.map e_A61eIi64)))))] : OL)) (s1.1, s1.2.1, s1.2.2.2)) hB (by rfl) (by rfl) (by rfl))⟩
  · obtain ⟨rfl, hmat⟩ := hR
    refine blkQ_hit ?_
    refine seqQ_n ?_
    refine AWp.ghost hmat ?_
    refine AWp.seq ?_
    refine AWp.region (OpJs.cons (OpJ.move (ltN hN rfl) (Opd.tmp 10 (.d (.int .i64 p22.1))))
      (OpJs.cons (OpJ.move (ltN hN rfl) (Opd.tmp 11 (.d (.int .i64 p22.2.1))))
      (OpJs.cons (OpJ.assign (ltN hN rfl) (Opd.tmp 37 (.d (.int .i64 p22.1))))
      (OpJs.cons (OpJ.assign (ltN hN rfl) (Opd.tmp 38 (.d (.int .i64 p22.2.1))))
      (OpJs.nil))))) (by rfl) (by rfl) ?_
    refine seqQ_n ?_
    refine AWp.ghost (Mat.pat [] [(10, (.d (.int .i64 p22.1))), (11, (.d (.int .i64 p22.2.1)))] [(0, some (.box 42 (.d (.arr 61 61 (p22.2.2.map e_A61eIi64)))))] hB (by rfl) (by rfl) (by rfl)) ?_
    refine AWp.ret ?_
    obtain rfl := Option.some.inj h
    exact ⟨.inl rfl, _, _, (Mat.pat [] [(10, (.d (.int .i64 p22.1))), (11, (.d (.int .i64 p22.2.1)))] [(0, some (.box 42 (.d (.arr 61 61 (p22.2.2.map e_A61eIi64)))))] hB (by rfl) (by rfl) (by rfl)), [(.d (.int .i64 p22.1)), (.d (.int .i64 p22.2.1))], (Res.tmp (by rfl) (by rfl) (Res.tmp (by rfl) (by rfl) Res.nil)), rfl, by rfl, by rfl, by rfl⟩

noncomputable def interval_AtLeast (a0 : Int) (a1 : Int) (a2 : Int) (a3 : Int) : Option (Int × Int) :=
  (interval_valid a0 a1 a2 (1 : Int)).bind fun r1 =>
  (if (!r1) = true then
  some ((0 : Int), (1 : Int))
  else
  (interval_pascal).bind fun r3 =>
  (interval_triangle_tails r3 a0 a1 a2 a3).bind fun r4 =>
  some (r4.1, (0 : Int)))
set_option maxHeartbeats 4000000 in
set_option maxRecDepth 100000 in
theorem interval_AtLeast_ac (a0 : Int) (a1 : Int) (a2 : Int) (a3 : Int) (r : Int × Int) (h : interval_AtLeast a0 a1 a2 a3 = some r) : AC Try.prog 12 [(.d (.int .i64 a0)), (.d (.int .i64 a1)), (.d (.int .i64 a2)), (.d (.int .i64 a3))] [] (.tup [(.d (.int .i64 r.1)), (.d (.int .i64 r.2))]) [] := by
  refine AC.of_code2 Try.func12 rfl rfl (Nat.le_of_ble_eq_true (by rfl)) fun B hB hN => ?_
  delta interval_AtLeast at h
  refine AWp.seq ?_
  refine AWp.region (OpJs.cons (OpJ.assign (ltN hN rfl) (Opd.int .i64 (0)))
  (OpJs.cons (OpJ.assign (ltN hN rfl) (Opd.int .i64 (0)))
  (OpJs.nil))) (by rfl) (by rfl) ?_
  refine seqQ_n ?_
  refine AWp.ghost (Mat.pat [] [(0, (.d (.int .i64 a0))), (1, (.d (.int .i64 a1))), (2, (.d (.int .i64 a2))), (3, (.d (.int .i64 a3)))] [] hB (by rfl) (by rfl) (by rfl)) ?_
  refine AWp.seq ?_
  refine AWp.seq ?_
  obtain ⟨r1, hr1, h⟩ := bindS h
  refine AWp.region (OpJs.cons (OpJ.move (ltN hN rfl) (Opd.tmp 0 (.d (.int .i64 a0))))
  (OpJs.cons (OpJ.move (ltN hN rfl) (Opd.tmp 1 (.d (.int .i64 a1))))
  (OpJs.cons (OpJ.move (ltN hN rfl) (Opd.tmp 2 (.d (.int .i64 a2))))
  (OpJs.cons (OpJ.callFn hB fnOk24 (interval_valid_ac a0 a1 a2 (1 : Int) r1 hr1) [] (by kernel_rfl) (ltN hN rfl) (by kernel_rfl) (OpdL.cons (Opd.tmp 12 (.d (.int .i64 a0))) (OpdL.cons (Opd.tmp 13 (.d (.int .i64 a1))) (OpdL.cons (Opd.tmp 14 (.d (.int .i64 a2))) (OpdL.cons (Opd.int .i64 (1)) OpdL.nil)))))
  (OpJs.cons (OpJ.not (ltN hN rfl) (Opd.tmp 15 (.d (.bool r1))))
  (OpJs.nil)))))) (by rfl) (by rfl) ?_
  refine seqQ_n ?_
  refine AWp.ghost (Mat.pat [] [(0, (.d (.int .i64 a0))), (1, (.d (.int .i64 a1))), (2, (.d (.int .i64 a2))), (3, (.d (.int .i64 a3))), (16, (.d (.bool (!r1))))] [] hB (by rfl) (by rfl) (by rfl)) ?_
  refine AWp.cond (b := (!r1)) (by rfl) (fun hg2 => ?_) (fun hg2 => ?_)
  · replace h := ite_t hg2 h
    refine AWp.seq ?_
    refine AWp.region (OpJs.cons (OpJ.assign (ltN hN rfl) (Opd.int .i64 (0)))
      (OpJs.cons (OpJ.assign (ltN hN rfl) (Opd.int .i64 (1)))
      (OpJs.nil))) (by rfl) (by rfl) ?_
    refine seqQ_n ?_
    refine AWp.ghost (Mat.pat [] [(8, (.d (.int .i64 (0 : Int)))), (9, (.d (.int .i64 (1 : Int))))] [] hB (by rfl) (by rfl) (by rfl)) ?_
    refine AWp.ret ?_
    refine seqQ_r ?_
    obtain rfl := Option.some.inj h
    exact ⟨.inl rfl, _, _, (Mat.pat [] [(8, (.d (.int .i64 (0 : Int)))), (9, (.d (.int .i64 (1 : Int))))] [] hB (by rfl) (by rfl) (by rfl)), [(.d (.int .i64 (0 : Int))), (.d (.int .i64 (1 : Int)))], (Res.tmp (by rfl) (by rfl) (Res.tmp (by rfl) (by rfl) Res.nil)), rfl, by rfl, by rfl, by rfl⟩
  · replace h := ite_f hg2 h
    refine AWp.skip ?_
    refine seqQ_n ?_
    refine AWp.seq ?_
    obtain ⟨r3, hr3, h⟩ := bindS h
    obtain ⟨r4, hr4, h⟩ := bindS h
    refine AWp.region (OpJs.cons (OpJ.callFn hB fnOk21 (interval_pascal_ac  r3 hr3) [(1001, 100180)] (by kernel_rfl) (ltN hN rfl) (by kernel_rfl) OpdL.nil)
      (OpJs.cons (OpJ.move (ltN hN rfl) (Opd.tmp 0 (.d (.int .i64 a0))))
      (OpJs.cons (OpJ.move (ltN hN rfl) (Opd.tmp 1 (.d (.int .i64 a1))))
      (OpJs.cons (OpJ.move (ltN hN rfl) (Opd.tmp 2 (.d (.int .i64 a2))))
      (OpJs.cons (OpJ.move (ltN hN rfl) (Opd.tmp 3 (.d (.int .i64 a3))))
      (OpJs.cons (OpJ.callFn hB fnOk25 (interval_triangle_tails_ac r3 a0 a1 a2 a3 r4 hr4) [(0, 100180)] (by kernel_rfl) (ltN hN rfl) (by kernel_rfl) (OpdL.cons (Opd.tmp 18 (.ptr 100180 0 [])) (OpdL.cons (Opd.tmp 19 (.d (.int .i64 a0))) (OpdL.cons (Opd.tmp 20 (.d (.int .i64 a1))) (OpdL.cons (Opd.tmp 21 (.d (.int .i64 a2))) (OpdL.cons (Opd.tmp 22 (.d (.int .i64 a3))) OpdL.nil))))))
      (OpJs.cons (OpJ.move (ltN hN rfl) (Opd.tmp 23 (.tup [(.d (.int .i64 r4.1)), (.d (.int .i64 r4.2.1))])))
      (OpJs.cons (OpJ.extract (v := (.d (.int .i64 r4.1))) (by rfl) rfl (ltN hN rfl) (Opd.tmp 17 (.tup [(.d (.int .i64 r4.1)), (.d (.int .i64 r4.2.1))])))
      (OpJs.cons (OpJ.extract (v := (.d (.int .i64 r4.2.1))) (by rfl) rfl (ltN hN rfl) (Opd.tmp 17 (.tup [(.d (.int .i64 r4.1)), (.d (.int .i64 r4.2.1))])))
      (OpJs.cons (OpJ.assign (ltN hN rfl) (Opd.tmp 24 (.d (.int .i64 r4.1))))
      (OpJs.cons (OpJ.assign (ltN hN rfl) (Opd.tmp 25 (.d (.int .i64 r4.2.1))))
      (OpJs.nil)))))))))))) (by rfl) (by rfl) ?_
    refine seqQ_n ?_
    refine AWp.ghost (Mat.pat [] [(10, (.d (.int .i64 r4.1)))] [] hB (by rfl) (by rfl) (by rfl)) ?_
    refine AWp.seq ?_
    refine AWp.region (OpJs.cons (OpJ.move (ltN hN rfl) (Opd.tmp 10 (.d (.int .i64 r4.1))))
      (OpJs.cons (OpJ.assign (ltN hN rfl) (Opd.tmp 26 (.d (.int .i64 r4.1))))
      (OpJs.cons (OpJ.assign (ltN hN rfl) (Opd.int .i64 (0)))
      (OpJs.nil)))) (by rfl) (by rfl) ?_
    refine seqQ_n ?_
    refine AWp.ghost (Mat.pat [] [(8, (.d (.int .i64 r4.1))), (9, (.d (.int .i64 (0 : Int))))] [] hB (by rfl) (by rfl) (by rfl)) ?_
    refine AWp.ret ?_
    obtain rfl := Option.some.inj h
    exact ⟨.inl rfl, _, _, (Mat.pat [] [(8, (.d (.int .i64 r4.1))), (9, (.d (.int .i64 (0 : Int))))] [] hB (by rfl) (by rfl) (by rfl)), [(.d (.int .i64 r4.1)), (.d (.int .i64 (0 : Int)))], (Res.tmp (by rfl) (by rfl) (Res.tmp (by rfl) (by rfl) Res.nil)), rfl, by rfl, by rfl, by rfl⟩

noncomputable def exchangepointref39_bad (a0 : Int) (a1 : Int) (a2 : Int) : Option (Bool) :=
  some ((((((decide (a0 < (0 : Int))) || (decide ((60 : Int) < a0))) || (decide (a1 < (0 : Int)))) || (decide (a0 < a1))) || (decide (a2 < (0 : Int)))) || (decide (a0 < a2)))
set_option maxHeartbeats 4000000 in
set_option maxRecDepth 100000 in
theorem exchangepointref39_bad_ac (a0 : Int) (a1 : Int) (a2 : Int) (r : Bool) (h : exchangepointref39_bad a0 a1 a2 = some r) : AC Try.prog 26 [(.d (.int .i64 a0)), (.d (.int .i64 a1)), (.d (.int .i64 a2))] [] (.d (.bool r)) [] := by
  refine AC.of_code2 Try.func26 rfl rfl (Nat.le_of_ble_eq_true (by rfl)) fun B hB hN => ?_
  delta exchangepointref39_bad at h
  refine AWp.seq ?_
  refine AWp.region (OpJs.cons (OpJ.assign (ltN hN rfl) (Opd.bool false))
  (OpJs.nil)) (by rfl) (by rfl) ?_
  refine seqQ_n ?_
  refine AWp.ghost (Mat.pat [] [(0, (.d (.int .i64 a0))), (1, (.d (.int .i64 a1))), (2, (.d (.int .i64 a2)))] [] hB (by rfl) (by rfl) (by rfl)) ?_
  refine AWp.seq ?_
  refine AWp.region (OpJs.cons (OpJ.move (ltN hN rfl) (Opd.tmp 0 (.d (.int .i64 a0))))
  (OpJs.cons (OpJ.lss (ltN hN rfl) (Opd.tmp 7 (.d (.int .i64 a0))) (Opd.int .i64 (0)))
  (OpJs.cons (OpJ.move (ltN hN rfl) (Opd.tmp 8 (.d (.bool (decide (a0 < (0 : Int)))))))
  (OpJs.cons (OpJ.opt' (v := (.d (.int .i64 a0))) (OpJ.move (ltN hN rfl) (Opd.tmp 0 (.d (.int .i64 a0)))) (by rfl) (GuardV.plain _) (ltN hN rfl) (by rfl) (by rfl) (by rfl) (by rfl) (OptL.keep rfl OptL.nil))
  (OpJs.cons (OpJ.opt' (v := (.d (.bool (decide ((60 : Int) < a0))))) (OpJ.gtr (ltN hN rfl) (Opd.tmp 10 (.d (.int .i64 a0))) (Opd.int .i64 (60))) (by rfl) (GuardV.plain _) (ltN hN rfl) (by rfl) (by rfl) (by rfl) (by rfl) (OptL.opt OptL.nil))
  (OpJs.cons (OpJ.pickOr rfl (ltN hN rfl) (Opd.tmp 9 (.d (.bool (decide (a0 < (0 : Int)))))) (Opd.tmp 11 (.opt ((decide (a0 < (0 : Int))) == false) (.d (.bool (decide ((60 : Int) < a0)))))))
  (OpJs.cons (OpJ.move (ltN hN rfl) (Opd.tmp 12 (.d (.bool ((decide (a0 < (0 : Int))) || (decide ((60 : Int) < a0)))))))
  (OpJs.cons (OpJ.opt' (v := (.d (.int .i64 a1))) (OpJ.move (ltN hN rfl) (Opd.tmp 1 (.d (.int .i64 a1)))) (by rfl) (GuardV.plain _) (ltN hN rfl) (by rfl) (by rfl) (by rfl) (by rfl) (OptL.keep rfl OptL.nil))
  (OpJs.cons (OpJ.opt' (v := (.d (.bool (decide (a1 < (0 : Int)))))) (OpJ.lss (ltN hN rfl) (Opd.tmp 14 (.d (.int .i64 a1))) (Opd.int .i64 (0))) (by rfl) (GuardV.plain _) (ltN hN rfl) (by rfl) (by rfl) (by rfl) (by rfl) (OptL.opt OptL.nil))
  (OpJs.cons (OpJ.pickOr rfl (ltN hN rfl) (Opd.tmp 13 (.d (.bool ((decide (a0 < (0 : Int))) || (decide ((60 : Int) < a0)))))) (Opd.tmp 15 (.opt (((decide (a0 < (0 : Int))) || (decide ((60 : Int) < a0))) == false) (.d (.bool (decide (a1 < (0 : Int))))))))
  (OpJs.cons (OpJ.move (ltN hN rfl) (Opd.tmp 16 (.d (.bool (((decide (a0 < (0 : Int))) || (decide ((60 : Int) < a0))) || (decide (a1 < (0 : Int))))))))
  (OpJs.cons (OpJ.opt' (v := (.d (.int .i64 a1))) (OpJ.move (ltN hN rfl) (Opd.tmp 1 (.d (.int .i64 a1)))) (by rfl) (GuardV.plain _) (ltN hN rfl) (by rfl) (by rfl) (by rfl) (by rfl) (OptL.keep rfl OptL.nil))
  (OpJs.cons (OpJ.opt' (v := (.d (.int .i64 a0))) (OpJ.move (ltN hN rfl) (Opd.tmp 0 (.d (.int .i64 a0)))) (by rfl) (GuardV.plain _) (ltN hN rfl) (by rfl) (by rfl) (by rfl) (by rfl) (OptL.keep rfl OptL.nil))
  (OpJs.cons (OpJ.opt' (v := (.d (.bool (decide (a0 < a1))))) (OpJ.gtr (ltN hN rfl) (Opd.tmp 18 (.d (.int .i64 a1))) (Opd.tmp 19 (.d (.int .i64 a0)))) (by rfl) (GuardV.plain _) (ltN hN rfl) (by rfl) (by rfl) (by rfl) (by rfl) (OptL.opt (OptL.opt OptL.nil)))
  (OpJs.cons (OpJ.pickOr rfl (ltN hN rfl) (Opd.tmp 17 (.d (.bool (((decide (a0 < (0 : Int))) || (decide ((60 : Int) < a0))) || (decide (a1 < (0 : Int))))))) (Opd.tmp 20 (.opt ((((decide (a0 < (0 : Int))) || (decide ((60 : Int) < a0))) || (decide (a1 < (0 : Int)))) == false) (.d (.bool (decide (a0 < a1)))))))
  (OpJs.cons (OpJ.move (ltN hN rfl) (Opd.tmp 21 (.d (.bool ((((decide (a0 < (0 : Int))) || (decide ((60 : Int) < a0))) || (decide (a1 < (0 : Int)))) || (decide (a0 < a1)))))))
  (OpJs.cons (OpJ.opt' (v := (.d (.int .i64 a2))) (OpJ.move (ltN hN rfl) (Opd.tmp 2 (.d (.int .i64 a2)))) (by rfl) (GuardV.plain _) (ltN hN rfl) (by rfl) (by rfl) (by rfl) (by rfl) (OptL.keep rfl OptL.nil))
  (OpJs.cons (OpJ.opt' (v := (.d (.bool (decide (a2 < (0 : Int)))))) (OpJ.lss (ltN hN rfl) (Opd.tmp 23 (.d (.int .i64 a2))) (Opd.int .i64 (0))) (by rfl) (GuardV.plain _) (ltN hN rfl) (by rfl) (by rfl) (by rfl) (by rfl) (OptL.opt OptL.nil))
  (OpJs.cons (OpJ.pickOr rfl (ltN hN rfl) (Opd.tmp 22 (.d (.bool ((((decide (a0 < (0 : Int))) || (decide ((60 : Int) < a0))) || (decide (a1 < (0 : Int)))) || (decide (a0 < a1)))))) (Opd.tmp 24 (.opt (((((decide (a0 < (0 : Int))) || (decide ((60 : Int) < a0))) || (decide (a1 < (0 : Int)))) || (decide (a0 < a1))) == false) (.d (.bool (decide (a2 < (0 : Int))))))))
  (OpJs.cons (OpJ.move (ltN hN rfl) (Opd.tmp 25 (.d (.bool (((((decide (a0 < (0 : Int))) || (decide ((60 : Int) < a0))) || (decide (a1 < (0 : Int)))) || (decide (a0 < a1))) || (decide (a2 < (0 : Int))))))))
  (OpJs.cons (OpJ.opt' (v := (.d (.int .i64 a2))) (OpJ.move (ltN hN rfl) (Opd.tmp 2 (.d (.int .i64 a2)))) (by rfl) (GuardV.plain _) (ltN hN rfl) (by rfl) (by rfl) (by rfl) (by rfl) (OptL.keep rfl OptL.nil))
  (OpJs.cons (OpJ.opt' (v := (.d (.int .i64 a0))) (OpJ.move (ltN hN rfl) (Opd.tmp 0 (.d (.int .i64 a0)))) (by rfl) (GuardV.plain _) (ltN hN rfl) (by rfl) (by rfl) (by rfl) (by rfl) (OptL.keep rfl OptL.nil))
  (OpJs.cons (OpJ.opt' (v := (.d (.bool (decide (a0 < a2))))) (OpJ.gtr (ltN hN rfl) (Opd.tmp 27 (.d (.int .i64 a2))) (Opd.tmp 28 (.d (.int .i64 a0)))) (by rfl) (GuardV.plain _) (ltN hN rfl) (by rfl) (by rfl) (by rfl) (by rfl) (OptL.opt (OptL.opt OptL.nil)))
  (OpJs.cons (OpJ.pickOr rfl (ltN hN rfl) (Opd.tmp 26 (.d (.bool (((((decide (a0 < (0 : Int))) || (decide ((60 : Int) < a0))) || (decide (a1 < (0 : Int)))) || (decide (a0 < a1))) || (decide (a2 < (0 : Int))))))) (Opd.tmp 29 (.opt ((((((decide (a0 < (0 : Int))) || (decide ((60 : Int) < a0))) || (decide (a1 < (0 : Int)))) || (decide (a0 < a1))) || (decide (a2 < (0 : Int)))) == false) (.d (.bool (decide (a0 < a2)))))))
  (OpJs.cons (OpJ.assign (ltN hN rfl) (Opd.tmp 30 (.d (.bool ((((((decide (a0 < (0 : Int))) || (decide ((60 : Int) < a0))) || (decide (a1 < (0 : Int)))) || (decide (a0 < a1))) || (decide (a2 < (0 : Int)))) || (decide (a0 < a2)))))))
  (OpJs.nil)))))))))))))))))))))))))) (by rfl) (by rfl) ?_
  refine seqQ_n ?_
  refine AWp.ghost (Mat.pat [] [(6, (.d (.bool ((((((decide (a0 < (0 : Int))) || (decide ((60 : Int) < a0))) || (decide (a1 < (0 : Int)))) || (decide (a0 < a1))) || (decide (a2 < (0 : Int)))) || (decide (a0 < a2))))))] [] hB (by rfl) (by rfl) (by rfl)) ?_
  refine AWp.ret ?_
  obtain rfl := Option.some.inj h
  exact ⟨.inl rfl, _, _, (Mat.pat [] [(6, (.d (.bool ((((((decide (a0 < (0 : Int))) || (decide ((60 : Int) < a0))) || (decide (a1 < (0 : Int)))) || (decide (a0 < a1))) || (decide (a2 < (0 : Int)))) || (decide (a0 < a2))))))] [] hB (by rfl) (by rfl) (by rfl)), [(.d (.bool ((((((decide (a0 < (0 : Int))) || (decide ((60 : Int) < a0))) || (decide (a1 < (0 : Int)))) || (decide (a0 < a1))) || (decide (a2 < (0 : Int)))) || (decide (a0 < a2)))))], (Res.tmp (by rfl) (by rfl) Res.nil), rfl, by rfl, by rfl, by rfl⟩

noncomputable def exchangepointref39_exactly (a0 : Int) (a1 : Int) (a2 : Int) (a3 : Int) : Option (Int) :=
  (exchangepointref39_choose a2 a3).bind fun r1 =>
  (exchangepointref39_choose (w64 (a0 - a2)) (w64 (a1 - a3))).bind fun r2 =>
  some (w64 (r1 * r2))
set_option maxHeartbeats 4000000 in
set_option maxRecDepth 100000 in
theorem exchangepointref39_exactly_ac (a0 : Int) (a1 : Int) (a2 : Int) (a3 : Int) (r : Int) (h : exchangepointref39_exactly a0 a1 a2 a3 = some r) : AC Try.prog 27 [(.d (.int .i64 a0)), (.d (.int .i64 a1)), (.d (.int .i64 a2)), (.d (.int .i64 a3))] [] (.d (.int .i64 r)) [] := by
  refine AC.of_code2 Try.func27 rfl rfl (Nat.le_of_ble_eq_true (by rfl)) fun B hB hN => ?_
  delta exchangepointref39_exactly at h
  refine AWp.seq ?_
  refine AWp.region (OpJs.cons (OpJ.assign (ltN hN rfl) (Opd.int .i64 (0)))
  (OpJs.nil)) (by rfl) (by rfl) ?_
  refine seqQ_n ?_
  refine AWp.ghost (Mat.pat [] [(0, (.d (.int .i64 a0))), (1, (.d (.int .i64 a1))), (2, (.d (.int .i64 a2))), (3, (.d (.int .i64 a3)))] [] hB (by rfl) (by rfl) (by rfl)) ?_
  refine AWp.seq ?_
  obtain ⟨r1, hr1, h⟩ := bindS h
  obtain ⟨r2, hr2, h⟩ := bindS h
  refine AWp.region (OpJs.cons (OpJ.move (ltN hN rfl) (Opd.tmp 2 (.d (.int .i64 a2))))
  (OpJs.cons (OpJ.move (ltN hN rfl) (Opd.tmp 3 (.d (.int .i64 a3))))
  (OpJs.cons (OpJ.callFn hB fnOk23 (exchangepointref39_choose_ac a2 a3 r1 hr1) [] (by kernel_rfl) (ltN hN rfl) (by kernel_rfl) (OpdL.cons (Opd.tmp 9 (.d (.int .i64 a2))) (OpdL.cons (Opd.tmp 10 (.d (.int .i64 a3))) OpdL.nil)))
  (OpJs.cons (OpJ.move (ltN hN rfl) (Opd.tmp 0 (.d (.int .i64 a0))))
  (OpJs.cons (OpJ.move (ltN hN rfl) (Opd.tmp 2 (.d (.int .i64 a2))))
  (OpJs.cons (OpJ.sub (ltN hN rfl) (Opd.tmp 12 (.d (.int .i64 a0))) (Opd.tmp 13 (.d (.int .i64 a2))))
  (OpJs.cons (OpJ.move (ltN hN rfl) (Opd.tmp 1 (.d (.int .i64 a1))))
  (OpJs.cons (OpJ.move (ltN hN rfl) (Opd.tmp 3 (.d (.int .i64 a3))))
  (OpJs.cons (OpJ.sub (ltN hN rfl) (Opd.tmp 15 (.d (.int .i64 a1))) (Opd.tmp 16 (.d (.int .i64 a3))))
  (OpJs.cons (OpJ.callFn hB fnOk23 (exchangepointref39_choose_ac (w64 (a0 - a2)) (w64 (a1 - a3)) r2 hr2) [] (by kernel_rfl) (ltN hN rfl) (by kernel_rfl) (OpdL.cons (Opd.tmp 14 (.d (.int .i64 (w64 (a0 - a2))))) (OpdL.cons (Opd.tmp 17 (.d (.int .i64 (w64 (a1 - a3))))) OpdL.nil)))
  (OpJs.cons (OpJ.mul (ltN hN rfl) (Opd.tmp 11 (.d (.int .i64 r1))) (Opd.tmp 18 (.d (.int .i64 r2))))
  (OpJs.cons (OpJ.assign (ltN hN rfl) (Opd.tmp 19 (.d (.int .i64 (w64 (r1 * r2))))))
  (OpJs.nil))))))))))))) (by rfl) (by rfl) ?_
  refine seqQ_n ?_
  refine AWp.ghost (Mat.pat [] [(8, (.d (.int .i64 (w64 (r1 * r2)))))] [] hB (by rfl) (by rfl) (by rfl)) ?_
  refine AWp.ret ?_
  obtain rfl := Option.some.inj h
  exact ⟨.inl rfl, _, _, (Mat.pat [] [(8, (.d (.int .i64 (w64 (r1 * r2)))))] [] hB (by rfl) (by rfl) (by rfl)), [(.d (.int .i64 (w64 (r1 * r2))))], (Res.tmp (by rfl) (by rfl) Res.nil), rfl, by rfl, by rfl, by rfl⟩

noncomputable def exchangepointref39_AtLeast_L0 (a0 : Int) (a1 : Int) (a2 : Int) (s3 : Int × Int) : Option (((Int)) ⊕ (Int × Int)) :=
  (if (decide (s3.2 ≤ a1)) = true then
  (exchangepointref39_exactly a0 a1 a2 s3.2).bind fun r10 =>
  some (.inr ((w64 (s3.1 + r10)), (w64 (s3.2 + (1 : Int)))))
  else
  some (.inl s3.1))
noncomputable def exchangepointref39_AtLeast (a0 : Int) (a1 : Int) (a2 : Int) (a3 : Int) : Option (Int × Int) :=
  (exchangepointref39_bad a0 a1 a2).bind fun r1 =>
  (if r1 = true then
  some ((0 : Int), (1 : Int))
  else
  (loop (exchangepointref39_AtLeast_L0 a0 a1 a2) ((0 : Int), (maxI a3 (0 : Int)))).bind fun p8 =>
  some (p8, (0 : Int)))
set_option maxHeartbeats 4000000 in
set_option maxRecDepth 100000 in
theorem exchangepointref39_AtLeast_ac (a0 : Int) (a1 : Int) (a2 : Int) (a3 : Int) (r : Int × Int) (h : exchangepointref39_AtLeast a0 a1 a2 a3 = some r) : AC Try.prog 13 [(.d (.int .i64 a0)), (.d (.int .i64 a1)), (.d (.int .i64 a2)), (.d (.int .i64 a3))] [] (.tup [(.d (.int .i64 r.1)), (.d (.int .i64 r.2))]) [] := by
  refine AC.of_code2 Try.func13 rfl rfl (Nat.le_of_ble_eq_true (by rfl)) fun B hB hN => ?_
  delta exchangepointref39_AtLeast at h
  refine AWp.seq ?_
  refine AWp.region (OpJs.cons (OpJ.assign (ltN hN rfl) (Opd.int .i64 (0)))
  (OpJs.cons (OpJ.assign (ltN hN rfl) (Opd.int .i64 (0)))
  (OpJs.nil))) (by rfl) (by rfl) ?_
  refine seqQ_n ?_
  refine AWp.ghost (Mat.pat [] [(0, (.d (.int .i64 a0))), (1, (.d (.int .i64 a1))), (2, (.d (.int .i64 a2))), (3, (.d (.int .i64 a3)))] [] hB (by rfl) (by rfl) (by rfl)) ?_
  refine AWp.seq ?_
  refine AWp.seq ?_
  obtain ⟨r1, hr1, h⟩ := bindS h
  refine AWp.region (OpJs.cons (OpJ.move (ltN hN rfl) (Opd.tmp 0 (.d (.int .i64 a0))))
  (OpJs.cons (OpJ.move (ltN hN rfl) (Opd.tmp 1 (.d (.int .i64 a1))))
  (OpJs.cons (OpJ.move (ltN hN rfl) (Opd.tmp 2 (.d (.int .i64 a2))))
  (OpJs.cons (OpJ.callFn hB fnOk26 (exchangepointref39_bad_ac a0 a1 a2 r1 hr1) [] (by kernel_rfl) (ltN hN rfl) (by kernel_rfl) (OpdL.cons (Opd.tmp 12 (.d (.int .i64 a0))) (OpdL.cons (Opd.tmp 13 (.d (.int .i64 a1))) (OpdL.cons (Opd.tmp 14 (.d (.int .i64 a2))) OpdL.nil))))
  (OpJs.nil))))) (by rfl) (by rfl) ?_
  refine seqQ_n ?_
  refine AWp.ghost (Mat.pat [] [(0, (.d (.int .i64 a0))), (1, (.d (.int .i64 a1))), (2, (.d (.int .i64 a2))), (3, (.d (.int .i64 a3))), (15, (.d (.bool r1)))] [] hB (by rfl) (by rfl) (by rfl)) ?_
  refine AWp.cond (b := r1) (by rfl) (fun hg2 => ?_) (fun hg2 => ?_)
  · replace h := ite_t hg2 h
    refine AWp.seq ?_
    refine AWp.region (OpJs.cons (OpJ.assign (ltN hN rfl) (Opd.int .i64 (0)))
      (OpJs.cons (OpJ.assign (ltN hN rfl) (Opd.int .i64 (1)))
      (OpJs.nil))) (by rfl) (by rfl) ?_
    refine seqQ_n ?_
    refine AWp.ghost (Mat.pat [] [(8, (.d (.int .i64 (0 : Int)))), (9, (.d (.int .i64 (1 : Int))))] [] hB (by rfl) (by rfl) (by rfl)) ?_
    refine AWp.ret ?_
    refine seqQ_r ?_
    obtain rfl := Option.some.inj h
    exact ⟨.inl rfl, _, _, (Mat.pat [] [(8, (.d (.int .i64 (0 : Int)))), (9, (.d (.int .i64 (1 : Int))))] [] hB (by rfl) (by rfl) (by rfl)), [(.d (.int .i64 (0 : Int))), (.d (.int .i64 (1 : Int)))], (Res.tmp (by rfl) (by rfl) (Res.tmp (by rfl) (by rfl) Res.nil)), rfl, by rfl, by rfl, by rfl⟩
  · replace h := ite_f hg2 h
    refine AWp.skip ?_
    refine seqQ_n ?_
    refine AWp.seq ?_
    refine AWp.region (OpJs.cons (OpJ.assign (ltN hN rfl) (Opd.int .i64 (0)))
      (OpJs.nil)) (by rfl) (by rfl) ?_
    refine seqQ_n ?_
    refine AWp.ghost (Mat.pat [] [(0, (.d (.int .i64 a0))), (1, (.d (.int .i64 a1))), (2, (.d (.int .i64 a2))), (3, (.d (.int .i64 a3))), (10, (.d (.int .i64 (0 : Int))))] [] hB (by rfl) (by rfl) (by rfl)) ?_
    refine AWp.seq ?_
    refine AWp.seq ?_
    refine AWp.region (OpJs.cons (OpJ.move (ltN hN rfl) (Opd.tmp 3 (.d (.int .i64 a3))))
      (OpJs.cons (OpJ.max (ltN hN rfl) (Opd.tmp 16 (.d (.int .i64 a3))) (Opd.int .i64 (0)))
      (OpJs.cons (OpJ.assign (ltN hN rfl) (Opd.tmp 17 (.d (.int .i64 (maxI a3 (0 : Int))))))
      (OpJs.nil)))) (by rfl) (by rfl) ?_
    refine seqQ_n ?_
    refine AWp.ghost (Mat.pat [] [(0, (.d (.int .i64 a0))), (1, (.d (.int .i64 a1))), (2, (.d (.int .i64 a2))), (10, (.d (.int .i64 (0 : Int)))), (11, (.d (.int .i64 (maxI a3 (0 : Int)))))] [] hB (by rfl) (by rfl) (by rfl)) ?_
    refine AWp.block ?_
    obtain ⟨p8, hx12, h⟩ := bindS h
    refine AWp.ghost (Mat.pat [] ((fun s3 : Int × Int => ([(0, (.d (.int .i64 a0))), (1, (.d (.int .i64 a1))), (2, (.d (.int .i64 a2))), (10, (.d (.int .i64 s3.1))), (11, (.d (.int .i64 s3.2)))] : EL)) ((0 : Int), (maxI a3 (0 : Int)))) ((fun s3 : Int × Int => ([] : OL)) ((0 : Int), (maxI a3 (0 : Int)))) hB (by rfl) (by rfl) (by rfl)) ?_
    refine AWp.loopS (exchangepointref39_AtLeast_L0 a0 a1 a2) (fun s3 : Int × Int => ([(0, (.d (.int .i64 a0))), (1, (.d (.int .i64 a1))), (2, (.d (.int .i64 a2))), (10, (.d (.int .i64 s3.1))), (11, (.d (.int .i64 s3.2)))] : EL)) (fun s3 : Int × Int => ([] : OL)) (fun (p8 : (Int)) e E' O' => e = .exit 0 ∧ Mat B E' O' ([(10, (.d (.int .i64 p8)))] : EL) ([] : OL)) hx12 (fun s3 y h => ?_) (fun e E' O' hR => ?_)
    · unfold exchangepointref39_AtLeast_L0 at h
      show AWp _ _ _ _ ([(0, (.d (.int .i64 a0))), (1, (.d (.int .i64 a1))), (2, (.d (.int .i64 a2))), (10, (.d (.int .i64 s3.1))), (11, (.d (.int .i64 s3.2)))] : EL) ([] : OL)
      refine AWp.seq ?_
      refine AWp.seq ?_
      refine AWp.region (OpJs.cons (OpJ.move (ltN hN rfl) (Opd.tmp 11 (.d (.int .i64 s3.2))))
        (OpJs.cons (OpJ.move (ltN hN rfl) (Opd.tmp 1 (.d (.int .i64 a1))))
        (OpJs.cons (OpJ.leq (ltN hN rfl) (Opd.tmp 18 (.d (.int .i64 s3.2))) (Opd.tmp 19 (.d (.int .i64 a1))))
        (OpJs.nil)))) (by rfl) (by rfl) ?_
      refine seqQ_n ?_
      refine AWp.ghost (Mat.pat [] [(0, (.d (.int .i64 a0))), (1, (.d (.int .i64 a1))), (2, (.d (.int .i64 a2))), (10, (.d (.int .i64 s3.1))), (11, (.d (.int .i64 s3.2))), (20, (.d (.bool (decide (s3.2 ≤ a1)))))] [] hB (by rfl) (by rfl) (by rfl)) ?_
      refine AWp.cond (b := (decide (s3.2 ≤ a1))) (by rfl) (fun hg9 => ?_) (fun hg9 => ?_)
      · replace h := ite_t hg9 h
        refine AWp.skip ?_
        refine seqQ_n ?_
        refine AWp.seq ?_
        refine AWp.block ?_
        obtain ⟨r10, hr10, h⟩ := bindS h
        refine AWp.region (OpJs.cons (OpJ.move (ltN hN rfl) (Opd.tmp 10 (.d (.int .i64 s3.1))))
          (OpJs.cons (OpJ.move (ltN hN rfl) (Opd.tmp 0 (.d (.int .i64 a0))))
          (OpJs.cons (OpJ.move (ltN hN rfl) (Opd.tmp 1 (.d (.int .i64 a1))))
          (OpJs.cons (OpJ.move (ltN hN rfl) (Opd.tmp 2 (.d (.int .i64 a2))))
          (OpJs.cons (OpJ.move (ltN hN rfl) (Opd.tmp 11 (.d (.int .i64 s3.2))))
          (OpJs.cons (OpJ.callFn hB fnOk27 (exchangepointref39_exactly_ac a0 a1 a2 s3.2 r10 hr10) [] (by kernel_rfl) (ltN hN rfl) (by kernel_rfl) (OpdL.cons (Opd.tmp 24 (.d (.int .i64 a0))) (OpdL.cons (Opd.tmp 25 (.d (.int .i64 a1))) (OpdL.cons (Opd.tmp 26 (.d (.int .i64 a2))) (OpdL.cons (Opd.tmp 27 (.d (.int .i64 s3.2))) OpdL.nil)))))
          (OpJs.cons (OpJ.add (ltN hN rfl) (Opd.tmp 23 (.d (.int .i64 s3.1))) (Opd.tmp 28 (.d (.int .i64 r10))))
          (OpJs.cons (OpJ.assign (ltN hN rfl) (Opd.tmp 29 (.d (.int .i64 (w64 (s3.1 + r10))))))
          (OpJs.nil))))))))) (by rfl) (by rfl) ?_
        refine blkQ_n ?_
        refine seqQ_n ?_
        refine AWp.ghost (Mat.pat [] [(0, (.d (.int .i64 a0))), (1, (.d (.int .i64 a1))), (2, (.d (.int .i64 a2))), (10, (.d (.int .i64 (w64 (s3.1 + r10))))), (11, (.d (.int .i64 s3.2)))] [] hB (by rfl) (by rfl) (by rfl)) ?_
        refine AWp.region (OpJs.cons (OpJ.move (ltN hN rfl) (Opd.tmp 11 (.d (.int .i64 s3.2))))
          (OpJs.cons (OpJ.add (ltN hN rfl) (Opd.tmp 21 (.d (.int .i64 s3.2))) (Opd.int .i64 (1)))
          (OpJs.cons (OpJ.assign (ltN hN rfl) (Opd.tmp 22 (.d (.int .i64 (w64 (s3.2 + (1 : Int)))))))
          (OpJs.nil)))) (by rfl) (by rfl) ?_
        obtain rfl := Option.some.inj h
        exact ⟨rfl, (Mat.trans (Mat.pat [] [(0, (.d (.int .i64 a0))), (1, (.d (.int .i64 a1))), (2, (.d (.int .i64 a2))), (10, (.d (.int .i64 (w64 (s3.1 + r10))))), (11, (.d (.int .i64 (w64 (s3.2 + (1 : Int))))))] [] hB (by rfl) (by rfl) (by rfl)) (Mat.pat [] ((fun s3 : Int × Int => ([(0, (.d (.int .i64 a0))), (1, (.d (.int .i64 a1))), (2, (.d (.int .i64 a2))), (10, (.d (.int .i64 s3.1))), (11, (.d (.int .i64 s3.2)))] : EL)) ((w64 (s3.1 + r10)), (w64 (s3.2 + (1 : Int))))) ((fun s3 : Int × Int => ([] : OL)) ((w64 (s3.1 + r10)), (w64 (s3.2 + (1 : Int))))) hB (by rfl) (by rfl) (by rfl)))⟩
      · replace h := ite_f hg9 h
        refine AWp.exit ?_
        refine seqQ_e ?_
        obtain rfl := Option.some.inj h
        exact ⟨(fun hc => by cases hc), rfl, (Mat.pat [] ((fun p8 : Int => ([(10, (.d (.int .i64 p8)))] : EL)) s3.1) ((fun p8 : Int => ([] : OL)) s3.1) hB (by rfl) (by rfl) (by rfl))⟩
    · obtain ⟨rfl, hmat⟩ := hR
      refine blkQ_hit ?_
      refine seqQ_n ?_
      refine AWp.ghost hmat ?_
      refine AWp.seq ?_
      refine AWp.region (OpJs.cons (OpJ.move (ltN hN rfl) (Opd.tmp 10 (.d (.int .i64 p8))))
        (OpJs.cons (OpJ.assign (ltN hN rfl) (Opd.tmp 30 (.d (.int .i64 p8))))
        (OpJs.cons (OpJ.assign (ltN hN rfl) (Opd.int .i64 (0)))
        (OpJs.nil)))) (by rfl) (by rfl) ?_
      refine seqQ_n ?_
      refine AWp.ghost (Mat.pat [] [(8, (.d (.int .i64 p8))), (9, (.d (.int .i64 (0 : Int))))] [] hB (by rfl) (by rfl) (by rfl)) ?_
      refine AWp.ret ?_
      obtain rfl := Option.some.inj h
      exact ⟨.inl rfl, _, _, (Mat.pat [] [(8, (.d (.int .i64 p8))), (9, (.d (.int .i64 (0 : Int))))] [] hB (by rfl) (by rfl) (by rfl)), [(.d (.int .i64 p8)), (.d (.int .i64 (0 : Int)))], (Res.tmp (by rfl) (by rfl) (Res.tmp (by rfl) (by rfl) Res.nil)), rfl, by rfl, by rfl, by rfl⟩

noncomputable def interval_AtMost (a0 : Int) (a1 : Int) (a2 : Int) (a3 : Int) : Option (Int × Int) :=
  (interval_valid a0 a1 a2 (1 : Int)).bind fun r1 =>
  (if (!r1) = true then
  some ((0 : Int), (1 : Int))
  else
  (interval_pascal).bind fun r3 =>
  (interval_triangle_tails r3 a0 a1 a2 a3).bind fun r4 =>
  some (r4.2.1, (0 : Int)))
set_option maxHeartbeats 4000000 in
set_option maxRecDepth 100000 in
theorem interval_AtMost_ac (a0 : Int) (a1 : Int) (a2 : Int) (a3 : Int) (r : Int × Int) (h : interval_AtMost a0 a1 a2 a3 = some r) : AC Try.prog 14 [(.d (.int .i64 a0)), (.d (.int .i64 a1)), (.d (.int .i64 a2)), (.d (.int .i64 a3))] [] (.tup [(.d (.int .i64 r.1)), (.d (.int .i64 r.2))]) [] := by
  refine AC.of_code2 Try.func14 rfl rfl (Nat.le_of_ble_eq_true (by rfl)) fun B hB hN => ?_
  delta interval_AtMost at h
  refine AWp.seq ?_
  refine AWp.region (OpJs.cons (OpJ.assign (ltN hN rfl) (Opd.int .i64 (0)))
  (OpJs.cons (OpJ.assign (ltN hN rfl) (Opd.int .i64 (0)))
  (OpJs.nil))) (by rfl) (by rfl) ?_
  refine seqQ_n ?_
  refine AWp.ghost (Mat.pat [] [(0, (.d (.int .i64 a0))), (1, (.d (.int .i64 a1))), (2, (.d (.int .i64 a2))), (3, (.d (.int .i64 a3)))] [] hB (by rfl) (by rfl) (by rfl)) ?_
  refine AWp.seq ?_
  refine AWp.seq ?_
  obtain ⟨r1, hr1, h⟩ := bindS h
  refine AWp.region (OpJs.cons (OpJ.move (ltN hN rfl) (Opd.tmp 0 (.d (.int .i64 a0))))
  (OpJs.cons (OpJ.move (ltN hN rfl) (Opd.tmp 1 (.d (.int .i64 a1))))
  (OpJs.cons (OpJ.move (ltN hN rfl) (Opd.tmp 2 (.d (.int .i64 a2))))
  (OpJs.cons (OpJ.callFn hB fnOk24 (interval_valid_ac a0 a1 a2 (1 : Int) r1 hr1) [] (by kernel_rfl) (ltN hN rfl) (by kernel_rfl) (OpdL.cons (Opd.tmp 12 (.d (.int .i64 a0))) (OpdL.cons (Opd.tmp 13 (.d (.int .i64 a1))) (OpdL.cons (Opd.tmp 14 (.d (.int .i64 a2))) (OpdL.cons (Opd.int .i64 (1)) OpdL.nil)))))
  (OpJs.cons (OpJ.not (ltN hN rfl) (Opd.tmp 15 (.d (.bool r1))))
  (OpJs.nil)))))) (by rfl) (by rfl) ?_
  refine seqQ_n ?_
  refine AWp.ghost (Mat.pat [] [(0, (.d (.int .i64 a0))), (1, (.d (.int .i64 a1))), (2, (.d (.int .i64 a2))), (3, (.d (.int .i64 a3))), (16, (.d (.bool (!r1))))] [] hB (by rfl) (by rfl) (by rfl)) ?_
  refine AWp.cond (b := (!r1)) (by rfl) (fun hg2 => ?_) (fun hg2 => ?_)
  · replace h := ite_t hg2 h
    refine AWp.seq ?_
    refine AWp.region (OpJs.cons (OpJ.assign (ltN hN rfl) (Opd.int .i64 (0)))
      (OpJs.cons (OpJ.assign (ltN hN rfl) (Opd.int .i64 (1)))
      (OpJs.nil))) (by rfl) (by rfl) ?_
    refine seqQ_n ?_
    refine AWp.ghost (Mat.pat [] [(8, (.d (.int .i64 (0 : Int)))), (9, (.d (.int .i64 (1 : Int))))] [] hB (by rfl) (by rfl) (by rfl)) ?_
    refine AWp.ret ?_
    refine seqQ_r ?_
    obtain rfl := Option.some.inj h
    exact ⟨.inl rfl, _, _, (Mat.pat [] [(8, (.d (.int .i64 (0 : Int)))), (9, (.d (.int .i64 (1 : Int))))] [] hB (by rfl) (by rfl) (by rfl)), [(.d (.int .i64 (0 : Int))), (.d (.int .i64 (1 : Int)))], (Res.tmp (by rfl) (by rfl) (Res.tmp (by rfl) (by rfl) Res.nil)), rfl, by rfl, by rfl, by rfl⟩
  · replace h := ite_f hg2 h
    refine AWp.skip ?_
    refine seqQ_n ?_
    refine AWp.seq ?_
    obtain ⟨r3, hr3, h⟩ := bindS h
    obtain ⟨r4, hr4, h⟩ := bindS h
    refine AWp.region (OpJs.cons (OpJ.callFn hB fnOk21 (interval_pascal_ac  r3 hr3) [(1001, 100180)] (by kernel_rfl) (ltN hN rfl) (by kernel_rfl) OpdL.nil)
      (OpJs.cons (OpJ.move (ltN hN rfl) (Opd.tmp 0 (.d (.int .i64 a0))))
      (OpJs.cons (OpJ.move (ltN hN rfl) (Opd.tmp 1 (.d (.int .i64 a1))))
      (OpJs.cons (OpJ.move (ltN hN rfl) (Opd.tmp 2 (.d (.int .i64 a2))))
      (OpJs.cons (OpJ.move (ltN hN rfl) (Opd.tmp 3 (.d (.int .i64 a3))))
      (OpJs.cons (OpJ.callFn hB fnOk25 (interval_triangle_tails_ac r3 a0 a1 a2 a3 r4 hr4) [(0, 100180)] (by kernel_rfl) (ltN hN rfl) (by kernel_rfl) (OpdL.cons (Opd.tmp 18 (.ptr 100180 0 [])) (OpdL.cons (Opd.tmp 19 (.d (.int .i64 a0))) (OpdL.cons (Opd.tmp 20 (.d (.int .i64 a1))) (OpdL.cons (Opd.tmp 21 (.d (.int .i64 a2))) (OpdL.cons (Opd.tmp 22 (.d (.int .i64 a3))) OpdL.nil))))))
      (OpJs.cons (OpJ.move (ltN hN rfl) (Opd.tmp 23 (.tup [(.d (.int .i64 r4.1)), (.d (.int .i64 r4.2.1))])))
      (OpJs.cons (OpJ.extract (v := (.d (.int .i64 r4.1))) (by rfl) rfl (ltN hN rfl) (Opd.tmp 17 (.tup [(.d (.int .i64 r4.1)), (.d (.int .i64 r4.2.1))])))
      (OpJs.cons (OpJ.extract (v := (.d (.int .i64 r4.2.1))) (by rfl) rfl (ltN hN rfl) (Opd.tmp 17 (.tup [(.d (.int .i64 r4.1)), (.d (.int .i64 r4.2.1))])))
      (OpJs.cons (OpJ.assign (ltN hN rfl) (Opd.tmp 24 (.d (.int .i64 r4.1))))
      (OpJs.cons (OpJ.assign (ltN hN rfl) (Opd.tmp 25 (.d (.int .i64 r4.2.1))))
      (OpJs.nil)))))))))))) (by rfl) (by rfl) ?_
    refine seqQ_n ?_
    refine AWp.ghost (Mat.pat [] [(11, (.d (.int .i64 r4.2.1)))] [] hB (by rfl) (by rfl) (by rfl)) ?_
    refine AWp.seq ?_
    refine AWp.region (OpJs.cons (OpJ.move (ltN hN rfl) (Opd.tmp 11 (.d (.int .i64 r4.2.1))))
      (OpJs.cons (OpJ.assign (ltN hN rfl) (Opd.tmp 26 (.d (.int .i64 r4.2.1))))
      (OpJs.cons (OpJ.assign (ltN hN rfl) (Opd.int .i64 (0)))
      (OpJs.nil)))) (by rfl) (by rfl) ?_
    refine seqQ_n ?_
    refine AWp.ghost (Mat.pat [] [(8, (.d (.int .i64 r4.2.1))), (9, (.d (.int .i64 (0 : Int))))] [] hB (by rfl) (by rfl) (by rfl)) ?_
    refine AWp.ret ?_
    obtain rfl := Option.some.inj h
    exact ⟨.inl rfl, _, _, (Mat.pat [] [(8, (.d (.int .i64 r4.2.1))), (9, (.d (.int .i64 (0 : Int))))] [] hB (by rfl) (by rfl) (by rfl)), [(.d (.int .i64 r4.2.1)), (.d (.int .i64 (0 : Int)))], (Res.tmp (by rfl) (by rfl) (Res.tmp (by rfl) (by rfl) Res.nil)), rfl, by rfl, by rfl, by rfl⟩

noncomputable def exchangepointref39_AtMost_L0 (a0 : Int) (a1 : Int) (a2 : Int) (a3 : Int) (s3 : Int × Int) : Option (((Int)) ⊕ (Int × Int)) :=
  (if (decide (s3.2 ≤ (minI a3 a1))) = true then
  (exchangepointref39_exactly a0 a1 a2 s3.2).bind fun r10 =>
  some (.inr ((w64 (s3.1 + r10)), (w64 (s3.2 + (1 : Int)))))
  else
  some (.inl s3.1))
noncomputable def exchangepointref39_AtMost (a0 : Int) (a1 : Int) (a2 : Int) (a3 : Int) : Option (Int × Int) :=
  (exchangepointref39_bad a0 a1 a2).bind fun r1 =>
  (if r1 = true then
  some ((0 : Int), (1 : Int))
  else
  (loop (exchangepointref39_AtMost_L0 a0 a1 a2 a3) ((0 : Int), (0 : Int))).bind fun p8 =>
  some (p8, (0 : Int)))
set_option maxHeartbeats 4000000 in
set_option maxRecDepth 100000 in
theorem exchangepointref39_AtMost_ac (a0 : Int) (a1 : Int) (a2 : Int) (a3 : Int) (r : Int × Int) (h : exchangepointref39_AtMost a0 a1 a2 a3 = some r) : AC Try.prog 15 [(.d (.int .i64 a0)), (.d (.int .i64 a1)), (.d (.int .i64 a2)), (.d (.int .i64 a3))] [] (.tup [(.d (.int .i64 r.1)), (.d (.int .i64 r.2))]) [] := by
  refine AC.of_code2 Try.func15 rfl rfl (Nat.le_of_ble_eq_true (by rfl)) fun B hB hN => ?_
  delta exchangepointref39_AtMost at h
  refine AWp.seq ?_
  refine AWp.region (OpJs.cons (OpJ.assign (ltN hN rfl) (Opd.int .i64 (0)))
  (OpJs.cons (OpJ.assign (ltN hN rfl) (Opd.int .i64 (0)))
  (OpJs.nil))) (by rfl) (by rfl) ?_
  refine seqQ_n ?_
  refine AWp.ghost (Mat.pat [] [(0, (.d (.int .i64 a0))), (1, (.d (.int .i64 a1))), (2, (.d (.int .i64 a2))), (3, (.d (.int .i64 a3)))] [] hB (by rfl) (by rfl) (by rfl)) ?_
  refine AWp.seq ?_
  refine AWp.seq ?_
  obtain ⟨r1, hr1, h⟩ := bindS h
  refine AWp.region (OpJs.cons (OpJ.move (ltN hN rfl) (Opd.tmp 0 (.d (.int .i64 a0))))
  (OpJs.cons (OpJ.move (ltN hN rfl) (Opd.tmp 1 (.d (.int .i64 a1))))
  (OpJs.cons (OpJ.move (ltN hN rfl) (Opd.tmp 2 (.d (.int .i64 a2))))
  (OpJs.cons (OpJ.callFn hB fnOk26 (exchangepointref39_bad_ac a0 a1 a2 r1 hr1) [] (by kernel_rfl) (ltN hN rfl) (by kernel_rfl) (OpdL.cons (Opd.tmp 12 (.d (.int .i64 a0))) (OpdL.cons (Opd.tmp 13 (.d (.int .i64 a1))) (OpdL.cons (Opd.tmp 14 (.d (.int .i64 a2))) OpdL.nil))))
  (OpJs.nil))))) (by rfl) (by rfl) ?_
  refine seqQ_n ?_
  refine AWp.ghost (Mat.pat [] [(0, (.d (.int .i64 a0))), (1, (.d (.int .i64 a1))), (2, (.d (.int .i64 a2))), (3, (.d (.int .i64 a3))), (15, (.d (.bool r1)))] [] hB (by rfl) (by rfl) (by rfl)) ?_
  refine AWp.cond (b := r1) (by rfl) (fun hg2 => ?_) (fun hg2 => ?_)
  · replace h := ite_t hg2 h
    refine AWp.seq ?_
    refine AWp.region (OpJs.cons (OpJ.assign (ltN hN rfl) (Opd.int .i64 (0)))
      (OpJs.cons (OpJ.assign (ltN hN rfl) (Opd.int .i64 (1)))
      (OpJs.nil))) (by rfl) (by rfl) ?_
    refine seqQ_n ?_
    refine AWp.ghost (Mat.pat [] [(8, (.d (.int .i64 (0 : Int)))), (9, (.d (.int .i64 (1 : Int))))] [] hB (by rfl) (by rfl) (by rfl)) ?_
    refine AWp.ret ?_
    refine seqQ_r ?_
    obtain rfl := Option.some.inj h
    exact ⟨.inl rfl, _, _, (Mat.pat [] [(8, (.d (.int .i64 (0 : Int)))), (9, (.d (.int .i64 (1 : Int))))] [] hB (by rfl) (by rfl) (by rfl)), [(.d (.int .i64 (0 : Int))), (.d (.int .i64 (1 : Int)))], (Res.tmp (by rfl) (by rfl) (Res.tmp (by rfl) (by rfl) Res.nil)), rfl, by rfl, by rfl, by rfl⟩
  · replace h := ite_f hg2 h
    refine AWp.skip ?_
    refine seqQ_n ?_
    refine AWp.seq ?_
    refine AWp.region (OpJs.cons (OpJ.assign (ltN hN rfl) (Opd.int .i64 (0)))
      (OpJs.nil)) (by rfl) (by rfl) ?_
    refine seqQ_n ?_
    refine AWp.ghost (Mat.pat [] [(0, (.d (.int .i64 a0))), (1, (.d (.int .i64 a1))), (2, (.d (.int .i64 a2))), (3, (.d (.int .i64 a3))), (10, (.d (.int .i64 (0 : Int))))] [] hB (by rfl) (by rfl) (by rfl)) ?_
    refine AWp.seq ?_
    refine AWp.seq ?_
    refine AWp.region (OpJs.cons (OpJ.assign (ltN hN rfl) (Opd.int .i64 (0)))
      (OpJs.nil)) (by rfl) (by rfl) ?_
    refine seqQ_n ?_
    refine AWp.ghost (Mat.pat [] [(0, (.d (.int .i64 a0))), (1, (.d (.int .i64 a1))), (2, (.d (.int .i64 a2))), (3, (.d (.int .i64 a3))), (10, (.d (.int .i64 (0 : Int)))), (11, (.d (.int .i64 (0 : Int))))] [] hB (by rfl) (by rfl) (by rfl)) ?_
    refine AWp.block ?_
    obtain ⟨p8, hx12, h⟩ := bindS h
    refine AWp.ghost (Mat.pat [] ((fun s3 : Int × Int => ([(0, (.d (.int .i64 a0))), (1, (.d (.int .i64 a1))), (2, (.d (.int .i64 a2))), (3, (.d (.int .i64 a3))), (10, (.d (.int .i64 s3.1))), (11, (.d (.int .i64 s3.2)))] : EL)) ((0 : Int), (0 : Int))) ((fun s3 : Int × Int => ([] : OL)) ((0 : Int), (0 : Int))) hB (by rfl) (by rfl) (by rfl)) ?_
    refine AWp.loopS (exchangepointref39_AtMost_L0 a0 a1 a2 a3) (fun s3 : Int × Int => ([(0, (.d (.int .i64 a0))), (1, (.d (.int .i64 a1))), (2, (.d (.int .i64 a2))), (3, (.d (.int .i64 a3))), (10, (.d (.int .i64 s3.1))), (11, (.d (.int .i64 s3.2)))] : EL)) (fun s3 : Int × Int => ([] : OL)) (fun (p8 : (Int)) e E' O' => e = .exit 0 ∧ Mat B E' O' ([(10, (.d (.int .i64 p8)))] : EL) ([] : OL)) hx12 (fun s3 y h => ?_) (fun e E' O' hR => ?_)
    · unfold exchangepointref39_AtMost_L0 at h
      show AWp _ _ _ _ ([(0, (.d (.int .i64 a0))), (1, (.d (.int .i64 a1))), (2, (.d (.int .i64 a2))), (3, (.d (.int .i64 a3))), (10, (.d (.int .i64 s3.1))), (11, (.d (.int .i64 s3.2)))] : EL) ([] : OL)
      refine AWp.seq ?_
      refine AWp.seq ?_
      refine AWp.region (OpJs.cons (OpJ.move (ltN hN rfl) (Opd.tmp 11 (.d (.int .i64 s3.2))))
        (OpJs.cons (OpJ.move (ltN hN rfl) (Opd.tmp 3 (.d (.int .i64 a3))))
        (OpJs.cons (OpJ.move (ltN hN rfl) (Opd.tmp 1 (.d (.int .i64 a1))))
        (OpJs.cons (OpJ.min (ltN hN rfl) (Opd.tmp 17 (.d (.int .i64 a3))) (Opd.tmp 18 (.d (.int .i64 a1))))
        (OpJs.cons (OpJ.leq (ltN hN rfl) (Opd.tmp 16 (.d (.int .i64 s3.2))) (Opd.tmp 19 (.d (.int .i64 (minI a3 a1)))))
        (OpJs.nil)))))) (by rfl) (by rfl) ?_
      refine seqQ_n ?_
      refine AWp.ghost (Mat.pat [] [(0, (.d (.int .i64 a0))), (1, (.d (.int .i64 a1))), (2, (.d (.int .i64 a2))), (3, (.d (.int .i64 a3))), (10, (.d (.int .i64 s3.1))), (11, (.d (.int .i64 s3.2))), (20, (.d (.bool (decide (s3.2 ≤ (minI a3 a1))))))] [] hB (by rfl) (by rfl) (by rfl)) ?_
      refine AWp.cond (b := (decide (s3.2 ≤ (minI a3 a1)))) (by rfl) (fun hg9 => ?_) (fun hg9 => ?_)
      · replace h := ite_t hg9 h
        refine AWp.skip ?_
        refine seqQ_n ?_
        refine AWp.seq ?_
        refine AWp.block ?_
        obtain ⟨r10, hr10, h⟩ := bindS h
        refine AWp.region (OpJs.cons (OpJ.move (ltN hN rfl) (Opd.tmp 10 (.d (.int .i64 s3.1))))
          (OpJs.cons (OpJ.move (ltN hN rfl) (Opd.tmp 0 (.d (.int .i64 a0))))
          (OpJs.cons (OpJ.move (ltN hN rfl) (Opd.tmp 1 (.d (.int .i64 a1))))
          (OpJs.cons (OpJ.move (ltN hN rfl) (Opd.tmp 2 (.d (.int .i64 a2))))
          (OpJs.cons (OpJ.move (ltN hN rfl) (Opd.tmp 11 (.d (.int .i64 s3.2))))
          (OpJs.cons (OpJ.callFn hB fnOk27 (exchangepointref39_exactly_ac a0 a1 a2 s3.2 r10 hr10) [] (by kernel_rfl) (ltN hN rfl) (by kernel_rfl) (OpdL.cons (Opd.tmp 24 (.d (.int .i64 a0))) (OpdL.cons (Opd.tmp 25 (.d (.int .i64 a1))) (OpdL.cons (Opd.tmp 26 (.d (.int .i64 a2))) (OpdL.cons (Opd.tmp 27 (.d (.int .i64 s3.2))) OpdL.nil)))))
          (OpJs.cons (OpJ.add (ltN hN rfl) (Opd.tmp 23 (.d (.int .i64 s3.1))) (Opd.tmp 28 (.d (.int .i64 r10))))
          (OpJs.cons (OpJ.assign (ltN hN rfl) (Opd.tmp 29 (.d (.int .i64 (w64 (s3.1 + r10))))))
          (OpJs.nil))))))))) (by rfl) (by rfl) ?_
        refine blkQ_n ?_
        refine seqQ_n ?_
        refine AWp.ghost (Mat.pat [] [(0, (.d (.int .i64 a0))), (1, (.d (.int .i64 a1))), (2, (.d (.int .i64 a2))), (3, (.d (.int .i64 a3))), (10, (.d (.int .i64 (w64 (s3.1 + r10))))), (11, (.d (.int .i64 s3.2)))] [] hB (by rfl) (by rfl) (by rfl)) ?_
        refine AWp.region (OpJs.cons (OpJ.move (ltN hN rfl) (Opd.tmp 11 (.d (.int .i64 s3.2))))
          (OpJs.cons (OpJ.add (ltN hN rfl) (Opd.tmp 21 (.d (.int .i64 s3.2))) (Opd.int .i64 (1)))
          (OpJs.cons (OpJ.assign (ltN hN rfl) (Opd.tmp 22 (.d (.int .i64 (w64 (s3.2 + (1 : Int)))))))
          (OpJs.nil)))) (by rfl) (by rfl) ?_
        obtain rfl := Option.some.inj h
        exact ⟨rfl, (Mat.trans (Mat.pat [] [(0, (.d (.int .i64 a0))), (1, (.d (.int .i64 a1))), (2, (.d (.int .i64 a2))), (3, (.d (.int .i64 a3))), (10, (.d (.int .i64 (w64 (s3.1 + r10))))), (11, (.d (.int .i64 (w64 (s3.2 + (1 : Int))))))] [] hB (by rfl) (by rfl) (by rfl)) (Mat.pat [] ((fun s3 : Int × Int => ([(0, (.d (.int .i64 a0))), (1, (.d (.int .i64 a1))), (2, (.d (.int .i64 a2))), (3, (.d (.int .i64 a3))), (10, (.d (.int .i64 s3.1))), (11, (.d (.int .i64 s3.2)))] : EL)) ((w64 (s3.1 + r10)), (w64 (s3.2 + (1 : Int))))) ((fun s3 : Int × Int => ([] : OL)) ((w64 (s3.1 + r10)), (w64 (s3.2 + (1 : Int))))) hB (by rfl) (by rfl) (by rfl)))⟩
      · replace h := ite_f hg9 h
        refine AWp.exit ?_
        refine seqQ_e ?_
        obtain rfl := Option.some.inj h
        exact ⟨(fun hc => by cases hc), rfl, (Mat.pat [] ((fun p8 : Int => ([(10, (.d (.int .i64 p8)))] : EL)) s3.1) ((fun p8 : Int => ([] : OL)) s3.1) hB (by rfl) (by rfl) (by rfl))⟩
    · obtain ⟨rfl, hmat⟩ := hR
      refine blkQ_hit ?_
      refine seqQ_n ?_
      refine AWp.ghost hmat ?_
      refine AWp.seq ?_
      refine AWp.region (OpJs.cons (OpJ.move (ltN hN rfl) (Opd.tmp 10 (.d (.int .i64 p8))))
        (OpJs.cons (OpJ.assign (ltN hN rfl) (Opd.tmp 30 (.d (.int .i64 p8))))
        (OpJs.cons (OpJ.assign (ltN hN rfl) (Opd.int .i64 (0)))
        (OpJs.nil)))) (by rfl) (by rfl) ?_
      refine seqQ_n ?_
      refine AWp.ghost (Mat.pat [] [(8, (.d (.int .i64 p8))), (9, (.d (.int .i64 (0 : Int))))] [] hB (by rfl) (by rfl) (by rfl)) ?_
      refine AWp.ret ?_
      obtain rfl := Option.some.inj h
      exact ⟨.inl rfl, _, _, (Mat.pat [] [(8, (.d (.int .i64 p8))), (9, (.d (.int .i64 (0 : Int))))] [] hB (by rfl) (by rfl) (by rfl)), [(.d (.int .i64 p8)), (.d (.int .i64 (0 : Int)))], (Res.tmp (by rfl) (by rfl) (Res.tmp (by rfl) (by rfl) Res.nil)), rfl, by rfl, by rfl, by rfl⟩

noncomputable def exchangepointlaw39_awake : Option (Bool) :=
  (interval_Choose (5 : Int) (2 : Int)).bind fun r1 =>
  (interval_AtLeast (4 : Int) (2 : Int) (2 : Int) (1 : Int)).bind fun r2 =>
  some ((((r1.2 == (0 : Int)) && (r2.2 == (0 : Int))) && (r1.1 == (10 : Int))) && (r2.1 == (5 : Int)))
set_option maxHeartbeats 4000000 in
set_option maxRecDepth 100000 in
theorem exchangepointlaw39_awake_ac (r : Bool) (h : exchangepointlaw39_awake = some r) : AC Try.prog 16 [] [] (.d (.bool r)) [] := by
  refine AC.of_code2 Try.func16 rfl rfl (Nat.le_of_ble_eq_true (by rfl)) fun B hB hN => ?_
  delta exchangepointlaw39_awake at h
  refine AWp.seq ?_
  refine AWp.region (OpJs.cons (OpJ.assign (ltN hN rfl) (Opd.bool false))
  (OpJs.nil)) (by rfl) (by rfl) ?_
  refine seqQ_n ?_
  refine AWp.ghost (Mat.pat [] [] [] hB (by rfl) (by rfl) (by rfl)) ?_
  refine AWp.seq ?_
  obtain ⟨r1, hr1, h⟩ := bindS h
  refine AWp.region (OpJs.cons (OpJ.callFn hB fnOk10 (interval_Choose_ac (5 : Int) (2 : Int) r1 hr1) [] (by kernel_rfl) (ltN hN rfl) (by kernel_rfl) (OpdL.cons (Opd.int .i64 (5)) (OpdL.cons (Opd.int .i64 (2)) OpdL.nil)))
  (OpJs.cons (OpJ.move (ltN hN rfl) (Opd.tmp 6 (.tup [(.d (.int .i64 r1.1)), (.d (.int .i64 r1.2))])))
  (OpJs.cons (OpJ.extract (v := (.d (.int .i64 r1.1))) (by rfl) rfl (ltN hN rfl) (Opd.tmp 5 (.tup [(.d (.int .i64 r1.1)), (.d (.int .i64 r1.2))])))
  (OpJs.cons (OpJ.extract (v := (.d (.int .i64 r1.2))) (by rfl) rfl (ltN hN rfl) (Opd.tmp 5 (.tup [(.d (.int .i64 r1.1)), (.d (.int .i64 r1.2))])))
  (OpJs.cons (OpJ.assign (ltN hN rfl) (Opd.tmp 7 (.d (.int .i64 r1.1))))
  (OpJs.cons (OpJ.assign (ltN hN rfl) (Opd.tmp 8 (.d (.int .i64 r1.2))))
  (OpJs.nil))))))) (by rfl) (by rfl) ?_
  refine seqQ_n ?_
  refine AWp.ghost (Mat.pat [] [(1, (.d (.int .i64 r1.1))), (2, (.d (.int .i64 r1.2)))] [] hB (by rfl) (by rfl) (by rfl)) ?_
  refine AWp.seq ?_
  obtain ⟨r2, hr2, h⟩ := bindS h
  refine AWp.region (OpJs.cons (OpJ.callFn hB fnOk12 (interval_AtLeast_ac (4 : Int) (2 : Int) (2 : Int) (1 : Int) r2 hr2) [] (by kernel_rfl) (ltN hN rfl) (by kernel_rfl) (OpdL.cons (Opd.int .i64 (4)) (OpdL.cons (Opd.int .i64 (2)) (OpdL.cons (Opd.int .i64 (2)) (OpdL.cons (Opd.int .i64 (1)) OpdL.nil)))))
  (OpJs.cons (OpJ.move (ltN hN rfl) (Opd.tmp 10 (.tup [(.d (.int .i64 r2.1)), (.d (.int .i64 r2.2))])))
  (OpJs.cons (OpJ.extract (v := (.d (.int .i64 r2.1))) (by rfl) rfl (ltN hN rfl) (Opd.tmp 9 (.tup [(.d (.int .i64 r2.1)), (.d (.int .i64 r2.2))])))
  (OpJs.cons (OpJ.extract (v := (.d (.int .i64 r2.2))) (by rfl) rfl (ltN hN rfl) (Opd.tmp 9 (.tup [(.d (.int .i64 r2.1)), (.d (.int .i64 r2.2))])))
  (OpJs.cons (OpJ.assign (ltN hN rfl) (Opd.tmp 11 (.d (.int .i64 r2.1))))
  (OpJs.cons (OpJ.assign (ltN hN rfl) (Opd.tmp 12 (.d (.int .i64 r2.2))))
  (OpJs.nil))))))) (by rfl) (by rfl) ?_
  refine seqQ_n ?_
  refine AWp.ghost (Mat.pat [] [(1, (.d (.int .i64 r1.1))), (2, (.d (.int .i64 r1.2))), (3, (.d (.int .i64 r2.1))), (4, (.d (.int .i64 r2.2)))] [] hB (by rfl) (by rfl) (by rfl)) ?_
  refine AWp.seq ?_
  refine AWp.region (OpJs.cons (OpJ.move (ltN hN rfl) (Opd.tmp 2 (.d (.int .i64 r1.2))))
  (OpJs.cons (OpJ.eqlI (ltN hN rfl) (Opd.tmp 13 (.d (.int .i64 r1.2))) (Opd.int .i64 (0)))
  (OpJs.cons (OpJ.move (ltN hN rfl) (Opd.tmp 14 (.d (.bool (r1.2 == (0 : Int))))))
  (OpJs.cons (OpJ.opt' (v := (.d (.int .i64 r2.2))) (OpJ.move (ltN hN rfl) (Opd.tmp 4 (.d (.int .i64 r2.2)))) (by rfl) (GuardV.plain _) (ltN hN rfl) (by rfl) (by rfl) (by rfl) (by rfl) (OptL.keep rfl OptL.nil))
  (OpJs.cons (OpJ.opt' (v := (.d (.bool (r2.2 == (0 : Int))))) (OpJ.eqlI (ltN hN rfl) (Opd.tmp 16 (.d (.int .i64 r2.2))) (Opd.int .i64 (0))) (by rfl) (GuardV.plain _) (ltN hN rfl) (by rfl) (by rfl) (by rfl) (by rfl) (OptL.opt OptL.nil))
  (OpJs.cons (OpJ.pickAnd rfl (ltN hN rfl) (Opd.tmp 15 (.d (.bool (r1.2 == (0 : Int))))) (Opd.tmp 17 (.opt ((r1.2 == (0 : Int)) == true) (.d (.bool (r2.2 == (0 : Int)))))))
  (OpJs.cons (OpJ.move (ltN hN rfl) (Opd.tmp 18 (.d (.bool ((r1.2 == (0 : Int)) && (r2.2 == (0 : Int)))))))
  (OpJs.cons (OpJ.opt' (v := (.d (.int .i64 r1.1))) (OpJ.move (ltN hN rfl) (Opd.tmp 1 (.d (.int .i64 r1.1)))) (by rfl) (GuardV.plain _) (ltN hN rfl) (by rfl) (by rfl) (by rfl) (by rfl) (OptL.keep rfl OptL.nil))
  (OpJs.cons (OpJ.opt' (v := (.d (.bool (r1.1 == (10 : Int))))) (OpJ.eqlI (ltN hN rfl) (Opd.tmp 20 (.d (.int .i64 r1.1))) (Opd.int .i64 (10))) (by rfl) (GuardV.plain _) (ltN hN rfl) (by rfl) (by rfl) (by rfl) (by rfl) (OptL.opt OptL.nil))
  (OpJs.cons (OpJ.pickAnd rfl (ltN hN rfl) (Opd.tmp 19 (.d (.bool ((r1.2 == (0 : Int)) && (r2.2 == (0 : Int)))))) (Opd.tmp 21 (.opt (((r1.2 == (0 : Int)) && (r2.2 == (0 : Int))) == true) (.d (.bool (r1.1 == (10 : Int)))))))
  (OpJs.cons (OpJ.move (ltN hN rfl) (Opd.tmp 22 (.d (.bool (((r1.2 == (0 : Int)) && (r2.2 == (0 : Int))) && (r1.1 == (10 : Int)))))))
  (OpJs.cons (OpJ.opt' (v := (.d (.int .i64 r2.1))) (OpJ.move (ltN hN rfl) (Opd.tmp 3 (.d (.int .i64 r2.1)))) (by rfl) (GuardV.plain _) (ltN hN rfl) (by rfl) (by rfl) (by rfl) (by rfl) (OptL.keep rfl OptL.nil))
  (OpJs.cons (OpJ.opt' (v := (.d (.bool (r2.1 == (5 : Int))))) (OpJ.eqlI (ltN hN rfl) (Opd.tmp 24 (.d (.int .i64 r2.1))) (Opd.int .i64 (5))) (by rfl) (GuardV.plain _) (ltN hN rfl) (by rfl) (by rfl) (by rfl) (by rfl) (OptL.opt OptL.nil))
  (OpJs.cons (OpJ.pickAnd rfl (ltN hN rfl) (Opd.tmp 23 (.d (.bool (((r1.2 == (0 : Int)) && (r2.2 == (0 : Int))) && (r1.1 == (10 : Int)))))) (Opd.tmp 25 (.opt ((((r1.2 == (0 : Int)) && (r2.2 == (0 : Int))) && (r1.1 == (10 : Int))) == true) (.d (.bool (r2.1 == (5 : Int)))))))
  (OpJs.cons (OpJ.assign (ltN hN rfl) (Opd.tmp 26 (.d (.bool ((((r1.2 == (0 : Int)) && (r2.2 == (0 : Int))) && (r1.1 == (10 : Int))) && (r2.1 == (5 : Int)))))))
  (OpJs.nil)))))))))))))))) (by rfl) (by rfl) ?_
  refine seqQ_n ?_
  refine AWp.ghost (Mat.pat [] [(0, (.d (.bool ((((r1.2 == (0 : Int)) && (r2.2 == (0 : Int))) && (r1.1 == (10 : Int))) && (r2.1 == (5 : Int))))))] [] hB (by rfl) (by rfl) (by rfl)) ?_
  refine AWp.ret ?_
  obtain rfl := Option.some.inj h
  exact ⟨.inl rfl, _, _, (Mat.pat [] [(0, (.d (.bool ((((r1.2 == (0 : Int)) && (r2.2 == (0 : Int))) && (r1.1 == (10 : Int))) && (r2.1 == (5 : Int))))))] [] hB (by rfl) (by rfl) (by rfl)), [(.d (.bool ((((r1.2 == (0 : Int)) && (r2.2 == (0 : Int))) && (r1.1 == (10 : Int))) && (r2.1 == (5 : Int)))))], (Res.tmp (by rfl) (by rfl) Res.nil), rfl, by rfl, by rfl, by rfl⟩

noncomputable def exchangepointlaw39_IntervalCounts_L0 (a0 : Int) (a1 : Int) (a2 : Int) (a3 : Int) (r1 : Int) (r2 : Int) (r3 : Int) (r4 : Int) (r5 : Int) (r6 : Int) (r7 : Int) (s8 : Int) : Option (((Unit) ⊕ (Unit)) ⊕ (Int)) :=
  (if (decide (s8 < (([([a0, a1, a2, a3] : List Int), ([r1, r2, r3, (w64 (r4 - (2 : Int)))] : List Int), ([(w64 (r5 - (2 : Int))), (w64 (r6 - (2 : Int))), (w64 (r7 - (2 : Int))), a3] : List Int)] : List (List Int)).length : Int))) = true then
  (idx ([([a0, a1, a2, a3] : List Int), ([r1, r2, r3, (w64 (r4 - (2 : Int)))] : List Int), ([(w64 (r5 - (2 : Int))), (w64 (r6 - (2 : Int))), (w64 (r7 - (2 : Int))), a3] : List Int)] : List (List Int)) s8).bind fun x70 =>
  (idx x70 (0 : Int)).bind fun x71 =>
  (idx x70 (1 : Int)).bind fun x72 =>
  (interval_Choose x71 x72).bind fun r73 =>
  (idx x70 (0 : Int)).bind fun x74 =>
  (idx x70 (1 : Int)).bind fun x75 =>
  (exchangepointref39_Choose x74 x75).bind fun r76 =>
  (idx x70 (0 : Int)).bind fun x77 =>
  (idx x70 (1 : Int)).bind fun x78 =>
  (idx x70 (2 : Int)).bind fun x79 =>
  (idx x70 (3 : Int)).bind fun x80 =>
  (interval_AtLeast x77 x78 x79 x80).bind fun r81 =>
  (idx x70 (0 : Int)).bind fun x82 =>
  (idx x70 (1 : Int)).bind fun x83 =>
  (idx x70 (2 : Int)).bind fun x84 =>
  (idx x70 (3 : Int)).bind fun x85 =>
  (exchangepointref39_AtLeast x82 x83 x84 x85).bind fun r86 =>
  (idx x70 (0 : Int)).bind fun x87 =>
  (idx x70 (1 : Int)).bind fun x88 =>
  (idx x70 (2 : Int)).bind fun x89 =>
  (idx x70 (3 : Int)).bind fun x90 =>
  (interval_AtMost x87 x88 x89 x90).bind fun r91 =>
  (idx x70 (0 : Int)).bind fun x92 =>
  (idx x70 (1 : Int)).bind fun x93 =>
  (idx x70 (2 : Int)).bind fun x94 =>
  (idx x70 (3 : Int)).bind fun x95 =>
  (exchangepointref39_AtMost x92 x93 x94 x95).bind fun r96 =>
  (if ((((((r73.1 != r76.1) || (r73.2 != r76.2)) || (r81.1 != r86.1)) || (r81.2 != r86.2)) || (r91.1 != r96.1)) || (r91.2 != r96.2)) = true then
  some (.inl (.inl ()))
  else
  some (.inr (w64 (s8 + (1 : Int)))))
  else
  some (.inl (.inr ())))
noncomputable def exchangepointlaw39_IntervalCounts (a0 : Int) (a1 : Int) (a2 : Int) (a3 : Int) : Option (Bool) :=
  (exchangepointmill_Mod a0 (61 : Int)).bind fun r1 =>
  (exchangepointmill_Mod a1 (w64 (r1 + (1 : Int)))).bind fun r2 =>
  (exchangepointmill_Mod a2 (w64 (r1 + (1 : Int)))).bind fun r3 =>
  (exchangepointmill_Mod a3 (w64 (r1 + (4 : Int)))).bind fun r4 =>
  (exchangepointmill_Mod a0 (64 : Int)).bind fun r5 =>
  (exchangepointmill_Mod a1 (64 : Int)).bind fun r6 =>
  (exchangepointmill_Mod a2 (64 : Int)).bind fun r7 =>
  (loop (exchangepointlaw39_IntervalCounts_L0 a0 a1 a2 a3 r1 r2 r3 r4 r5 r6 r7) (0 : Int)).bind fun x98 => match x98 with
  | (.inl _) =>
    some false
  | (.inr _) =>
    (exchangepointlaw39_awake).bind fun r100 =>
    some r100
set_option maxHeartbeats 4000000 in
set_option maxRecDepth 100000 in
theorem exchangepointlaw39_IntervalCounts_ac (a0 : Int) (a1 : Int) (a2 : Int) (a3 : Int) (r : Bool) (h : exchangepointlaw39_IntervalCounts a0 a1 a2 a3 = some r) : AC Try.prog 3 [(.d (.int .i64 a0)), (.d (.int .i64 a1)), (.d (.int .i64 a2)), (.d (.int .i64 a3))] [] (.d (.bool r)) [] := by
  refine AC.of_code2 Try.func3 rfl rfl (Nat.le_of_ble_eq_true (by rfl)) fun B hB hN => ?_
  delta exchangepointlaw39_IntervalCounts at h
  refine AWp.seq ?_
  refine AWp.region (OpJs.cons (OpJ.assign (ltN hN rfl) (Opd.bool false))
  (OpJs.nil)) (by rfl) (by rfl) ?_
  refine seqQ_n ?_
  refine AWp.ghost (Mat.pat [] [(0, (.d (.int .i64 a0))), (1, (.d (.int .i64 a1))), (2, (.d (.int .i64 a2))), (3, (.d (.int .i64 a3)))] [] hB (by rfl) (by rfl) (by rfl)) ?_
  refine AWp.seq ?_
  obtain ⟨r1, hr1, h⟩ := bindS h
  refine AWp.region (OpJs.cons (OpJ.move (ltN hN rfl) (Opd.tmp 0 (.d (.int .i64 a0))))
  (OpJs.cons (OpJ.callFn hB fnOk9 (exchangepointmill_Mod_ac a0 (61 : Int) r1 hr1) [] (by kernel_rfl) (ltN hN rfl) (by kernel_rfl) (OpdL.cons (Opd.tmp 24 (.d (.int .i64 a0))) (OpdL.cons (Opd.int .i64 (61)) OpdL.nil)))
  (OpJs.cons (OpJ.assign (ltN hN rfl) (Opd.tmp 25 (.d (.int .i64 r1))))
  (OpJs.nil)))) (by rfl) (by rfl) ?_
  refine seqQ_n ?_
  refine AWp.ghost (Mat.pat [] [(0, (.d (.int .i64 a0))), (1, (.d (.int .i64 a1))), (2, (.d (.int .i64 a2))), (3, (.d (.int .i64 a3))), (9, (.d (.int .i64 r1)))] [] hB (by rfl) (by rfl) (by rfl)) ?_
  refine AWp.seq ?_
  refine AWp.seq ?_
  obtain ⟨r2, hr2, h⟩ := bindS h
  obtain ⟨r3, hr3, h⟩ := bindS h
  obtain ⟨r4, hr4, h⟩ := bindS h
  obtain ⟨r5, hr5, h⟩ := bindS h
  obtain ⟨r6, hr6, h⟩ := bindS h
  obtain ⟨r7, hr7, h⟩ := bindS h
  refine AWp.region (OpJs.cons (OpJ.move (ltN hN rfl) (Opd.tmp 0 (.d (.int .i64 a0))))
  (OpJs.cons (OpJ.move (ltN hN rfl) (Opd.tmp 1 (.d (.int .i64 a1))))
  (OpJs.cons (OpJ.move (ltN hN rfl) (Opd.tmp 2 (.d (.int .i64 a2))))
  (OpJs.cons (OpJ.move (ltN hN rfl) (Opd.tmp 3 (.d (.int .i64 a3))))
  (OpJs.cons (OpJ.buildSlice Try.underlying23 tyS3 tyZD3 (by rfl) (by decide) (by decide) (Opds.cons (Opd.tmp 26 (.d (.int .i64 a0))) (Opds.cons (Opd.tmp 27 (.d (.int .i64 a1))) (Opds.cons (Opd.tmp 28 (.d (.int .i64 a2))) (Opds.cons (Opd.tmp 29 (.d (.int .i64 a3))) Opds.nil)))) (by kernel_rfl) (es := ([(.int .i64 a0), (.int .i64 a1), (.int .i64 a2), (.int .i64 a3)] : List D)) (by rfl) (by rfl) (by kernel_rfl) (by simp) (ltN hN rfl))
  (OpJs.cons (OpJ.move (ltN hN rfl) (Opd.tmp 9 (.d (.int .i64 r1))))
  (OpJs.cons (OpJ.move (ltN hN rfl) (Opd.tmp 1 (.d (.int .i64 a1))))
  (OpJs.cons (OpJ.move (ltN hN rfl) (Opd.tmp 9 (.d (.int .i64 r1))))
  (OpJs.cons (OpJ.add (ltN hN rfl) (Opd.tmp 33 (.d (.int .i64 r1))) (Opd.int .i64 (1)))
  (OpJs.cons (OpJ.callFn hB fnOk9 (exchangepointmill_Mod_ac a1 (w64 (r1 + (1 : Int))) r2 hr2) [] (by kernel_rfl) (ltN hN rfl) (by kernel_rfl) (OpdL.cons (Opd.tmp 32 (.d (.int .i64 a1))) (OpdL.cons (Opd.tmp 34 (.d (.int .i64 (w64 (r1 + (1 : Int)))))) OpdL.nil)))
  (OpJs.cons (OpJ.move (ltN hN rfl) (Opd.tmp 2 (.d (.int .i64 a2))))
  (OpJs.cons (OpJ.move (ltN hN rfl) (Opd.tmp 9 (.d (.int .i64 r1))))
  (OpJs.cons (OpJ.add (ltN hN rfl) (Opd.tmp 37 (.d (.int .i64 r1))) (Opd.int .i64 (1)))
  (OpJs.cons (OpJ.callFn hB fnOk9 (exchangepointmill_Mod_ac a2 (w64 (r1 + (1 : Int))) r3 hr3) [] (by kernel_rfl) (ltN hN rfl) (by kernel_rfl) (OpdL.cons (Opd.tmp 36 (.d (.int .i64 a2))) (OpdL.cons (Opd.tmp 38 (.d (.int .i64 (w64 (r1 + (1 : Int)))))) OpdL.nil)))
  (OpJs.cons (OpJ.move (ltN hN rfl) (Opd.tmp 3 (.d (.int .i64 a3))))
  (OpJs.cons (OpJ.move (ltN hN rfl) (Opd.tmp 9 (.d (.int .i64 r1))))
  (OpJs.cons (OpJ.add (ltN hN rfl) (Opd.tmp 41 (.d (.int .i64 r1))) (Opd.int .i64 (4)))
  (OpJs.cons (OpJ.callFn hB fnOk9 (exchangepointmill_Mod_ac a3 (w64 (r1 + (4 : Int))) r4 hr4) [] (by kernel_rfl) (ltN hN rfl) (by kernel_rfl) (OpdL.cons (Opd.tmp 40 (.d (.int .i64 a3))) (OpdL.cons (Opd.tmp 42 (.d (.int .i64 (w64 (r1 + (4 : Int)))))) OpdL.nil)))
  (OpJs.cons (OpJ.sub (ltN hN rfl) (Opd.tmp 43 (.d (.int .i64 r4))) (Opd.int .i64 (2)))
  (OpJs.cons (OpJ.buildSlice Try.underlying23 tyS3 tyZD3 (by rfl) (by decide) (by decide) (Opds.cons (Opd.tmp 31 (.d (.int .i64 r1))) (Opds.cons (Opd.tmp 35 (.d (.int .i64 r2))) (Opds.cons (Opd.tmp 39 (.d (.int .i64 r3))) (Opds.cons (Opd.tmp 44 (.d (.int .i64 (w64 (r4 - (2 : Int)))))) Opds.nil)))) (by kernel_rfl) (es := ([(.int .i64 r1), (.int .i64 r2), (.int .i64 r3), (.int .i64 (w64 (r4 - (2 : Int))))] : List D)) (by rfl) (by rfl) (by kernel_rfl) (by simp) (ltN hN rfl))
  (OpJs.cons (OpJ.move (ltN hN rfl) (Opd.tmp 0 (.d (.int .i64 a0))))
  (OpJs.cons (OpJ.callFn hB fnOk9 (exchangepointmill_Mod_ac a0 (64 : Int) r5 hr5) [] (by kernel_rfl) (ltN hN rfl) (by kernel_rfl) (OpdL.cons (Opd.tmp 46 (.d (.int .i64 a0))) (OpdL.cons (Opd.int .i64 (64)) OpdL.nil)))
  (OpJs.cons (OpJ.sub (ltN hN rfl) (Opd.tmp 47 (.d (.int .i64 r5))) (Opd.int .i64 (2)))
  (OpJs.cons (OpJ.move (ltN hN rfl) (Opd.tmp 1 (.d (.int .i64 a1))))
  (OpJs.cons (OpJ.callFn hB fnOk9 (exchangepointmill_Mod_ac a1 (64 : Int) r6 hr6) [] (by kernel_rfl) (ltN hN rfl) (by kernel_rfl) (OpdL.cons (Opd.tmp 49 (.d (.int .i64 a1))) (OpdL.cons (Opd.int .i64 (64)) OpdL.nil)))
  (OpJs.cons (OpJ.sub (ltN hN rfl) (Opd.tmp 50 (.d (.int .i64 r6))) (Opd.int .i64 (2)))
  (OpJs.cons (OpJ.move (ltN hN rfl) (Opd.tmp 2 (.d (.int .i64 a2))))
  (OpJs.cons (OpJ.callFn hB fnOk9 (exchangepointmill_Mod_ac a2 (64 : Int) r7 hr7) [] (by kernel_rfl) (ltN hN rfl) (by kernel_rfl) (OpdL.cons (Opd.tmp 52 (.d (.int .i64 a2))) (OpdL.cons (Opd.int .i64 (64)) OpdL.nil)))
  (OpJs.cons (OpJ.sub (ltN hN rfl) (Opd.tmp 53 (.d (.int .i64 r7))) (Opd.int .i64 (2)))
  (OpJs.cons (OpJ.move (ltN hN rfl) (Opd.tmp 3 (.d (.int .i64 a3))))
  (OpJs.cons (OpJ.buildSlice Try.underlying23 tyS3 tyZD3 (by rfl) (by decide) (by decide) (Opds.cons (Opd.tmp 48 (.d (.int .i64 (w64 (r5 - (2 : Int)))))) (Opds.cons (Opd.tmp 51 (.d (.int .i64 (w64 (r6 - (2 : Int)))))) (Opds.cons (Opd.tmp 54 (.d (.int .i64 (w64 (r7 - (2 : Int)))))) (Opds.cons (Opd.tmp 55 (.d (.int .i64 a3))) Opds.nil)))) (by kernel_rfl) (es := ([(.int .i64 (w64 (r5 - (2 : Int)))), (.int .i64 (w64 (r6 - (2 : Int)))), (.int .i64 (w64 (r7 - (2 : Int)))), (.int .i64 a3)] : List D)) (by rfl) (by rfl) (by kernel_rfl) (by simp) (ltN hN rfl))
  (OpJs.cons (OpJ.buildSlice Try.underlying24 tyS23 tyZD23 (by rfl) (by decide) (by decide) (Opds.cons (Opd.tmp 30 (.d (.list 1 (([a0, a1, a2, a3] : List Int).map (eI .i64))))) (Opds.cons (Opd.tmp 45 (.d (.list 1 (([r1, r2, r3, (w64 (r4 - (2 : Int)))] : List Int).map (eI .i64))))) (Opds.cons (Opd.tmp 56 (.d (.list 1 (([(w64 (r5 - (2 : Int))), (w64 (r6 - (2 : Int))), (w64 (r7 - (2 : Int))), a3] : List Int).map (eI .i64))))) Opds.nil))) (by kernel_rfl) (es := ([(.list 1 (([a0, a1, a2, a3] : List Int).map (eI .i64))), (.list 1 (([r1, r2, r3, (w64 (r4 - (2 : Int)))] : List Int).map (eI .i64))), (.list 1 (([(w64 (r5 - (2 : Int))), (w64 (r6 - (2 : Int))), (w64 (r7 - (2 : Int))), a3] : List Int).map (eI .i64)))] : List D)) (by rfl) (by rfl) (by kernel_rfl) (by simp) (ltN hN rfl))
  (OpJs.cons (OpJ.val (v' := (.d (.int .i64 (([([a0, a1, a2, a3] : List Int), ([r1, r2, r3, (w64 (r4 - (2 : Int)))] : List Int), ([(w64 (r5 - (2 : Int))), (w64 (r6 - (2 : Int))), (w64 (r7 - (2 : Int))), a3] : List Int)] : List (List Int)).length : Int)))) (by simp) (OpJ.lenD Try.underlying24 (ltN hN rfl) (Opd.tmp 57 (.d (.list 1 (([([a0, a1, a2, a3] : List Int), ([r1, r2, r3, (w64 (r4 - (2 : Int)))] : List Int), ([(w64 (r5 - (2 : Int))), (w64 (r6 - (2 : Int))), (w64 (r7 - (2 : Int))), a3] : List Int)] : List (List Int)).map e_LeIi64))))))
  (OpJs.cons (OpJ.move (ltN hN rfl) (Opd.int .i64 (0)))
  (OpJs.nil))))))))))))))))))))))))))))))))))) (by rfl) (by rfl) ?_
  refine seqQ_n ?_
  refine AWp.ghost (Mat.pat [] [(57, (.d (.list 1 (([([a0, a1, a2, a3] : List Int), ([r1, r2, r3, (w64 (r4 - (2 : Int)))] : List Int), ([(w64 (r5 - (2 : Int))), (w64 (r6 - (2 : Int))), (w64 (r7 - (2 : Int))), a3] : List Int)] : List (List Int)).map e_LeIi64)))), (58, (.d (.int .i64 (([([a0, a1, a2, a3] : List Int), ([r1, r2, r3, (w64 (r4 - (2 : Int)))] : List Int), ([(w64 (r5 - (2 : Int))), (w64 (r6 - (2 : Int))), (w64 (r7 - (2 : Int))), a3] : List Int)] : List (List Int)).length : Int)))), (59, (.d (.int .i64 (0 : Int))))] [] hB (by rfl) (by rfl) (by rfl)) ?_
  refine AWp.block ?_
  obtain ⟨x98, hx99, h⟩ := bindS h
  refine AWp.ghost (Mat.pat [] ((fun s8 : Int => ([(57, (.d (.list 1 (([([a0, a1, a2, a3] : List Int), ([r1, r2, r3, (w64 (r4 - (2 : Int)))] : List Int), ([(w64 (r5 - (2 : Int))), (w64 (r6 - (2 : Int))), (w64 (r7 - (2 : Int))), a3] : List Int)] : List (List Int)).map e_LeIi64)))), (58, (.d (.int .i64 (([([a0, a1, a2, a3] : List Int), ([r1, r2, r3, (w64 (r4 - (2 : Int)))] : List Int), ([(w64 (r5 - (2 : Int))), (w64 (r6 - (2 : Int))), (w64 (r7 - (2 : Int))), a3] : List Int)] : List (List Int)).length : Int)))), (59, (.d (.int .i64 s8)))] : EL)) (0 : Int)) ((fun s8 : Int => ([] : OL)) (0 : Int)) hB (by rfl) (by rfl) (by rfl)) ?_
  refine AWp.loopS (exchangepointlaw39_IntervalCounts_L0 a0 a1 a2 a3 r1 r2 r3 r4 r5 r6 r7) (fun s8 : Int => ([(57, (.d (.list 1 (([([a0, a1, a2, a3] : List Int), ([r1, r2, r3, (w64 (r4 - (2 : Int)))] : List Int), ([(w64 (r5 - (2 : Int))), (w64 (r6 - (2 : Int))), (w64 (r7 - (2 : Int))), a3] : List Int)] : List (List Int)).map e_LeIi64)))), (58, (.d (.int .i64 (([([a0, a1, a2, a3] : List Int), ([r1, r2, r3, (w64 (r4 - (2 : Int)))] : List Int), ([(w64 (r5 - (2 : Int))), (w64 (r6 - (2 : Int))), (w64 (r7 - (2 : Int))), a3] : List Int)] : List (List Int)).length : Int)))), (59, (.d (.int .i64 s8)))] : EL)) (fun s8 : Int => ([] : OL)) (fun (x : (Unit) ⊕ (Unit)) e E' O' => match x with | (.inl _p) => e = .ret ∧ Mat B E' O' ([(8, (.d (.bool false)))] : EL) ([] : OL) | (.inr _p) => e = .exit 0 ∧ Mat B E' O' ([] : EL) ([] : OL)) hx99 (fun s8 y h => ?_) (fun e E' O' hR => ?_)
  · unfold exchangepointlaw39_IntervalCounts_L0 at h
    show AWp _ _ _ _ ([(57, (.d (.list 1 (([([a0, a1, a2, a3] : List Int), ([r1, r2, r3, (w64 (r4 - (2 : Int)))] : List Int), ([(w64 (r5 - (2 : Int))), (w64 (r6 - (2 : Int))), (w64 (r7 - (2 : Int))), a3] : List Int)] : List (List Int)).map e_LeIi64)))), (58, (.d (.int .i64 (([([a0, a1, a2, a3] : List Int), ([r1, r2, r3, (w64 (r4 - (2 : Int)))] : List Int), ([(w64 (r5 - (2 : Int))), (w64 (r6 - (2 : Int))), (w64 (r7 - (2 : Int))), a3] : List Int)] : List (List Int)).length : Int)))), (59, (.d (.int .i64 s8)))] : EL) ([] : OL)
    refine AWp.seq ?_
    refine AWp.region (OpJs.cons (OpJ.lss (ltN hN rfl) (Opd.tmp 59 (.d (.int .i64 s8))) (Opd.tmp 58 (.d (.int .i64 (([([a0, a1, a2, a3] : List Int), ([r1, r2, r3, (w64 (r4 - (2 : Int)))] : List Int), ([(w64 (r5 - (2 : Int))), (w64 (r6 - (2 : Int))), (w64 (r7 - (2 : Int))), a3] : List Int)] : List (List Int)).length : Int)))))
      (OpJs.nil)) (by rfl) (by rfl) ?_
    refine seqQ_n ?_
    refine AWp.ghost (Mat.pat [] [(57, (.d (.list 1 (([([a0, a1, a2, a3] : List Int), ([r1, r2, r3, (w64 (r4 - (2 : Int)))] : List Int), ([(w64 (r5 - (2 : Int))), (w64 (r6 - (2 : Int))), (w64 (r7 - (2 : Int))), a3] : List Int)] : List (List Int)).map e_LeIi64)))), (58, (.d (.int .i64 (([([a0, a1, a2, a3] : List Int), ([r1, r2, r3, (w64 (r4 - (2 : Int)))] : List Int), ([(w64 (r5 - (2 : Int))), (w64 (r6 - (2 : Int))), (w64 (r7 - (2 : Int))), a3] : List Int)] : List (List Int)).length : Int)))), (59, (.d (.int .i64 s8))), (60, (.d (.bool (decide (s8 < (([([a0, a1, a2, a3] : List Int), ([r1, r2, r3, (w64 (r4 - (2 : Int)))] : List Int), ([(w64 (r5 - (2 : Int))), (w64 (r6 - (2 : Int))), (w64 (r7 - (2 : Int))), a3] : List Int)] : List (List Int)).length : Int))))))] [] hB (by rfl) (by rfl) (by rfl)) ?_
    refine AWp.seq ?_
    refine AWp.cond (b := (decide (s8 < (([([a0, a1, a2, a3] : List Int), ([r1, r2, r3, (w64 (r4 - (2 : Int)))] : List Int), ([(w64 (r5 - (2 : Int))), (w64 (r6 - (2 : Int))), (w64 (r7 - (2 : Int))), a3] : List Int)] : List (List Int)).length : Int)))) (by rfl) (fun hg69 => ?_) (fun hg69 => ?_)
    · replace h := ite_t hg69 h
      refine AWp.skip ?_
      refine seqQ_n ?_
      refine AWp.seq ?_
      refine AWp.block ?_
      refine AWp.seq ?_
      obtain ⟨x70, hx70, h⟩ := bindS h
      refine AWp.region (OpJs.cons (OpJ.indexD (el := (.list 1 (x70.map (eI .i64)))) Try.underlying24 tyS23 (idx_some hx70).1 (get_map e_LeIi64 (idx_some hx70).2) (ltN hN rfl) (Opd.tmp 57 (.d (.list 1 (([([a0, a1, a2, a3] : List Int), ([r1, r2, r3, (w64 (r4 - (2 : Int)))] : List Int), ([(w64 (r5 - (2 : Int))), (w64 (r6 - (2 : Int))), (w64 (r7 - (2 : Int))), a3] : List Int)] : List (List Int)).map e_LeIi64)))) (Opd.tmp 59 (.d (.int .i64 s8))))
        (OpJs.cons (OpJ.loadD tyS23 (by rfl) (by rfl) (ltN hN rfl) (Opd.tmp 61 (.dptr (.list 1 (x70.map (eI .i64))))))
        (OpJs.cons (OpJ.assign (ltN hN rfl) (Opd.tmp 62 (.d (.list 1 (x70.map (eI .i64))))))
        (OpJs.nil)))) (by rfl) (by rfl) ?_
      refine seqQ_n ?_
      refine AWp.ghost (Mat.pat [] [(11, (.d (.list 1 (x70.map (eI .i64))))), (57, (.d (.list 1 (([([a0, a1, a2, a3] : List Int), ([r1, r2, r3, (w64 (r4 - (2 : Int)))] : List Int), ([(w64 (r5 - (2 : Int))), (w64 (r6 - (2 : Int))), (w64 (r7 - (2 : Int))), a3] : List Int)] : List (List Int)).map e_LeIi64)))), (58, (.d (.int .i64 (([([a0, a1, a2, a3] : List Int), ([r1, r2, r3, (w64 (r4 - (2 : Int)))] : List Int), ([(w64 (r5 - (2 : Int))), (w64 (r6 - (2 : Int))), (w64 (r7 - (2 : Int))), a3] : List Int)] : List (List Int)).length : Int)))), (59, (.d (.int .i64 s8)))] [] hB (by rfl) (by rfl) (by rfl)) ?_
      refine AWp.seq ?_
      obtain ⟨x71, hx71, h⟩ := bindS h
      obtain ⟨x72, hx72, h⟩ := bindS h
      obtain ⟨r73, hr73, h⟩ := bindS h
      refine AWp.draws (by kernel_rfl) (OpJs.cons (OpJ.move (ltN hN rfl) (Opd.tmp 11 (.d (.list 1 (x70.map (eI .i64))))))
        (OpJs.cons (OpJ.indexD (el := (.int .i64 x71)) Try.underlying23 tyS3 (idx_some hx71).1 (get_map (eI .i64) (idx_some hx71).2) (ltN hN rfl) (Opd.tmp 64 (.d (.list 1 (x70.map (eI .i64))))) (Opd.int .i64 (0)))
        (OpJs.cons (OpJ.loadD tyS3 (by rfl) (by rfl) (ltN hN rfl) (Opd.tmp 65 (.dptr (.int .i64 x71))))
        (OpJs.cons (OpJ.move (ltN hN rfl) (Opd.tmp 11 (.d (.list 1 (x70.map (eI .i64))))))
        (OpJs.cons (OpJ.indexD (el := (.int .i64 x72)) Try.underlying23 tyS3 (idx_some hx72).1 (get_map (eI .i64) (idx_some hx72).2) (ltN hN rfl) (Opd.tmp 67 (.d (.list 1 (x70.map (eI .i64))))) (Opd.int .i64 (1)))
        (OpJs.cons (OpJ.loadD tyS3 (by rfl) (by rfl) (ltN hN rfl) (Opd.tmp 68 (.dptr (.int .i64 x72))))
        (OpJs.cons (OpJ.callFn hB fnOk10 (interval_Choose_ac x71 x72 r73 hr73) [] (by kernel_rfl) (ltN hN rfl) (by kernel_rfl) (OpdL.cons (Opd.tmp 66 (.d (.int .i64 x71))) (OpdL.cons (Opd.tmp 69 (.d (.int .i64 x72))) OpdL.nil)))
        (OpJs.cons (OpJ.move (ltN hN rfl) (Opd.tmp 70 (.tup [(.d (.int .i64 r73.1)), (.d (.int .i64 r73.2))])))
        (OpJs.cons (OpJ.extract (v := (.d (.int .i64 r73.1))) (by rfl) rfl (ltN hN rfl) (Opd.tmp 63 (.tup [(.d (.int .i64 r73.1)), (.d (.int .i64 r73.2))])))
        (OpJs.cons (OpJ.extract (v := (.d (.int .i64 r73.2))) (by rfl) rfl (ltN hN rfl) (Opd.tmp 63 (.tup [(.d (.int .i64 r73.1)), (.d (.int .i64 r73.2))])))
        (OpJs.cons (OpJ.assign (ltN hN rfl) (Opd.tmp 71 (.d (.int .i64 r73.1))))
        (OpJs.cons (OpJ.assign (ltN hN rfl) (Opd.tmp 72 (.d (.int .i64 r73.2))))
        (OpJs.nil))))))))))))) (by kernel_rfl) (by rfl) (by rfl) ?_
      refine seqQ_n ?_
      refine AWp.ghost (Mat.pat [] [(11, (.d (.list 1 (x70.map (eI .i64))))), (12, (.d (.int .i64 r73.1))), (13, (.d (.int .i64 r73.2))), (57, (.d (.list 1 (([([a0, a1, a2, a3] : List Int), ([r1, r2, r3, (w64 (r4 - (2 : Int)))] : List Int), ([(w64 (r5 - (2 : Int))), (w64 (r6 - (2 : Int))), (w64 (r7 - (2 : Int))), a3] : List Int)] : List (List Int)).map e_LeIi64)))), (58, (.d (.int .i64 (([([a0, a1, a2, a3] : List Int), ([r1, r2, r3, (w64 (r4 - (2 : Int)))] : List Int), ([(w64 (r5 - (2 : Int))), (w64 (r6 - (2 : Int))), (w64 (r7 - (2 : Int))), a3] : List Int)] : List (List Int)).length : Int)))), (59, (.d (.int .i64 s8)))] [] hB (by rfl) (by rfl) (by rfl)) ?_
      refine AWp.seq ?_
      obtain ⟨x74, hx74, h⟩ := bindS h
      obtain ⟨x75, hx75, h⟩ := bindS h
      obtain ⟨r76, hr76, h⟩ := bindS h
      refine AWp.draws (by kernel_rfl) (OpJs.cons (OpJ.move (ltN hN rfl) (Opd.tmp 11 (.d (.list 1 (x70.map (eI .i64))))))
        (OpJs.cons (OpJ.indexD (el := (.int .i64 x74)) Try.underlying23 tyS3 (idx_some hx74).1 (get_map (eI .i64) (idx_some hx74).2) (ltN hN rfl) (Opd.tmp 74 (.d (.list 1 (x70.map (eI .i64))))) (Opd.int .i64 (0)))
        (OpJs.cons (OpJ.loadD tyS3 (by rfl) (by rfl) (ltN hN rfl) (Opd.tmp 75 (.dptr (.int .i64 x74))))
        (OpJs.cons (OpJ.move (ltN hN rfl) (Opd.tmp 11 (.d (.list 1 (x70.map (eI .i64))))))
        (OpJs.cons (OpJ.indexD (el := (.int .i64 x75)) Try.underlying23 tyS3 (idx_some hx75).1 (get_map (eI .i64) (idx_some hx75).2) (ltN hN rfl) (Opd.tmp 77 (.d (.list 1 (x70.map (eI .i64))))) (Opd.int .i64 (1)))
        (OpJs.cons (OpJ.loadD tyS3 (by rfl) (by rfl) (ltN hN rfl) (Opd.tmp 78 (.dptr (.int .i64 x75))))
        (OpJs.cons (OpJ.callFn hB fnOk11 (exchangepointref39_Choose_ac x74 x75 r76 hr76) [] (by kernel_rfl) (ltN hN rfl) (by kernel_rfl) (OpdL.cons (Opd.tmp 76 (.d (.int .i64 x74))) (OpdL.cons (Opd.tmp 79 (.d (.int .i64 x75))) OpdL.nil)))
        (OpJs.cons (OpJ.move (ltN hN rfl) (Opd.tmp 80 (.tup [(.d (.int .i64 r76.1)), (.d (.int .i64 r76.2))])))
        (OpJs.cons (OpJ.extract (v := (.d (.int .i64 r76.1))) (by rfl) rfl (ltN hN rfl) (Opd.tmp 73 (.tup [(.d (.int .i64 r76.1)), (.d (.int .i64 r76.2))])))
        (OpJs.cons (OpJ.extract (v := (.d (.int .i64 r76.2))) (by rfl) rfl (ltN hN rfl) (Opd.tmp 73 (.tup [(.d (.int .i64 r76.1)), (.d (.int .i64 r76.2))])))
        (OpJs.cons (OpJ.assign (ltN hN rfl) (Opd.tmp 81 (.d (.int .i64 r76.1))))
        (OpJs.cons (OpJ.assign (ltN hN rfl) (Opd.tmp 82 (.d (.int .i64 r76.2))))
        (OpJs.nil))))))))))))) (by kernel_rfl) (by rfl) (by rfl) ?_
      refine seqQ_n ?_
      refine AWp.ghost (Mat.pat [] [(11, (.d (.list 1 (x70.map (eI .i64))))), (12, (.d (.int .i64 r73.1))), (13, (.d (.int .i64 r73.2))), (14, (.d (.int .i64 r76.1))), (15, (.d (.int .i64 r76.2))), (57, (.d (.list 1 (([([a0, a1, a2, a3] : List Int), ([r1, r2, r3, (w64 (r4 - (2 : Int)))] : List Int), ([(w64 (r5 - (2 : Int))), (w64 (r6 - (2 : Int))), (w64 (r7 - (2 : Int))), a3] : List Int)] : List (List Int)).map e_LeIi64)))), (58, (.d (.int .i64 (([([a0, a1, a2, a3] : List Int), ([r1, r2, r3, (w64 (r4 - (2 : Int)))] : List Int), ([(w64 (r5 - (2 : Int))), (w64 (r6 - (2 : Int))), (w64 (r7 - (2 : Int))), a3] : List Int)] : List (List Int)).length : Int)))), (59, (.d (.int .i64 s8)))] [] hB (by rfl) (by rfl) (by rfl)) ?_
      refine AWp.seq ?_
      obtain ⟨x77, hx77, h⟩ := bindS h
      obtain ⟨x78, hx78, h⟩ := bindS h
      obtain ⟨x79, hx79, h⟩ := bindS h
      obtain ⟨x80, hx80, h⟩ := bindS h
      obtain ⟨r81, hr81, h⟩ := bindS h
      refine AWp.draws (by kernel_rfl) (OpJs.cons (OpJ.move (ltN hN rfl) (Opd.tmp 11 (.d (.list 1 (x70.map (eI .i64))))))
        (OpJs.cons (OpJ.indexD (el := (.int .i64 x77)) Try.underlying23 tyS3 (idx_some hx77).1 (get_map (eI .i64) (idx_some hx77).2) (ltN hN rfl) (Opd.tmp 84 (.d (.list 1 (x70.map (eI .i64))))) (Opd.int .i64 (0)))
        (OpJs.cons (OpJ.loadD tyS3 (by rfl) (by rfl) (ltN hN rfl) (Opd.tmp 85 (.dptr (.int .i64 x77))))
        (OpJs.cons (OpJ.move (ltN hN rfl) (Opd.tmp 11 (.d (.list 1 (x70.map (eI .i64))))))
        (OpJs.cons (OpJ.indexD (el := (.int .i64 x78)) Try.underlying23 tyS3 (idx_some hx78).1 (get_map (eI .i64) (idx_some hx78).2) (ltN hN rfl) (Opd.tmp 87 (.d (.list 1 (x70.map (eI .i64))))) (Opd.int .i64 (1)))
        (OpJs.cons (OpJ.loadD tyS3 (by rfl) (by rfl) (ltN hN rfl) (Opd.tmp 88 (.dptr (.int .i64 x78))))
        (OpJs.cons (OpJ.move (ltN hN rfl) (Opd.tmp 11 (.d (.list 1 (x70.map (eI .i64))))))
        (OpJs.cons (OpJ.indexD (el := (.int .i64 x79)) Try.underlying23 tyS3 (idx_some hx79).1 (get_map (eI .i64) (idx_some hx79).2) (ltN hN rfl) (Opd.tmp 90 (.d (.list 1 (x70.map (eI .i64))))) (Opd.int .i64 (2)))
        (OpJs.cons (OpJ.loadD tyS3 (by rfl) (by rfl) (ltN hN rfl) (Opd.tmp 91 (.dptr (.int .i64 x79))))
        (OpJs.cons (OpJ.move (ltN hN rfl) (Opd.tmp 11 (.d (.list 1 (x70.map (eI .i64))))))
        (OpJs.cons (OpJ.indexD (el := (.int .i64 x80)) Try.underlying23 tyS3 (idx_some hx80).1 (get_map (eI .i64) (idx_some hx80).2) (ltN hN rfl) (Opd.tmp 93 (.d (.list 1 (x70.map (eI .i64))))) (Opd.int .i64 (3)))
        (OpJs.cons (OpJ.loadD tyS3 (by rfl) (by rfl) (ltN hN rfl) (Opd.tmp 94 (.dptr (.int .i64 x80))))
        (OpJs.cons (OpJ.callFn hB fnOk12 (interval_AtLeast_ac x77 x78 x79 x80 r81 hr81) [] (by kernel_rfl) (ltN hN rfl) (by kernel_rfl) (OpdL.cons (Opd.tmp 86 (.d (.int .i64 x77))) (OpdL.cons (Opd.tmp 89 (.d (.int .i64 x78))) (OpdL.cons (Opd.tmp 92 (.d (.int .i64 x79))) (OpdL.cons (Opd.tmp 95 (.d (.int .i64 x80))) OpdL.nil)))))
        (OpJs.cons (OpJ.move (ltN hN rfl) (Opd.tmp 96 (.tup [(.d (.int .i64 r81.1)), (.d (.int .i64 r81.2))])))
        (OpJs.cons (OpJ.extract (v := (.d (.int .i64 r81.1))) (by rfl) rfl (ltN hN rfl) (Opd.tmp 83 (.tup [(.d (.int .i64 r81.1)), (.d (.int .i64 r81.2))])))
        (OpJs.cons (OpJ.extract (v := (.d (.int .i64 r81.2))) (by rfl) rfl (ltN hN rfl) (Opd.tmp 83 (.tup [(.d (.int .i64 r81.1)), (.d (.int .i64 r81.2))])))
        (OpJs.cons (OpJ.assign (ltN hN rfl) (Opd.tmp 97 (.d (.int .i64 r81.1))))
        (OpJs.cons (OpJ.assign (ltN hN rfl) (Opd.tmp 98 (.d (.int .i64 r81.2))))
        (OpJs.nil))))))))))))))))))) (by kernel_rfl) (by rfl) (by rfl) ?_
      refine seqQ_n ?_
      refine AWp.ghost (Mat.pat [] [(11, (.d (.list 1 (x70.map (eI .i64))))), (12, (.d (.int .i64 r73.1))), (13, (.d (.int .i64 r73.2))), (14, (.d (.int .i64 r76.1))), (15, (.d (.int .i64 r76.2))), (16, (.d (.int .i64 r81.1))), (17, (.d (.int .i64 r81.2))), (57, (.d (.list 1 (([([a0, a1, a2, a3] : List Int), ([r1, r2, r3, (w64 (r4 - (2 : Int)))] : List Int), ([(w64 (r5 - (2 : Int))), (w64 (r6 - (2 : Int))), (w64 (r7 - (2 : Int))), a3] : List Int)] : List (List Int)).map e_LeIi64)))), (58, (.d (.int .i64 (([([a0, a1, a2, a3] : List Int), ([r1, r2, r3, (w64 (r4 - (2 : Int)))] : List Int), ([(w64 (r5 - (2 : Int))), (w64 (r6 - (2 : Int))), (w64 (r7 - (2 : Int))), a3] : List Int)] : List (List Int)).length : Int)))), (59, (.d (.int .i64 s8)))] [] hB (by rfl) (by rfl) (by rfl)) ?_
      refine AWp.seq ?_
      obtain ⟨x82, hx82, h⟩ := bindS h
      obtain ⟨x83, hx83, h⟩ := bindS h
      obtain ⟨x84, hx84, h⟩ := bindS h
      obtain ⟨x85, hx85, h⟩ := bindS h
      obtain ⟨r86, hr86, h⟩ := bindS h
      refine AWp.draws (by kernel_rfl) (OpJs.cons (OpJ.move (ltN hN rfl) (Opd.tmp 11 (.d (.list 1 (x70.map (eI .i64))))))
        (OpJs.cons (OpJ.indexD (el := (.int .i64 x82)) Try.underlying23 tyS3 (idx_some hx82).1 (get_map (eI .i64) (idx_some hx82).2) (ltN hN rfl) (Opd.tmp 100 (.d (.list 1 (x70.map (eI .i64))))) (Opd.int .i64 (0)))
        (OpJs.cons (OpJ.loadD tyS3 (by rfl) (by rfl) (ltN hN rfl) (Opd.tmp 101 (.dptr (.int .i64 x82))))
        (OpJs.cons (OpJ.move (ltN hN rfl) (Opd.tmp 11 (.d (.list 1 (x70.map (eI .i64))))))
        (OpJs.cons (OpJ.indexD (el := (.int .i64 x83)) Try.underlying23 tyS3 (idx_some hx83).1 (get_map (eI .i64) (idx_some hx83).2) (ltN hN rfl) (Opd.tmp 103 (.d (.list 1 (x70.map (eI .i64))))) (Opd.int .i64 (1)))
        (OpJs.cons (OpJ.loadD tyS3 (by rfl) (by rfl) (ltN hN rfl) (Opd.tmp 104 (.dptr (.int .i64 x83))))
        (OpJs.cons (OpJ.move (ltN hN rfl) (Opd.tmp 11 (.d (.list 1 (x70.map (eI .i64))))))
        (OpJs.cons (OpJ.indexD (el := (.int .i64 x84)) Try.underlying23 tyS3 (idx_some hx84).1 (get_map (eI .i64) (idx_some hx84).2) (ltN hN rfl) (Opd.tmp 106 (.d (.list 1 (x70.map (eI .i64))))) (Opd.int .i64 (2)))
        (OpJs.cons (OpJ.loadD tyS3 (by rfl) (by rfl) (ltN hN rfl) (Opd.tmp 107 (.dptr (.int .i64 x84))))
        (OpJs.cons (OpJ.move (ltN hN rfl) (Opd.tmp 11 (.d (.list 1 (x70.map (eI .i64))))))
        (OpJs.cons (OpJ.indexD (el := (.int .i64 x85)) Try.underlying23 tyS3 (idx_some hx85).1 (get_map (eI .i64) (idx_some hx85).2) (ltN hN rfl) (Opd.tmp 109 (.d (.list 1 (x70.map (eI .i64))))) (Opd.int .i64 (3)))
        (OpJs.cons (OpJ.loadD tyS3 (by rfl) (by rfl) (ltN hN rfl) (Opd.tmp 110 (.dptr (.int .i64 x85))))
        (OpJs.cons (OpJ.callFn hB fnOk13 (exchangepointref39_AtLeast_ac x82 x83 x84 x85 r86 hr86) [] (by kernel_rfl) (ltN hN rfl) (by kernel_rfl) (OpdL.cons (Opd.tmp 102 (.d (.int .i64 x82))) (OpdL.cons (Opd.tmp 105 (.d (.int .i64 x83))) (OpdL.cons (Opd.tmp 108 (.d (.int .i64 x84))) (OpdL.cons (Opd.tmp 111 (.d (.int .i64 x85))) OpdL.nil)))))
        (OpJs.cons (OpJ.move (ltN hN rfl) (Opd.tmp 112 (.tup [(.d (.int .i64 r86.1)), (.d (.int .i64 r86.2))])))
        (OpJs.cons (OpJ.extract (v := (.d (.int .i64 r86.1))) (by rfl) rfl (ltN hN rfl) (Opd.tmp 99 (.tup [(.d (.int .i64 r86.1)), (.d (.int .i64 r86.2))])))
        (OpJs.cons (OpJ.extract (v := (.d (.int .i64 r86.2))) (by rfl) rfl (ltN hN rfl) (Opd.tmp 99 (.tup [(.d (.int .i64 r86.1)), (.d (.int .i64 r86.2))])))
        (OpJs.cons (OpJ.assign (ltN hN rfl) (Opd.tmp 113 (.d (.int .i64 r86.1))))
        (OpJs.cons (OpJ.assign (ltN hN rfl) (Opd.tmp 114 (.d (.int .i64 r86.2))))
        (OpJs.nil))))))))))))))))))) (by kernel_rfl) (by rfl) (by rfl) ?_
      refine seqQ_n ?_
      refine AWp.ghost (Mat.pat [] [(11, (.d (.list 1 (x70.map (eI .i64))))), (12, (.d (.int .i64 r73.1))), (13, (.d (.int .i64 r73.2))), (14, (.d (.int .i64 r76.1))), (15, (.d (.int .i64 r76.2))), (16, (.d (.int .i64 r81.1))), (17, (.d (.int .i64 r81.2))), (18, (.d (.int .i64 r86.1))), (19, (.d (.int .i64 r86.2))), (57, (.d (.list 1 (([([a0, a1, a2, a3] : List Int), ([r1, r2, r3, (w64 (r4 - (2 : Int)))] : List Int), ([(w64 (r5 - (2 : Int))), (w64 (r6 - (2 : Int))), (w64 (r7 - (2 : Int))), a3] : List Int)] : List (List Int)).map e_LeIi64)))), (58, (.d (.int .i64 (([([a0, a1, a2, a3] : List Int), ([r1, r2, r3, (w64 (r4 - (2 : Int)))] : List Int), ([(w64 (r5 - (2 : Int))), (w64 (r6 - (2 : Int))), (w64 (r7 - (2 : Int))), a3] : List Int)] : List (List Int)).length : Int)))), (59, (.d (.int .i64 s8)))] [] hB (by rfl) (by rfl) (by rfl)) ?_
      refine AWp.seq ?_
      obtain ⟨x87, hx87, h⟩ := bindS h
      obtain ⟨x88, hx88, h⟩ := bindS h
      obtain ⟨x89, hx89, h⟩ := bindS h
      obtain ⟨x90, hx90, h⟩ := bindS h
      obtain ⟨r91, hr91, h⟩ := bindS h
      refine AWp.draws (by kernel_rfl) (OpJs.cons (OpJ.move (ltN hN rfl) (Opd.tmp 11 (.d (.list 1 (x70.map (eI .i64))))))
        (OpJs.cons (OpJ.indexD (el := (.int .i64 x87)) Try.underlying23 tyS3 (idx_some hx87).1 (get_map (eI .i64) (idx_some hx87).2) (ltN hN rfl) (Opd.tmp 116 (.d (.list 1 (x70.map (eI .i64))))) (Opd.int .i64 (0)))
        (OpJs.cons (OpJ.loadD tyS3 (by rfl) (by rfl) (ltN hN rfl) (Opd.tmp 117 (.dptr (.int .i64 x87))))
        (OpJs.cons (OpJ.move (ltN hN rfl) (Opd.tmp 11 (.d (.list 1 (x70.map (eI .i64))))))
        (OpJs.cons (OpJ.indexD (el := (.int .i64 x88)) Try.underlying23 tyS3 (idx_some hx88).1 (get_map (eI .i64) (idx_some hx88).2) (ltN hN rfl) (Opd.tmp 119 (.d (.list 1 (x70.map (eI .i64))))) (Opd.int .i64 (1)))
        (OpJs.cons (OpJ.loadD tyS3 (by rfl) (by rfl) (ltN hN rfl) (Opd.tmp 120 (.dptr (.int .i64 x88))))
        (OpJs.cons (OpJ.move (ltN hN rfl) (Opd.tmp 11 (.d (.list 1 (x70.map (eI .i64))))))
        (OpJs.cons (OpJ.indexD (el := (.int .i64 x89)) Try.underlying23 tyS3 (idx_some hx89).1 (get_map (eI .i64) (idx_some hx89).2) (ltN hN rfl) (Opd.tmp 122 (.d (.list 1 (x70.map (eI .i64))))) (Opd.int .i64 (2)))
        (OpJs.cons (OpJ.loadD tyS3 (by rfl) (by rfl) (ltN hN rfl) (Opd.tmp 123 (.dptr (.int .i64 x89))))
        (OpJs.cons (OpJ.move (ltN hN rfl) (Opd.tmp 11 (.d (.list 1 (x70.map (eI .i64))))))
        (OpJs.cons (OpJ.indexD (el := (.int .i64 x90)) Try.underlying23 tyS3 (idx_some hx90).1 (get_map (eI .i64) (idx_some hx90).2) (ltN hN rfl) (Opd.tmp 125 (.d (.list 1 (x70.map (eI .i64))))) (Opd.int .i64 (3)))
        (OpJs.cons (OpJ.loadD tyS3 (by rfl) (by rfl) (ltN hN rfl) (Opd.tmp 126 (.dptr (.int .i64 x90))))
        (OpJs.cons (OpJ.callFn hB fnOk14 (interval_AtMost_ac x87 x88 x89 x90 r91 hr91) [] (by kernel_rfl) (ltN hN rfl) (by kernel_rfl) (OpdL.cons (Opd.tmp 118 (.d (.int .i64 x87))) (OpdL.cons (Opd.tmp 121 (.d (.int .i64 x88))) (OpdL.cons (Opd.tmp 124 (.d (.int .i64 x89))) (OpdL.cons (Opd.tmp 127 (.d (.int .i64 x90))) OpdL.nil)))))
        (OpJs.cons (OpJ.move (ltN hN rfl) (Opd.tmp 128 (.tup [(.d (.int .i64 r91.1)), (.d (.int .i64 r91.2))])))
        (OpJs.cons (OpJ.extract (v := (.d (.int .i64 r91.1))) (by rfl) rfl (ltN hN rfl) (Opd.tmp 115 (.tup [(.d (.int .i64 r91.1)), (.d (.int .i64 r91.2))])))
        (OpJs.cons (OpJ.extract (v := (.d (.int .i64 r91.2))) (by rfl) rfl (ltN hN rfl) (Opd.tmp 115 (.tup [(.d (.int .i64 r91.1)), (.d (.int .i64 r91.2))])))
        (OpJs.cons (OpJ.assign (ltN hN rfl) (Opd.tmp 129 (.d (.int .i64 r91.1))))
        (OpJs.cons (OpJ.assign (ltN hN rfl) (Opd.tmp 130 (.d (.int .i64 r91.2))))
        (OpJs.nil))))))))))))))))))) (by kernel_rfl) (by rfl) (by rfl) ?_
      refine seqQ_n ?_
      refine AWp.ghost (Mat.pat [] [(11, (.d (.list 1 (x70.map (eI .i64))))), (12, (.d (.int .i64 r73.1))), (13, (.d (.int .i64 r73.2))), (14, (.d (.int .i64 r76.1))), (15, (.d (.int .i64 r76.2))), (16, (.d (.int .i64 r81.1))), (17, (.d (.int .i64 r81.2))), (18, (.d (.int .i64 r86.1))), (19, (.d (.int .i64 r86.2))), (20, (.d (.int .i64 r91.1))), (21, (.d (.int .i64 r91.2))), (57, (.d (.list 1 (([([a0, a1, a2, a3] : List Int), ([r1, r2, r3, (w64 (r4 - (2 : Int)))] : List Int), ([(w64 (r5 - (2 : Int))), (w64 (r6 - (2 : Int))), (w64 (r7 - (2 : Int))), a3] : List Int)] : List (List Int)).map e_LeIi64)))), (58, (.d (.int .i64 (([([a0, a1, a2, a3] : List Int), ([r1, r2, r3, (w64 (r4 - (2 : Int)))] : List Int), ([(w64 (r5 - (2 : Int))), (w64 (r6 - (2 : Int))), (w64 (r7 - (2 : Int))), a3] : List Int)] : List (List Int)).length : Int)))), (59, (.d (.int .i64 s8)))] [] hB (by rfl) (by rfl) (by rfl)) ?_
      refine AWp.seq ?_
      obtain ⟨x92, hx92, h⟩ := bindS h
      obtain ⟨x93, hx93, h⟩ := bindS h
      obtain ⟨x94, hx94, h⟩ := bindS h
      obtain ⟨x95, hx95, h⟩ := bindS h
      obtain ⟨r96, hr96, h⟩ := bindS h
      refine AWp.draws (by kernel_rfl) (OpJs.cons (OpJ.move (ltN hN rfl) (Opd.tmp 11 (.d (.list 1 (x70.map (eI .i64))))))
        (OpJs.cons (OpJ.indexD (el := (.int .i64 x92)) Try.underlying23 tyS3 (idx_some hx92).1 (get_map (eI .i64) (idx_some hx92).2) (ltN hN rfl) (Opd.tmp 132 (.d (.list 1 (x70.map (eI .i64))))) (Opd.int .i64 (0)))
        (OpJs.cons (OpJ.loadD tyS3 (by rfl) (by rfl) (ltN hN rfl) (Opd.tmp 133 (.dptr (.int .i64 x92))))
        (OpJs.cons (OpJ.move (ltN hN rfl) (Opd.tmp 11 (.d (.list 1 (x70.map (eI .i64))))))
        (OpJs.cons (OpJ.indexD (el := (.int .i64 x93)) Try.underlying23 tyS3 (idx_some hx93).1 (get_map (eI .i64) (idx_some hx93).2) (ltN hN rfl) (Opd.tmp 135 (.d (.list 1 (x70.map (eI .i64))))) (Opd.int .i64 (1)))
        (OpJs.cons (OpJ.loadD tyS3 (by rfl) (by rfl) (ltN hN rfl) (Opd.tmp 136 (.dptr (.int .i64 x93))))
        (OpJs.cons (OpJ.move (ltN hN rfl) (Opd.tmp 11 (.d (.list 1 (x70.map (eI .i64))))))
        (OpJs.cons (OpJ.indexD (el := (.int .i64 x94)) Try.underlying23 tyS3 (idx_some hx94).1 (get_map (eI .i64) (idx_some hx94).2) (ltN hN rfl) (Opd.tmp 138 (.d (.list 1 (x70.map (eI .i64))))) (Opd.int .i64 (2)))
        (OpJs.cons (OpJ.loadD tyS3 (by rfl) (by rfl) (ltN hN rfl) (Opd.tmp 139 (.dptr (.int .i64 x94))))
        (OpJs.cons (OpJ.move (ltN hN rfl) (Opd.tmp 11 (.d (.list 1 (x70.map (eI .i64))))))
        (OpJs.cons (OpJ.indexD (el := (.int .i64 x95)) Try.underlying23 tyS3 (idx_some hx95).1 (get_map (eI .i64) (idx_some hx95).2) (ltN hN rfl) (Opd.tmp 141 (.d (.list 1 (x70.map (eI .i64))))) (Opd.int .i64 (3)))
        (OpJs.cons (OpJ.loadD tyS3 (by rfl) (by rfl) (ltN hN rfl) (Opd.tmp 142 (.dptr (.int .i64 x95))))
        (OpJs.cons (OpJ.callFn hB fnOk15 (exchangepointref39_AtMost_ac x92 x93 x94 x95 r96 hr96) [] (by kernel_rfl) (ltN hN rfl) (by kernel_rfl) (OpdL.cons (Opd.tmp 134 (.d (.int .i64 x92))) (OpdL.cons (Opd.tmp 137 (.d (.int .i64 x93))) (OpdL.cons (Opd.tmp 140 (.d (.int .i64 x94))) (OpdL.cons (Opd.tmp 143 (.d (.int .i64 x95))) OpdL.nil)))))
        (OpJs.cons (OpJ.move (ltN hN rfl) (Opd.tmp 144 (.tup [(.d (.int .i64 r96.1)), (.d (.int .i64 r96.2))])))
        (OpJs.cons (OpJ.extract (v := (.d (.int .i64 r96.1))) (by rfl) rfl (ltN hN rfl) (Opd.tmp 131 (.tup [(.d (.int .i64 r96.1)), (.d (.int .i64 r96.2))])))
        (OpJs.cons (OpJ.extract (v := (.d (.int .i64 r96.2))) (by rfl) rfl (ltN hN rfl) (Opd.tmp 131 (.tup [(.d (.int .i64 r96.1)), (.d (.int .i64 r96.2))])))
        (OpJs.cons (OpJ.assign (ltN hN rfl) (Opd.tmp 145 (.d (.int .i64 r96.1))))
        (OpJs.cons (OpJ.assign (ltN hN rfl) (Opd.tmp 146 (.d (.int .i64 r96.2))))
        (OpJs.nil))))))))))))))))))) (by kernel_rfl) (by rfl) (by rfl) ?_
      refine seqQ_n ?_
      refine AWp.ghost (Mat.pat [] [(12, (.d (.int .i64 r73.1))), (13, (.d (.int .i64 r73.2))), (14, (.d (.int .i64 r76.1))), (15, (.d (.int .i64 r76.2))), (16, (.d (.int .i64 r81.1))), (17, (.d (.int .i64 r81.2))), (18, (.d (.int .i64 r86.1))), (19, (.d (.int .i64 r86.2))), (20, (.d (.int .i64 r91.1))), (21, (.d (.int .i64 r91.2))), (22, (.d (.int .i64 r96.1))), (23, (.d (.int .i64 r96.2))), (57, (.d (.list 1 (([([a0, a1, a2, a3] : List Int), ([r1, r2, r3, (w64 (r4 - (2 : Int)))] : List Int), ([(w64 (r5 - (2 : Int))), (w64 (r6 - (2 : Int))), (w64 (r7 - (2 : Int))), a3] : List Int)] : List (List Int)).map e_LeIi64)))), (58, (.d (.int .i64 (([([a0, a1, a2, a3] : List Int), ([r1, r2, r3, (w64 (r4 - (2 : Int)))] : List Int), ([(w64 (r5 - (2 : Int))), (w64 (r6 - (2 : Int))), (w64 (r7 - (2 : Int))), a3] : List Int)] : List (List Int)).length : Int)))), (59, (.d (.int .i64 s8)))] [] hB (by rfl) (by rfl) (by rfl)) ?_
      refine AWp.seq ?_
      refine AWp.region (OpJs.cons (OpJ.move (ltN hN rfl) (Opd.tmp 12 (.d (.int .i64 r73.1))))
        (OpJs.cons (OpJ.move (ltN hN rfl) (Opd.tmp 14 (.d (.int .i64 r76.1))))
        (OpJs.cons (OpJ.neqI (ltN hN rfl) (Opd.tmp 147 (.d (.int .i64 r73.1))) (Opd.tmp 148 (.d (.int .i64 r76.1))))
        (OpJs.cons (OpJ.move (ltN hN rfl) (Opd.tmp 149 (.d (.bool (r73.1 != r76.1)))))
        (OpJs.cons (OpJ.opt' (v := (.d (.int .i64 r73.2))) (OpJ.move (ltN hN rfl) (Opd.tmp 13 (.d (.int .i64 r73.2)))) (by rfl) (GuardV.plain _) (ltN hN rfl) (by rfl) (by rfl) (by rfl) (by rfl) (OptL.keep rfl OptL.nil))
        (OpJs.cons (OpJ.opt' (v := (.d (.int .i64 r76.2))) (OpJ.move (ltN hN rfl) (Opd.tmp 15 (.d (.int .i64 r76.2)))) (by rfl) (GuardV.plain _) (ltN hN rfl) (by rfl) (by rfl) (by rfl) (by rfl) (OptL.keep rfl OptL.nil))
        (OpJs.cons (OpJ.opt' (v := (.d (.bool (r73.2 != r76.2)))) (OpJ.neqI (ltN hN rfl) (Opd.tmp 151 (.d (.int .i64 r73.2))) (Opd.tmp 152 (.d (.int .i64 r76.2)))) (by rfl) (GuardV.plain _) (ltN hN rfl) (by rfl) (by rfl) (by rfl) (by rfl) (OptL.opt (OptL.opt OptL.nil)))
        (OpJs.cons (OpJ.pickOr rfl (ltN hN rfl) (Opd.tmp 150 (.d (.bool (r73.1 != r76.1)))) (Opd.tmp 153 (.opt ((r73.1 != r76.1) == false) (.d (.bool (r73.2 != r76.2))))))
        (OpJs.cons (OpJ.move (ltN hN rfl) (Opd.tmp 154 (.d (.bool ((r73.1 != r76.1) || (r73.2 != r76.2))))))
        (OpJs.cons (OpJ.opt' (v := (.d (.int .i64 r81.1))) (OpJ.move (ltN hN rfl) (Opd.tmp 16 (.d (.int .i64 r81.1)))) (by rfl) (GuardV.plain _) (ltN hN rfl) (by rfl) (by rfl) (by rfl) (by rfl) (OptL.keep rfl OptL.nil))
        (OpJs.cons (OpJ.opt' (v := (.d (.int .i64 r86.1))) (OpJ.move (ltN hN rfl) (Opd.tmp 18 (.d (.int .i64 r86.1)))) (by rfl) (GuardV.plain _) (ltN hN rfl) (by rfl) (by rfl) (by rfl) (by rfl) (OptL.keep rfl OptL.nil))
        (OpJs.cons (OpJ.opt' (v := (.d (.bool (r81.1 != r86.1)))) (OpJ.neqI (ltN hN rfl) (Opd.tmp 156 (.d (.int .i64 r81.1))) (Opd.tmp 157 (.d (.int .i64 r86.1)))) (by rfl) (GuardV.plain _) (ltN hN rfl) (by rfl) (by rfl) (by rfl) (by rfl) (OptL.opt (OptL.opt OptL.nil)))
        (OpJs.cons (OpJ.pickOr rfl (ltN hN rfl) (Opd.tmp 155 (.d (.bool ((r73.1 != r76.1) || (r73.2 != r76.2))))) (Opd.tmp 158 (.opt (((r73.1 != r76.1) || (r73.2 != r76.2)) == false) (.d (.bool (r81.1 != r86.1))))))
        (OpJs.cons (OpJ.move (ltN hN rfl) (Opd.tmp 159 (.d (.bool (((r73.1 != r76.1) || (r73.2 != r76.2)) || (r81.1 != r86.1))))))
        (OpJs.cons (OpJ.opt' (v := (.d (.int .i64 r81.2))) (OpJ.move (ltN hN rfl) (Opd.tmp 17 (.d (.int .i64 r81.2)))) (by rfl) (GuardV.plain _) (ltN hN rfl) (by rfl) (by rfl) (by rfl) (by rfl) (OptL.keep rfl OptL.nil))
        (OpJs.cons (OpJ.opt' (v := (.d (.int .i64 r86.2))) (OpJ.move (ltN hN rfl) (Opd.tmp 19 (.d (.int .i64 r86.2)))) (by rfl) (GuardV.plain _) (ltN hN rfl) (by rfl) (by rfl) (by rfl) (by rfl) (OptL.keep rfl OptL.nil))
        (OpJs.cons (OpJ.opt' (v := (.d (.bool (r81.2 != r86.2)))) (OpJ.neqI (ltN hN rfl) (Opd.tmp 161 (.d (.int .i64 r81.2))) (Opd.tmp 162 (.d (.int .i64 r86.2)))) (by rfl) (GuardV.plain _) (ltN hN rfl) (by rfl) (by rfl) (by rfl) (by rfl) (OptL.opt (OptL.opt OptL.nil)))
        (OpJs.cons (OpJ.pickOr rfl (ltN hN rfl) (Opd.tmp 160 (.d (.bool (((r73.1 != r76.1) || (r73.2 != r76.2)) || (r81.1 != r86.1))))) (Opd.tmp 163 (.opt ((((r73.1 != r76.1) || (r73.2 != r76.2)) || (r81.1 != r86.1)) == false) (.d (.bool (r81.2 != r86.2))))))
        (OpJs.cons (OpJ.move (ltN hN rfl) (Opd.tmp 164 (.d (.bool ((((r73.1 != r76.1) || (r73.2 != r76.2)) || (r81.1 != r86.1)) || (r81.2 != r86.2))))))
        (OpJs.cons (OpJ.opt' (v := (.d (.int .i64 r91.1))) (OpJ.move (ltN hN rfl) (Opd.tmp 20 (.d (.int .i64 r91.1)))) (by rfl) (GuardV.plain _) (ltN hN rfl) (by rfl) (by rfl) (by rfl) (by rfl) (OptL.keep rfl OptL.nil))
        (OpJs.cons (OpJ.opt' (v := (.d (.int .i64 r96.1))) (OpJ.move (ltN hN rfl) (Opd.tmp 22 (.d (.int .i64 r96.1)))) (by rfl) (GuardV.plain _) (ltN hN rfl) (by rfl) (by rfl) (by rfl) (by rfl) (OptL.keep rfl OptL.nil))
        (OpJs.cons (OpJ.opt' (v := (.d (.bool (r91.1 != r96.1)))) (OpJ.neqI (ltN hN rfl) (Opd.tmp 166 (.d (.int .i64 r91.1))) (Opd.tmp 167 (.d (.int .i64 r96.1)))) (by rfl) (GuardV.plain _) (ltN hN rfl) (by rfl) (by rfl) (by rfl) (by rfl) (OptL.opt (OptL.opt OptL.nil)))
        (OpJs.cons (OpJ.pickOr rfl (ltN hN rfl) (Opd.tmp 165 (.d (.bool ((((r73.1 != r76.1) || (r73.2 != r76.2)) || (r81.1 != r86.1)) || (r81.2 != r86.2))))) (Opd.tmp 168 (.opt (((((r73.1 != r76.1) || (r73.2 != r76.2)) || (r81.1 != r86.1)) || (r81.2 != r86.2)) == false) (.d (.bool (r91.1 != r96.1))))))
        (OpJs.cons (OpJ.move (ltN hN rfl) (Opd.tmp 169 (.d (.bool (((((r73.1 != r76.1) || (r73.2 != r76.2)) || (r81.1 != r86.1)) || (r81.2 != r86.2)) || (r91.1 != r96.1))))))
        (OpJs.cons (OpJ.opt' (v := (.d (.int .i64 r91.2))) (OpJ.move (ltN hN rfl) (Opd.tmp 21 (.d (.int .i64 r91.2)))) (by rfl) (GuardV.plain _) (ltN hN rfl) (by rfl) (by rfl) (by rfl) (by rfl) (OptL.keep rfl OptL.nil))
        (OpJs.cons (OpJ.opt' (v := (.d (.int .i64 r96.2))) (OpJ.move (ltN hN rfl) (Opd.tmp 23 (.d (.int .i64 r96.2)))) (by rfl) (GuardV.plain _) (ltN hN rfl) (by rfl) (by rfl) (by rfl) (by rfl) (OptL.keep rfl OptL.nil))
        (OpJs.cons (OpJ.opt' (v := (.d (.bool (r91.2 != r96.2)))) (OpJ.neqI (ltN hN rfl) (Opd.tmp 171 (.d (.int .i64 r91.2))) (Opd.tmp 172 (.d (.int .i64 r96.2)))) (by rfl) (GuardV.plain _) (ltN hN rfl) (by rfl) (by rfl) (by rfl) (by rfl) (OptL.opt (OptL.opt OptL.nil)))
        (OpJs.cons (OpJ.pickOr rfl (ltN hN rfl) (Opd.tmp 170 (.d (.bool (((((r73.1 != r76.1) || (r73.2 != r76.2)) || (r81.1 != r86.1)) || (r81.2 != r86.2)) || (r91.1 != r96.1))))) (Opd.tmp 173 (.opt ((((((r73.1 != r76.1) || (r73.2 != r76.2)) || (r81.1 != r86.1)) || (r81.2 != r86.2)) || (r91.1 != r96.1)) == false) (.d (.bool (r91.2 != r96.2))))))
        (OpJs.nil))))))))))))))))))))))))))))) (by rfl) (by rfl) ?_
      refine seqQ_n ?_
      refine AWp.ghost (Mat.pat [] [(57, (.d (.list 1 (([([a0, a1, a2, a3] : List Int), ([r1, r2, r3, (w64 (r4 - (2 : Int)))] : List Int), ([(w64 (r5 - (2 : Int))), (w64 (r6 - (2 : Int))), (w64 (r7 - (2 : Int))), a3] : List Int)] : List (List Int)).map e_LeIi64)))), (58, (.d (.int .i64 (([([a0, a1, a2, a3] : List Int), ([r1, r2, r3, (w64 (r4 - (2 : Int)))] : List Int), ([(w64 (r5 - (2 : Int))), (w64 (r6 - (2 : Int))), (w64 (r7 - (2 : Int))), a3] : List Int)] : List (List Int)).length : Int)))), (59, (.d (.int .i64 s8))), (174, (.d (.bool ((((((r73.1 != r76.1) || (r73.2 != r76.2)) || (r81.1 != r86.1)) || (r81.2 != r86.2)) || (r91.1 != r96.1)) || (r91.2 != r96.2)))))] [] hB (by rfl) (by rfl) (by rfl)) ?_
      refine AWp.cond (b := ((((((r73.1 != r76.1) || (r73.2 != r76.2)) || (r81.1 != r86.1)) || (r81.2 != r86.2)) || (r91.1 != r96.1)) || (r91.2 != r96.2))) (by rfl) (fun hg97 => ?_) (fun hg97 => ?_)
      · replace h := ite_t hg97 h
        refine AWp.seq ?_
        refine AWp.region (OpJs.cons (OpJ.assign (ltN hN rfl) (Opd.bool false))
          (OpJs.nil)) (by rfl) (by rfl) ?_
        refine seqQ_n ?_
        refine AWp.ghost (Mat.pat [] [(8, (.d (.bool false)))] [] hB (by rfl) (by rfl) (by rfl)) ?_
        refine AWp.ret ?_
        refine blkQ_r ?_
        refine seqQ_r ?_
        obtain rfl := Option.some.inj h
        exact ⟨(fun hc => by cases hc), rfl, (Mat.pat [] ((fun _ : Unit => ([(8, (.d (.bool false)))] : EL)) ()) ((fun _ : Unit => ([] : OL)) ()) hB (by rfl) (by rfl) (by rfl))⟩
      · replace h := ite_f hg97 h
        refine AWp.skip ?_
        refine blkQ_n ?_
        refine seqQ_n ?_
        refine AWp.region (OpJs.cons (OpJ.add (ltN hN rfl) (Opd.tmp 59 (.d (.int .i64 s8))) (Opd.int .i64 (1)))
          (OpJs.cons (OpJ.move (ltN hN rfl) (Opd.tmp 175 (.d (.int .i64 (w64 (s8 + (1 : Int)))))))
          (OpJs.nil))) (by rfl) (by rfl) ?_
        obtain rfl := Option.some.inj h
        exact ⟨rfl, (Mat.trans (Mat.pat [] [(57, (.d (.list 1 (([([a0, a1, a2, a3] : List Int), ([r1, r2, r3, (w64 (r4 - (2 : Int)))] : List Int), ([(w64 (r5 - (2 : Int))), (w64 (r6 - (2 : Int))), (w64 (r7 - (2 : Int))), a3] : List Int)] : List (List Int)).map e_LeIi64)))), (58, (.d (.int .i64 (([([a0, a1, a2, a3] : List Int), ([r1, r2, r3, (w64 (r4 - (2 : Int)))] : List Int), ([(w64 (r5 - (2 : Int))), (w64 (r6 - (2 : Int))), (w64 (r7 - (2 : Int))), a3] : List Int)] : List (List Int)).length : Int)))), (59, (.d (.int .i64 (w64 (s8 + (1 : Int))))))] [] hB (by rfl) (by rfl) (by rfl)) (Mat.pat [] ((fun s8 : Int => ([(57, (.d (.list 1 (([([a0, a1, a2, a3] : List Int), ([r1, r2, r3, (w64 (r4 - (2 : Int)))] : List Int), ([(w64 (r5 - (2 : Int))), (w64 (r6 - (2 : Int))), (w64 (r7 - (2 : Int))), a3] : List Int)] : List (List Int)).map e_LeIi64)))), (58, (.d (.int .i64 (([([a0, a1, a2, a3] : List Int), ([r1, r2, r3, (w64 (r4 - (2 : Int)))] : List Int), ([(w64 (r5 - (2 : Int))), (w64 (r6 - (2 : Int))), (w64 (r7 - (2 : Int))), a3] : List Int)] : List (List Int)).length : Int)))), (59, (.d (.int .i64 s8)))] : EL)) (w64 (s8 + (1 : Int)))) ((fun s8 : Int => ([] : OL)) (w64 (s8 + (1 : Int)))) hB (by rfl) (by rfl) (by rfl)))⟩
    · replace h := ite_f hg69 h
      refine AWp.exit ?_
      refine seqQ_e ?_
      obtain rfl := Option.some.inj h
      exact ⟨(fun hc => by cases hc), rfl, (Mat.pat [] ((fun _ : Unit => ([] : EL)) ()) ((fun _ : Unit => ([] : OL)) ()) hB (by rfl) (by rfl) (by rfl))⟩
  · rcases x98 with _ | _
    · obtain ⟨rfl, hmat⟩ := hR
      refine blkQ_r ?_
      refine seqQ_r ?_
      obtain rfl := Option.some.inj h
      exact ⟨.inl rfl, _, _, (Mat.trans hmat (Mat.pat [] [(8, (.d (.bool false)))] [] hB (by rfl) (by rfl) (by rfl))), [(.d (.bool false))], (Res.tmp (by rfl) (by rfl) Res.nil), rfl, by rfl, by rfl, by rfl⟩
    · obtain ⟨rfl, hmat⟩ := hR
      refine blkQ_hit ?_
      refine seqQ_n ?_
      refine AWp.ghost hmat ?_
      refine AWp.seq ?_
      obtain ⟨r100, hr100, h⟩ := bindS h
      refine AWp.region (OpJs.cons (OpJ.callFn hB fnOk16 (exchangepointlaw39_awake_ac  r100 hr100) [] (by kernel_rfl) (ltN hN rfl) (by kernel_rfl) OpdL.nil)
        (OpJs.cons (OpJ.assign (ltN hN rfl) (Opd.tmp 176 (.d (.bool r100))))
        (OpJs.nil))) (by rfl) (by rfl) ?_
      refine seqQ_n ?_
      refine AWp.ghost (Mat.pat [] [(8, (.d (.bool r100)))] [] hB (by rfl) (by rfl) (by rfl)) ?_
      refine AWp.ret ?_
      obtain rfl := Option.some.inj h
      exact ⟨.inl rfl, _, _, (Mat.pat [] [(8, (.d (.bool r100)))] [] hB (by rfl) (by rfl) (by rfl)), [(.d (.bool r100))], (Res.tmp (by rfl) (by rfl) Res.nil), rfl, by rfl, by rfl, by rfl⟩

noncomputable def exchangepointlaw39_IntervalParts (a0 : Int) (a1 : Int) (a2 : Int) (a3 : Int) : Option (Bool) :=
  (exchangepointmill_Mod a0 (60 : Int)).bind fun r1 =>
  (exchangepointmill_Mod a1 (w64 ((w64 ((1 : Int) + r1)) + (1 : Int)))).bind fun r2 =>
  (interval_Choose (w64 ((1 : Int) + r1)) r2).bind fun r3 =>
  (interval_Choose (w64 ((w64 ((1 : Int) + r1)) - (1 : Int))) (minI r2 (w64 ((w64 ((1 : Int) + r1)) - (1 : Int))))).bind fun r4 =>
  (if ((r3.2 != (0 : Int)) || (r4.2 != (0 : Int))) = true then
  some false
  else
  jn (fun _ : Unit =>
  (exchangepointmill_Mod a2 (w64 ((w64 ((1 : Int) + r1)) + (1 : Int)))).bind fun r11 =>
  (exchangepointmill_Mod a3 (w64 (r2 + (3 : Int)))).bind fun r12 =>
  (interval_AtLeast (w64 ((1 : Int) + r1)) r2 r11 (w64 (r12 - (1 : Int)))).bind fun r13 =>
  (interval_AtMost (w64 ((1 : Int) + r1)) r2 r11 (w64 ((w64 (r12 - (1 : Int))) - (1 : Int)))).bind fun r14 =>
  jn (fun m17 : Bool =>
  some m17) (fun j18 =>
  (if (((r13.2 == (0 : Int)) && (r14.2 == (0 : Int))) && ((w64 (r13.1 + r14.1)) == r3.1)) = true then
  (exchangepointlaw39_awake).bind fun r20 =>
  j18 r20
  else
  j18 false))) (fun j10 =>
  (if ((decide ((0 : Int) < r2)) && (decide (r2 < (w64 ((1 : Int) + r1))))) = true then
  (interval_Choose (w64 ((w64 ((1 : Int) + r1)) - (1 : Int))) (w64 (r2 - (1 : Int)))).bind fun r22 =>
  (if ((r22.2 != (0 : Int)) || ((w64 (r4.1 + r22.1)) != r3.1)) = true then
  some false
  else
  j10 ())
  else
  j10 ())))
set_option maxHeartbeats 4000000 in
set_option maxRecDepth 100000 in
theorem exchangepointlaw39_IntervalParts_ac (a0 : Int) (a1 : Int) (a2 : Int) (a3 : Int) (r : Bool) (h : exchangepointlaw39_IntervalParts a0 a1 a2 a3 = some r) : AC Try.prog 4 [(.d (.int .i64 a0)), (.d (.int .i64 a1)), (.d (.int .i64 a2)), (.d (.int .i64 a3))] [] (.d (.bool r)) [] := by
  refine AC.of_code2 Try.func4 rfl rfl (Nat.le_of_ble_eq_true (by rfl)) fun B hB hN => ?_
  delta exchangepointlaw39_IntervalParts at h
  refine AWp.seq ?_
  refine AWp.region (OpJs.cons (OpJ.assign (ltN hN rfl) (Opd.bool false))
  (OpJs.nil)) (by rfl) (by rfl) ?_
  refine seqQ_n ?_
  refine AWp.ghost (Mat.pat [] [(0, (.d (.int .i64 a0))), (1, (.d (.int .i64 a1))), (2, (.d (.int .i64 a2))), (3, (.d (.int .i64 a3)))] [] hB (by rfl) (by rfl) (by rfl)) ?_
  refine AWp.seq ?_
  obtain ⟨r1, hr1, h⟩ := bindS h
  refine AWp.region (OpJs.cons (OpJ.move (ltN hN rfl) (Opd.tmp 0 (.d (.int .i64 a0))))
  (OpJs.cons (OpJ.callFn hB fnOk9 (exchangepointmill_Mod_ac a0 (60 : Int) r1 hr1) [] (by kernel_rfl) (ltN hN rfl) (by kernel_rfl) (OpdL.cons (Opd.tmp 23 (.d (.int .i64 a0))) (OpdL.cons (Opd.int .i64 (60)) OpdL.nil)))
  (OpJs.cons (OpJ.add (ltN hN rfl) (Opd.int .i64 (1)) (Opd.tmp 24 (.d (.int .i64 r1))))
  (OpJs.cons (OpJ.assign (ltN hN rfl) (Opd.tmp 25 (.d (.int .i64 (w64 ((1 : Int) + r1))))))
  (OpJs.nil))))) (by rfl) (by rfl) ?_
  refine seqQ_n ?_
  refine AWp.ghost (Mat.pat [] [(1, (.d (.int .i64 a1))), (2, (.d (.int .i64 a2))), (3, (.d (.int .i64 a3))), (9, (.d (.int .i64 (w64 ((1 : Int) + r1)))))] [] hB (by rfl) (by rfl) (by rfl)) ?_
  refine AWp.seq ?_
  obtain ⟨r2, hr2, h⟩ := bindS h
  refine AWp.region (OpJs.cons (OpJ.move (ltN hN rfl) (Opd.tmp 1 (.d (.int .i64 a1))))
  (OpJs.cons (OpJ.move (ltN hN rfl) (Opd.tmp 9 (.d (.int .i64 (w64 ((1 : Int) + r1))))))
  (OpJs.cons (OpJ.add (ltN hN rfl) (Opd.tmp 27 (.d (.int .i64 (w64 ((1 : Int) + r1))))) (Opd.int .i64 (1)))
  (OpJs.cons (OpJ.callFn hB fnOk9 (exchangepointmill_Mod_ac a1 (w64 ((w64 ((1 : Int) + r1)) + (1 : Int))) r2 hr2) [] (by kernel_rfl) (ltN hN rfl) (by kernel_rfl) (OpdL.cons (Opd.tmp 26 (.d (.int .i64 a1))) (OpdL.cons (Opd.tmp 28 (.d (.int .i64 (w64 ((w64 ((1 : Int) + r1)) + (1 : Int)))))) OpdL.nil)))
  (OpJs.cons (OpJ.assign (ltN hN rfl) (Opd.tmp 29 (.d (.int .i64 r2))))
  (OpJs.nil)))))) (by rfl) (by rfl) ?_
  refine seqQ_n ?_
  refine AWp.ghost (Mat.pat [] [(2, (.d (.int .i64 a2))), (3, (.d (.int .i64 a3))), (9, (.d (.int .i64 (w64 ((1 : Int) + r1))))), (10, (.d (.int .i64 r2)))] [] hB (by rfl) (by rfl) (by rfl)) ?_
  refine AWp.seq ?_
  obtain ⟨r3, hr3, h⟩ := bindS h
  refine AWp.region (OpJs.cons (OpJ.move (ltN hN rfl) (Opd.tmp 9 (.d (.int .i64 (w64 ((1 : Int) + r1))))))
  (OpJs.cons (OpJ.move (ltN hN rfl) (Opd.tmp 10 (.d (.int .i64 r2))))
  (OpJs.cons (OpJ.callFn hB fnOk10 (interval_Choose_ac (w64 ((1 : Int) + r1)) r2 r3 hr3) [] (by kernel_rfl) (ltN hN rfl) (by kernel_rfl) (OpdL.cons (Opd.tmp 31 (.d (.int .i64 (w64 ((1 : Int) + r1))))) (OpdL.cons (Opd.tmp 32 (.d (.int .i64 r2))) OpdL.nil)))
  (OpJs.cons (OpJ.move (ltN hN rfl) (Opd.tmp 33 (.tup [(.d (.int .i64 r3.1)), (.d (.int .i64 r3.2))])))
  (OpJs.cons (OpJ.extract (v := (.d (.int .i64 r3.1))) (by rfl) rfl (ltN hN rfl) (Opd.tmp 30 (.tup [(.d (.int .i64 r3.1)), (.d (.int .i64 r3.2))])))
  (OpJs.cons (OpJ.extract (v := (.d (.int .i64 r3.2))) (by rfl) rfl (ltN hN rfl) (Opd.tmp 30 (.tup [(.d (.int .i64 r3.1)), (.d (.int .i64 r3.2))])))
  (OpJs.cons (OpJ.assign (ltN hN rfl) (Opd.tmp 34 (.d (.int .i64 r3.1))))
  (OpJs.cons (OpJ.assign (ltN hN rfl) (Opd.tmp 35 (.d (.int .i64 r3.2))))
  (OpJs.nil))))))))) (by rfl) (by rfl) ?_
  refine seqQ_n ?_
  refine AWp.ghost (Mat.pat [] [(2, (.d (.int .i64 a2))), (3, (.d (.int .i64 a3))), (9, (.d (.int .i64 (w64 ((1 : Int) + r1))))), (10, (.d (.int .i64 r2))), (11, (.d (.int .i64 r3.1))), (12, (.d (.int .i64 r3.2)))] [] hB (by rfl) (by rfl) (by rfl)) ?_
  refine AWp.seq ?_
  obtain ⟨r4, hr4, h⟩ := bindS h
  refine AWp.region (OpJs.cons (OpJ.move (ltN hN rfl) (Opd.tmp 9 (.d (.int .i64 (w64 ((1 : Int) + r1))))))
  (OpJs.cons (OpJ.sub (ltN hN rfl) (Opd.tmp 37 (.d (.int .i64 (w64 ((1 : Int) + r1))))) (Opd.int .i64 (1)))
  (OpJs.cons (OpJ.move (ltN hN rfl) (Opd.tmp 10 (.d (.int .i64 r2))))
  (OpJs.cons (OpJ.move (ltN hN rfl) (Opd.tmp 9 (.d (.int .i64 (w64 ((1 : Int) + r1))))))
  (OpJs.cons (OpJ.sub (ltN hN rfl) (Opd.tmp 40 (.d (.int .i64 (w64 ((1 : Int) + r1))))) (Opd.int .i64 (1)))
  (OpJs.cons (OpJ.min (ltN hN rfl) (Opd.tmp 39 (.d (.int .i64 r2))) (Opd.tmp 41 (.d (.int .i64 (w64 ((w64 ((1 : Int) + r1)) - (1 : Int)))))))
  (OpJs.cons (OpJ.callFn hB fnOk10 (interval_Choose_ac (w64 ((w64 ((1 : Int) + r1)) - (1 : Int))) (minI r2 (w64 ((w64 ((1 : Int) + r1)) - (1 : Int)))) r4 hr4) [] (by kernel_rfl) (ltN hN rfl) (by kernel_rfl) (OpdL.cons (Opd.tmp 38 (.d (.int .i64 (w64 ((w64 ((1 : Int) + r1)) - (1 : Int)))))) (OpdL.cons (Opd.tmp 42 (.d (.int .i64 (minI r2 (w64 ((w64 ((1 : Int) + r1)) - (1 : Int))))))) OpdL.nil)))
  (OpJs.cons (OpJ.move (ltN hN rfl) (Opd.tmp 43 (.tup [(.d (.int .i64 r4.1)), (.d (.int .i64 r4.2))])))
  (OpJs.cons (OpJ.extract (v := (.d (.int .i64 r4.1))) (by rfl) rfl (ltN hN rfl) (Opd.tmp 36 (.tup [(.d (.int .i64 r4.1)), (.d (.int .i64 r4.2))])))
  (OpJs.cons (OpJ.extract (v := (.d (.int .i64 r4.2))) (by rfl) rfl (ltN hN rfl) (Opd.tmp 36 (.tup [(.d (.int .i64 r4.1)), (.d (.int .i64 r4.2))])))
  (OpJs.cons (OpJ.assign (ltN hN rfl) (Opd.tmp 44 (.d (.int .i64 r4.1))))
  (OpJs.cons (OpJ.assign (ltN hN rfl) (Opd.tmp 45 (.d (.int .i64 r4.2))))
  (OpJs.nil))))))))))))) (by rfl) (by rfl) ?_
  refine seqQ_n ?_
  refine AWp.ghost (Mat.pat [] [(2, (.d (.int .i64 a2))), (3, (.d (.int .i64 a3))), (9, (.d (.int .i64 (w64 ((1 : Int) + r1))))), (10, (.d (.int .i64 r2))), (11, (.d (.int .i64 r3.1))), (12, (.d (.int .i64 r3.2))), (13, (.d (.int .i64 r4.1))), (14, (.d (.int .i64 r4.2)))] [] hB (by rfl) (by rfl) (by rfl)) ?_
  refine AWp.seq ?_
  refine AWp.seq ?_
  refine AWp.region (OpJs.cons (OpJ.move (ltN hN rfl) (Opd.tmp 12 (.d (.int .i64 r3.2))))
  (OpJs.cons (OpJ.neqI (ltN hN rfl) (Opd.tmp 46 (.d (.int .i64 r3.2))) (Opd.int .i64 (0)))
  (OpJs.cons (OpJ.move (ltN hN rfl) (Opd.tmp 47 (.d (.bool (r3.2 != (0 : Int))))))
  (OpJs.cons (OpJ.opt' (v := (.d (.int .i64 r4.2))) (OpJ.move (ltN hN rfl) (Opd.tmp 14 (.d (.int .i64 r4.2)))) (by rfl) (GuardV.plain _) (ltN hN rfl) (by rfl) (by rfl) (by rfl) (by rfl) (OptL.keep rfl OptL.nil))
  (OpJs.cons (OpJ.opt' (v := (.d (.bool (r4.2 != (0 : Int))))) (OpJ.neqI (ltN hN rfl) (Opd.tmp 49 (.d (.int .i64 r4.2))) (Opd.int .i64 (0))) (by rfl) (GuardV.plain _) (ltN hN rfl) (by rfl) (by rfl) (by rfl) (by rfl) (OptL.opt OptL.nil))
  (OpJs.cons (OpJ.pickOr rfl (ltN hN rfl) (Opd.tmp 48 (.d (.bool (r3.2 != (0 : Int))))) (Opd.tmp 50 (.opt ((r3.2 != (0 : Int)) == false) (.d (.bool (r4.2 != (0 : Int)))))))
  (OpJs.nil))))))) (by rfl) (by rfl) ?_
  refine seqQ_n ?_
  refine AWp.ghost (Mat.pat [] [(2, (.d (.int .i64 a2))), (3, (.d (.int .i64 a3))), (9, (.d (.int .i64 (w64 ((1 : Int) + r1))))), (10, (.d (.int .i64 r2))), (11, (.d (.int .i64 r3.1))), (13, (.d (.int .i64 r4.1))), (51, (.d (.bool ((r3.2 != (0 : Int)) || (r4.2 != (0 : Int))))))] [] hB (by rfl) (by rfl) (by rfl)) ?_
  refine AWp.cond (b := ((r3.2 != (0 : Int)) || (r4.2 != (0 : Int)))) (by rfl) (fun hg5 => ?_) (fun hg5 => ?_)
  · replace h := ite_t hg5 h
    refine AWp.seq ?_
    refine AWp.region (OpJs.cons (OpJ.assign (ltN hN rfl) (Opd.bool false))
      (OpJs.nil)) (by rfl) (by rfl) ?_
    refine seqQ_n ?_
    refine AWp.ghost (Mat.pat [] [(8, (.d (.bool false)))] [] hB (by rfl) (by rfl) (by rfl)) ?_
    refine AWp.ret ?_
    refine seqQ_r ?_
    obtain rfl := Option.some.inj h
    exact ⟨.inl rfl, _, _, (Mat.pat [] [(8, (.d (.bool false)))] [] hB (by rfl) (by rfl) (by rfl)), [(.d (.bool false))], (Res.tmp (by rfl) (by rfl) Res.nil), rfl, by rfl, by rfl, by rfl⟩
  · replace h := ite_f hg5 h
    refine AWp.skip ?_
    refine seqQ_n ?_
    refine AWp.seq ?_
    refine AWp.seq ?_
    refine AWp.region (OpJs.cons (OpJ.move (ltN hN rfl) (Opd.tmp 10 (.d (.int .i64 r2))))
      (OpJs.cons (OpJ.gtr (ltN hN rfl) (Opd.tmp 52 (.d (.int .i64 r2))) (Opd.int .i64 (0)))
      (OpJs.cons (OpJ.move (ltN hN rfl) (Opd.tmp 53 (.d (.bool (decide ((0 : Int) < r2))))))
      (OpJs.cons (OpJ.opt' (v := (.d (.int .i64 r2))) (OpJ.move (ltN hN rfl) (Opd.tmp 10 (.d (.int .i64 r2)))) (by rfl) (GuardV.plain _) (ltN hN rfl) (by rfl) (by rfl) (by rfl) (by rfl) (OptL.keep rfl OptL.nil))
      (OpJs.cons (OpJ.opt' (v := (.d (.int .i64 (w64 ((1 : Int) + r1))))) (OpJ.move (ltN hN rfl) (Opd.tmp 9 (.d (.int .i64 (w64 ((1 : Int) + r1)))))) (by rfl) (GuardV.plain _) (ltN hN rfl) (by rfl) (by rfl) (by rfl) (by rfl) (OptL.keep rfl OptL.nil))
      (OpJs.cons (OpJ.opt' (v := (.d (.bool (decide (r2 < (w64 ((1 : Int) + r1))))))) (OpJ.lss (ltN hN rfl) (Opd.tmp 55 (.d (.int .i64 r2))) (Opd.tmp 56 (.d (.int .i64 (w64 ((1 : Int) + r1)))))) (by rfl) (GuardV.plain _) (ltN hN rfl) (by rfl) (by rfl) (by rfl) (by rfl) (OptL.opt (OptL.opt OptL.nil)))
      (OpJs.cons (OpJ.pickAnd rfl (ltN hN rfl) (Opd.tmp 54 (.d (.bool (decide ((0 : Int) < r2))))) (Opd.tmp 57 (.opt ((decide ((0 : Int) < r2)) == true) (.d (.bool (decide (r2 < (w64 ((1 : Int) + r1)))))))))
      (OpJs.nil)))))))) (by rfl) (by rfl) ?_
    refine seqQ_n ?_
    refine AWp.ghost (Mat.pat [] [(2, (.d (.int .i64 a2))), (3, (.d (.int .i64 a3))), (9, (.d (.int .i64 (w64 ((1 : Int) + r1))))), (10, (.d (.int .i64 r2))), (11, (.d (.int .i64 r3.1))), (13, (.d (.int .i64 r4.1))), (58, (.d (.bool ((decide ((0 : Int) < r2)) && (decide (r2 < (w64 ((1 : Int) + r1))))))))] [] hB (by rfl) (by rfl) (by rfl)) ?_
    refine AWp.cut h (fun _ : Unit => ([(2, (.d (.int .i64 a2))), (3, (.d (.int .i64 a3))), (9, (.d (.int .i64 (w64 ((1 : Int) + r1))))), (10, (.d (.int .i64 r2))), (11, (.d (.int .i64 r3.1)))] : EL)) (fun _ : Unit => ([] : OL)) (fun _m h E' O' hmat => ?_) (fun j10 hjj10 h => ?_)
    · refine seqQ_n ?_
      refine AWp.ghost hmat ?_
      refine AWp.seq ?_
      obtain ⟨r11, hr11, h⟩ := bindS h
      obtain ⟨r12, hr12, h⟩ := bindS h
      refine AWp.region (OpJs.cons (OpJ.move (ltN hN rfl) (Opd.tmp 2 (.d (.int .i64 a2))))
        (OpJs.cons (OpJ.move (ltN hN rfl) (Opd.tmp 9 (.d (.int .i64 (w64 ((1 : Int) + r1))))))
        (OpJs.cons (OpJ.add (ltN hN rfl) (Opd.tmp 77 (.d (.int .i64 (w64 ((1 : Int) + r1))))) (Opd.int .i64 (1)))
        (OpJs.cons (OpJ.callFn hB fnOk9 (exchangepointmill_Mod_ac a2 (w64 ((w64 ((1 : Int) + r1)) + (1 : Int))) r11 hr11) [] (by kernel_rfl) (ltN hN rfl) (by kernel_rfl) (OpdL.cons (Opd.tmp 76 (.d (.int .i64 a2))) (OpdL.cons (Opd.tmp 78 (.d (.int .i64 (w64 ((w64 ((1 : Int) + r1)) + (1 : Int)))))) OpdL.nil)))
        (OpJs.cons (OpJ.move (ltN hN rfl) (Opd.tmp 3 (.d (.int .i64 a3))))
        (OpJs.cons (OpJ.move (ltN hN rfl) (Opd.tmp 10 (.d (.int .i64 r2))))
        (OpJs.cons (OpJ.add (ltN hN rfl) (Opd.tmp 81 (.d (.int .i64 r2))) (Opd.int .i64 (3)))
        (OpJs.cons (OpJ.callFn hB fnOk9 (exchangepointmill_Mod_ac a3 (w64 (r2 + (3 : Int))) r12 hr12) [] (by kernel_rfl) (ltN hN rfl) (by kernel_rfl) (OpdL.cons (Opd.tmp 80 (.d (.int .i64 a3))) (OpdL.cons (Opd.tmp 82 (.d (.int .i64 (w64 (r2 + (3 : Int)))))) OpdL.nil)))
        (OpJs.cons (OpJ.sub (ltN hN rfl) (Opd.tmp 83 (.d (.int .i64 r12))) (Opd.int .i64 (1)))
        (OpJs.cons (OpJ.assign (ltN hN rfl) (Opd.tmp 79 (.d (.int .i64 r11))))
        (OpJs.cons (OpJ.assign (ltN hN rfl) (Opd.tmp 84 (.d (.int .i64 (w64 (r12 - (1 : Int)))))))
        (OpJs.nil)))))))))))) (by rfl) (by rfl) ?_
      refine seqQ_n ?_
      refine AWp.ghost (Mat.pat [] [(9, (.d (.int .i64 (w64 ((1 : Int) + r1))))), (10, (.d (.int .i64 r2))), (11, (.d (.int .i64 r3.1))), (17, (.d (.int .i64 r11))), (18, (.d (.int .i64 (w64 (r12 - (1 : Int))))))] [] hB (by rfl) (by rfl) (by rfl)) ?_
      refine AWp.seq ?_
      obtain ⟨r13, hr13, h⟩ := bindS h
      refine AWp.region (OpJs.cons (OpJ.move (ltN hN rfl) (Opd.tmp 9 (.d (.int .i64 (w64 ((1 : Int) + r1))))))
        (OpJs.cons (OpJ.move (ltN hN rfl) (Opd.tmp 10 (.d (.int .i64 r2))))
        (OpJs.cons (OpJ.move (ltN hN rfl) (Opd.tmp 17 (.d (.int .i64 r11))))
        (OpJs.cons (OpJ.move (ltN hN rfl) (Opd.tmp 18 (.d (.int .i64 (w64 (r12 - (1 : Int)))))))
        (OpJs.cons (OpJ.callFn hB fnOk12 (interval_AtLeast_ac (w64 ((1 : Int) + r1)) r2 r11 (w64 (r12 - (1 : Int))) r13 hr13) [] (by kernel_rfl) (ltN hN rfl) (by kernel_rfl) (OpdL.cons (Opd.tmp 86 (.d (.int .i64 (w64 ((1 : Int) + r1))))) (OpdL.cons (Opd.tmp 87 (.d (.int .i64 r2))) (OpdL.cons (Opd.tmp 88 (.d (.int .i64 r11))) (OpdL.cons (Opd.tmp 89 (.d (.int .i64 (w64 (r12 - (1 : Int)))))) OpdL.nil)))))
        (OpJs.cons (OpJ.move (ltN hN rfl) (Opd.tmp 90 (.tup [(.d (.int .i64 r13.1)), (.d (.int .i64 r13.2))])))
        (OpJs.cons (OpJ.extract (v := (.d (.int .i64 r13.1))) (by rfl) rfl (ltN hN rfl) (Opd.tmp 85 (.tup [(.d (.int .i64 r13.1)), (.d (.int .i64 r13.2))])))
        (OpJs.cons (OpJ.extract (v := (.d (.int .i64 r13.2))) (by rfl) rfl (ltN hN rfl) (Opd.tmp 85 (.tup [(.d (.int .i64 r13.1)), (.d (.int .i64 r13.2))])))
        (OpJs.cons (OpJ.assign (ltN hN rfl) (Opd.tmp 91 (.d (.int .i64 r13.1))))
        (OpJs.cons (OpJ.assign (ltN hN rfl) (Opd.tmp 92 (.d (.int .i64 r13.2))))
        (OpJs.nil))))))))))) (by rfl) (by rfl) ?_
      refine seqQ_n ?_
      refine AWp.ghost (Mat.pat [] [(9, (.d (.int .i64 (w64 ((1 : Int) + r1))))), (10, (.d (.int .i64 r2))), (11, (.d (.int .i64 r3.1))), (17, (.d (.int .i64 r11))), (18, (.d (.int .i64 (w64 (r12 - (1 : Int)))))), (19, (.d (.int .i64 r13.1))), (20, (.d (.int .i64 r13.2)))] [] hB (by rfl) (by rfl) (by rfl)) ?_
      refine AWp.seq ?_
      obtain ⟨r14, hr14, h⟩ := bindS h
      refine AWp.region (OpJs.cons (OpJ.move (ltN hN rfl) (Opd.tmp 9 (.d (.int .i64 (w64 ((1 : Int) + r1))))))
        (OpJs.cons (OpJ.move (ltN hN rfl) (Opd.tmp 10 (.d (.int .i64 r2))))
        (OpJs.cons (OpJ.move (ltN hN rfl) (Opd.tmp 17 (.d (.int .i64 r11))))
        (OpJs.cons (OpJ.move (ltN hN rfl) (Opd.tmp 18 (.d (.int .i64 (w64 (r12 - (1 : Int)))))))
        (OpJs.cons (OpJ.sub (ltN hN rfl) (Opd.tmp 97 (.d (.int .i64 (w64 (r12 - (1 : Int)))))) (Opd.int .i64 (1)))
        (OpJs.cons (OpJ.callFn hB fnOk14 (interval_AtMost_ac (w64 ((1 : Int) + r1)) r2 r11 (w64 ((w64 (r12 - (1 : Int))) - (1 : Int))) r14 hr14) [] (by kernel_rfl) (ltN hN rfl) (by kernel_rfl) (OpdL.cons (Opd.tmp 94 (.d (.int .i64 (w64 ((1 : Int) + r1))))) (OpdL.cons (Opd.tmp 95 (.d (.int .i64 r2))) (OpdL.cons (Opd.tmp 96 (.d (.int .i64 r11))) (OpdL.cons (Opd.tmp 98 (.d (.int .i64 (w64 ((w64 (r12 - (1 : Int))) - (1 : Int)))))) OpdL.nil)))))
        (OpJs.cons (OpJ.move (ltN hN rfl) (Opd.tmp 99 (.tup [(.d (.int .i64 r14.1)), (.d (.int .i64 r14.2))])))
        (OpJs.cons (OpJ.extract (v := (.d (.int .i64 r14.1))) (by rfl) rfl (ltN hN rfl) (Opd.tmp 93 (.tup [(.d (.int .i64 r14.1)), (.d (.int .i64 r14.2))])))
        (OpJs.cons (OpJ.extract (v := (.d (.int .i64 r14.2))) (by rfl) rfl (ltN hN rfl) (Opd.tmp 93 (.tup [(.d (.int .i64 r14.1)), (.d (.int .i64 r14.2))])))
        (OpJs.cons (OpJ.assign (ltN hN rfl) (Opd.tmp 100 (.d (.int .i64 r14.1))))
        (OpJs.cons (OpJ.assign (ltN hN rfl) (Opd.tmp 101 (.d (.int .i64 r14.2))))
        (OpJs.nil)))))))))))) (by rfl) (by rfl) ?_
      refine seqQ_n ?_
      refine AWp.ghost (Mat.pat [] [(11, (.d (.int .i64 r3.1))), (19, (.d (.int .i64 r13.1))), (20, (.d (.int .i64 r13.2))), (21, (.d (.int .i64 r14.1))), (22, (.d (.int .i64 r14.2)))] [] hB (by rfl) (by rfl) (by rfl)) ?_
      refine AWp.seq ?_
      refine AWp.cut h (fun m17 : Bool => ([(8, (.d (.bool m17)))] : EL)) (fun m17 : Bool => ([] : OL)) (fun m17 h E' O' hmat => ?_) (fun j18 hjj18 h => ?_)
      · refine seqQ_n ?_
        refine AWp.ghost hmat ?_
        refine AWp.ret ?_
        obtain rfl := Option.some.inj h
        exact ⟨.inl rfl, _, _, (Mat.pat [] [(8, (.d (.bool m17)))] [] hB (by rfl) (by rfl) (by rfl)), [(.d (.bool m17))], (Res.tmp (by rfl) (by rfl) Res.nil), rfl, by rfl, by rfl, by rfl⟩
      · rcases Bool.eq_false_or_eq_true (((r13.2 == (0 : Int)) && (r14.2 == (0 : Int))) && ((w64 (r13.1 + r14.1)) == r3.1)) with hg19 | hg19
        · replace h := ite_t hg19 h
          obtain ⟨r20, hr20, h⟩ := bindS h
          refine AWp.region (OpJs.cons (OpJ.move (ltN hN rfl) (Opd.tmp 20 (.d (.int .i64 r13.2))))
            (OpJs.cons (OpJ.eqlI (ltN hN rfl) (Opd.tmp 102 (.d (.int .i64 r13.2))) (Opd.int .i64 (0)))
            (OpJs.cons (OpJ.move (ltN hN rfl) (Opd.tmp 103 (.d (.bool (r13.2 == (0 : Int))))))
            (OpJs.cons (OpJ.opt' (v := (.d (.int .i64 r14.2))) (OpJ.move (ltN hN rfl) (Opd.tmp 22 (.d (.int .i64 r14.2)))) (by rfl) (GuardV.plain _) (ltN hN rfl) (by rfl) (by rfl) (by rfl) (by rfl) (OptL.keep rfl OptL.nil))
            (OpJs.cons (OpJ.opt' (v := (.d (.bool (r14.2 == (0 : Int))))) (OpJ.eqlI (ltN hN rfl) (Opd.tmp 105 (.d (.int .i64 r14.2))) (Opd.int .i64 (0))) (by rfl) (GuardV.plain _) (ltN hN rfl) (by rfl) (by rfl) (by rfl) (by rfl) (OptL.opt OptL.nil))
            (OpJs.cons (OpJ.pickAnd rfl (ltN hN rfl) (Opd.tmp 104 (.d (.bool (r13.2 == (0 : Int))))) (Opd.tmp 106 (.opt ((r13.2 == (0 : Int)) == true) (.d (.bool (r14.2 == (0 : Int)))))))
            (OpJs.cons (OpJ.move (ltN hN rfl) (Opd.tmp 107 (.d (.bool ((r13.2 == (0 : Int)) && (r14.2 == (0 : Int)))))))
            (OpJs.cons (OpJ.opt' (v := (.d (.int .i64 r13.1))) (OpJ.move (ltN hN rfl) (Opd.tmp 19 (.d (.int .i64 r13.1)))) (by rfl) (GuardV.plain _) (ltN hN rfl) (by rfl) (by rfl) (by rfl) (by rfl) (OptL.keep rfl OptL.nil))
            (OpJs.cons (OpJ.opt' (v := (.d (.int .i64 r14.1))) (OpJ.move (ltN hN rfl) (Opd.tmp 21 (.d (.int .i64 r14.1)))) (by rfl) (GuardV.plain _) (ltN hN rfl) (by rfl) (by rfl) (by rfl) (by rfl) (OptL.keep rfl OptL.nil))
            (OpJs.cons (OpJ.opt' (v := (.d (.int .i64 (w64 (r13.1 + r14.1))))) (OpJ.add (ltN hN rfl) (Opd.tmp 109 (.d (.int .i64 r13.1))) (Opd.tmp 110 (.d (.int .i64 r14.1)))) (by rfl) (GuardV.plain _) (ltN hN rfl) (by rfl) (by rfl) (by rfl) (by rfl) (OptL.opt (OptL.opt OptL.nil)))
            (OpJs.cons (OpJ.opt' (v := (.d (.int .i64 r3.1))) (OpJ.move (ltN hN rfl) (Opd.tmp 11 (.d (.int .i64 r3.1)))) (by rfl) (GuardV.plain _) (ltN hN rfl) (by rfl) (by rfl) (by rfl) (by rfl) (OptL.keep rfl OptL.nil))
            (OpJs.cons (OpJ.opt' (v := (.d (.bool ((w64 (r13.1 + r14.1)) == r3.1)))) (OpJ.eqlI (ltN hN rfl) (Opd.tmp 111 (.d (.int .i64 (w64 (r13.1 + r14.1))))) (Opd.tmp 112 (.d (.int .i64 r3.1)))) (by rfl) (GuardV.plain _) (ltN hN rfl) (by rfl) (by rfl) (by rfl) (by rfl) (OptL.opt (OptL.opt OptL.nil)))
            (OpJs.cons (OpJ.pickAnd rfl (ltN hN rfl) (Opd.tmp 108 (.d (.bool ((r13.2 == (0 : Int)) && (r14.2 == (0 : Int)))))) (Opd.tmp 113 (.opt (((r13.2 == (0 : Int)) && (r14.2 == (0 : Int))) == true) (.d (.bool ((w64 (r13.1 + r14.1)) == r3.1))))))
            (OpJs.cons (OpJ.val (v' := .d (.bool true)) (by rw [hg19]) (OpJ.move (ltN hN rfl) (Opd.tmp 114 (.d (.bool (((r13.2 == (0 : Int)) && (r14.2 == (0 : Int))) && ((w64 (r13.1 + r14.1)) == r3.1)))))))
            (OpJs.cons (OpJ.guarded (by rfl) (OpJ.callFn hB fnOk16 (exchangepointlaw39_awake_ac  r20 hr20) [] (by kernel_rfl) (ltN hN rfl) (by kernel_rfl) OpdL.nil))
            (OpJs.cons (OpJ.pickT (ltN hN rfl) (Opd.tmp 115 (.d (.bool true))) (Opd.tmp 116 (.d (.bool r20))))
            (OpJs.cons (OpJ.assign (ltN hN rfl) (Opd.tmp 117 (.d (.bool r20))))
            (OpJs.nil)))))))))))))))))) (by rfl) (by rfl) ?_
          exact hjj18 _ h _ _ (Mat.trans (Mat.pat [] [(8, (.d (.bool r20)))] [] hB (by rfl) (by rfl) (by rfl)) (Mat.pat [] ((fun m17 : Bool => ([(8, (.d (.bool m17)))] : EL)) r20) ((fun m17 : Bool => ([] : OL)) r20) hB (by rfl) (by rfl) (by rfl)))
        · replace h := ite_f hg19 h
          refine AWp.region (OpJs.cons (OpJ.move (ltN hN rfl) (Opd.tmp 20 (.d (.int .i64 r13.2))))
            (OpJs.cons (OpJ.eqlI (ltN hN rfl) (Opd.tmp 102 (.d (.int .i64 r13.2))) (Opd.int .i64 (0)))
            (OpJs.cons (OpJ.move (ltN hN rfl) (Opd.tmp 103 (.d (.bool (r13.2 == (0 : Int))))))
            (OpJs.cons (OpJ.opt' (v := (.d (.int .i64 r14.2))) (OpJ.move (ltN hN rfl) (Opd.tmp 22 (.d (.int .i64 r14.2)))) (by rfl) (GuardV.plain _) (ltN hN rfl) (by rfl) (by rfl) (by rfl) (by rfl) (OptL.keep rfl OptL.nil))
            (OpJs.cons (OpJ.opt' (v := (.d (.bool (r14.2 == (0 : Int))))) (OpJ.eqlI (ltN hN rfl) (Opd.tmp 105 (.d (.int .i64 r14.2))) (Opd.int .i64 (0))) (by rfl) (GuardV.plain _) (ltN hN rfl) (by rfl) (by rfl) (by rfl) (by rfl) (OptL.opt OptL.nil))
            (OpJs.cons (OpJ.pickAnd rfl (ltN hN rfl) (Opd.tmp 104 (.d (.bool (r13.2 == (0 : Int))))) (Opd.tmp 106 (.opt ((r13.2 == (0 : Int)) == true) (.d (.bool (r14.2 == (0 : Int)))))))
            (OpJs.cons (OpJ.move (ltN hN rfl) (Opd.tmp 107 (.d (.bool ((r13.2 == (0 : Int)) && (r14.2 == (0 : Int)))))))
            (OpJs.cons (OpJ.opt' (v := (.d (.int .i64 r13.1))) (OpJ.move (ltN hN rfl) (Opd.tmp 19 (.d (.int .i64 r13.1)))) (by rfl) (GuardV.plain _) (ltN hN rfl) (by rfl) (by rfl) (by rfl) (by rfl) (OptL.keep rfl OptL.nil))
            (OpJs.cons (OpJ.opt' (v := (.d (.int .i64 r14.1))) (OpJ.move (ltN hN rfl) (Opd.tmp 21 (.d (.int .i64 r14.1)))) (by rfl) (GuardV.plain _) (ltN hN rfl) (by rfl) (by rfl) (by rfl) (by rfl) (OptL.keep rfl OptL.nil))
            (OpJs.cons (OpJ.opt' (v := (.d (.int .i64 (w64 (r13.1 + r14.1))))) (OpJ.add (ltN hN rfl) (Opd.tmp 109 (.d (.int .i64 r13.1))) (Opd.tmp 110 (.d (.int .i64 r14.1)))) (by rfl) (GuardV.plain _) (ltN hN rfl) (by rfl) (by rfl) (by rfl) (by rfl) (OptL.opt (OptL.opt OptL.nil)))
            (OpJs.cons (OpJ.opt' (v := (.d (.int .i64 r3.1))) (OpJ.move (ltN hN rfl) (Opd.tmp 11 (.d (.int .i64 r3.1)))) (by rfl) (GuardV.plain _) (ltN hN rfl) (by rfl) (by rfl) (by rfl) (by rfl) (OptL.keep rfl OptL.nil))
            (OpJs.cons (OpJ.opt' (v := (.d (.bool ((w64 (r13.1 + r14.1)) == r3.1)))) (OpJ.eqlI (ltN hN rfl) (Opd.tmp 111 (.d (.int .i64 (w64 (r13.1 + r14.1))))) (Opd.tmp 112 (.d (.int .i64 r3.1)))) (by rfl) (GuardV.plain _) (ltN hN rfl) (by rfl) (by rfl) (by rfl) (by rfl) (OptL.opt (OptL.opt OptL.nil)))
            (OpJs.cons (OpJ.pickAnd rfl (ltN hN rfl) (Opd.tmp 108 (.d (.bool ((r13.2 == (0 : Int)) && (r14.2 == (0 : Int)))))) (Opd.tmp 113 (.opt (((r13.2 == (0 : Int)) && (r14.2 == (0 : Int))) == true) (.d (.bool ((w64 (r13.1 + r14.1)) == r3.1))))))
            (OpJs.cons (OpJ.val (v' := .d (.bool false)) (by rw [hg19]) (OpJ.move (ltN hN rfl) (Opd.tmp 114 (.d (.bool (((r13.2 == (0 : Int)) && (r14.2 == (0 : Int))) && ((w64 (r13.1 + r14.1)) == r3.1)))))))
            (OpJs.cons (OpJ.skipU (ltN hN rfl) (by rfl))
            (OpJs.cons (OpJ.pickF (ltN hN rfl) (Opd.tmp 115 (.d (.bool false))) (Opd.bool false))
            (OpJs.cons (OpJ.assign (ltN hN rfl) (Opd.tmp 117 (.d (.bool false))))
            (OpJs.nil)))))))))))))))))) (by rfl) (by rfl) ?_
          exact hjj18 _ h _ _ (Mat.trans (Mat.pat [] [(8, (.d (.bool false)))] [] hB (by rfl) (by rfl) (by rfl)) (Mat.pat [] ((fun m17 : Bool => ([(8, (.d (.bool m17)))] : EL)) false) ((fun m17 : Bool => ([] : OL)) false) hB (by rfl) (by rfl) (by rfl)))
    · refine AWp.cond (b := ((decide ((0 : Int) < r2)) && (decide (r2 < (w64 ((1 : Int) + r1)))))) (by rfl) (fun hg21 => ?_) (fun hg21 => ?_)
      · replace h := ite_t hg21 h
        refine AWp.seq ?_
        obtain ⟨r22, hr22, h⟩ := bindS h
        refine AWp.region (OpJs.cons (OpJ.move (ltN hN rfl) (Opd.tmp 9 (.d (.int .i64 (w64 ((1 : Int) + r1))))))
          (OpJs.cons (OpJ.sub (ltN hN rfl) (Opd.tmp 60 (.d (.int .i64 (w64 ((1 : Int) + r1))))) (Opd.int .i64 (1)))
          (OpJs.cons (OpJ.move (ltN hN rfl) (Opd.tmp 10 (.d (.int .i64 r2))))
          (OpJs.cons (OpJ.sub (ltN hN rfl) (Opd.tmp 62 (.d (.int .i64 r2))) (Opd.int .i64 (1)))
          (OpJs.cons (OpJ.callFn hB fnOk10 (interval_Choose_ac (w64 ((w64 ((1 : Int) + r1)) - (1 : Int))) (w64 (r2 - (1 : Int))) r22 hr22) [] (by kernel_rfl) (ltN hN rfl) (by kernel_rfl) (OpdL.cons (Opd.tmp 61 (.d (.int .i64 (w64 ((w64 ((1 : Int) + r1)) - (1 : Int)))))) (OpdL.cons (Opd.tmp 63 (.d (.int .i64 (w64 (r2 - (1 : Int)))))) OpdL.nil)))
          (OpJs.cons (OpJ.move (ltN hN rfl) (Opd.tmp 64 (.tup [(.d (.int .i64 r22.1)), (.d (.int .i64 r22.2))])))
          (OpJs.cons (OpJ.extract (v := (.d (.int .i64 r22.1))) (by rfl) rfl (ltN hN rfl) (Opd.tmp 59 (.tup [(.d (.int .i64 r22.1)), (.d (.int .i64 r22.2))])))
          (OpJs.cons (OpJ.extract (v := (.d (.int .i64 r22.2))) (by rfl) rfl (ltN hN rfl) (Opd.tmp 59 (.tup [(.d (.int .i64 r22.1)), (.d (.int .i64 r22.2))])))
          (OpJs.cons (OpJ.assign (ltN hN rfl) (Opd.tmp 65 (.d (.int .i64 r22.1))))
          (OpJs.cons (OpJ.assign (ltN hN rfl) (Opd.tmp 66 (.d (.int .i64 r22.2))))
          (OpJs.nil))))))))))) (by rfl) (by rfl) ?_
        refine seqQ_n ?_
        refine AWp.ghost (Mat.pat [] [(2, (.d (.int .i64 a2))), (3, (.d (.int .i64 a3))), (9, (.d (.int .i64 (w64 ((1 : Int) + r1))))), (10, (.d (.int .i64 r2))), (11, (.d (.int .i64 r3.1))), (13, (.d (.int .i64 r4.1))), (15, (.d (.int .i64 r22.1))), (16, (.d (.int .i64 r22.2)))] [] hB (by rfl) (by rfl) (by rfl)) ?_
        refine AWp.seq ?_
        refine AWp.region (OpJs.cons (OpJ.move (ltN hN rfl) (Opd.tmp 16 (.d (.int .i64 r22.2))))
          (OpJs.cons (OpJ.neqI (ltN hN rfl) (Opd.tmp 67 (.d (.int .i64 r22.2))) (Opd.int .i64 (0)))
          (OpJs.cons (OpJ.move (ltN hN rfl) (Opd.tmp 68 (.d (.bool (r22.2 != (0 : Int))))))
          (OpJs.cons (OpJ.opt' (v := (.d (.int .i64 r4.1))) (OpJ.move (ltN hN rfl) (Opd.tmp 13 (.d (.int .i64 r4.1)))) (by rfl) (GuardV.plain _) (ltN hN rfl) (by rfl) (by rfl) (by rfl) (by rfl) (OptL.keep rfl OptL.nil))
          (OpJs.cons (OpJ.opt' (v := (.d (.int .i64 r22.1))) (OpJ.move (ltN hN rfl) (Opd.tmp 15 (.d (.int .i64 r22.1)))) (by rfl) (GuardV.plain _) (ltN hN rfl) (by rfl) (by rfl) (by rfl) (by rfl) (OptL.keep rfl OptL.nil))
          (OpJs.cons (OpJ.opt' (v := (.d (.int .i64 (w64 (r4.1 + r22.1))))) (OpJ.add (ltN hN rfl) (Opd.tmp 70 (.d (.int .i64 r4.1))) (Opd.tmp 71 (.d (.int .i64 r22.1)))) (by rfl) (GuardV.plain _) (ltN hN rfl) (by rfl) (by rfl) (by rfl) (by rfl) (OptL.opt (OptL.opt OptL.nil)))
          (OpJs.cons (OpJ.opt' (v := (.d (.int .i64 r3.1))) (OpJ.move (ltN hN rfl) (Opd.tmp 11 (.d (.int .i64 r3.1)))) (by rfl) (GuardV.plain _) (ltN hN rfl) (by rfl) (by rfl) (by rfl) (by rfl) (OptL.keep rfl OptL.nil))
          (OpJs.cons (OpJ.opt' (v := (.d (.bool ((w64 (r4.1 + r22.1)) != r3.1)))) (OpJ.neqI (ltN hN rfl) (Opd.tmp 72 (.d (.int .i64 (w64 (r4.1 + r22.1))))) (Opd.tmp 73 (.d (.int .i64 r3.1)))) (by rfl) (GuardV.plain _) (ltN hN rfl) (by rfl) (by rfl) (by rfl) (by rfl) (OptL.opt (OptL.opt OptL.nil)))
          (OpJs.cons (OpJ.pickOr rfl (ltN hN rfl) (Opd.tmp 69 (.d (.bool (r22.2 != (0 : Int))))) (Opd.tmp 74 (.opt ((r22.2 != (0 : Int)) == false) (.d (.bool ((w64 (r4.1 + r22.1)) != r3.1))))))
          (OpJs.nil)))))))))) (by rfl) (by rfl) ?_
        refine seqQ_n ?_
        refine AWp.ghost (Mat.pat [] [(2, (.d (.int .i64 a2))), (3, (.d (.int .i64 a3))), (9, (.d (.int .i64 (w64 ((1 : Int) + r1))))), (10, (.d (.int .i64 r2))), (11, (.d (.int .i64 r3.1))), (75, (.d (.bool ((r22.2 != (0 : Int)) || ((w64 (r4.1 + r22.1)) != r3.1)))))] [] hB (by rfl) (by rfl) (by rfl)) ?_
        refine AWp.cond (b := ((r22.2 != (0 : Int)) || ((w64 (r4.1 + r22.1)) != r3.1))) (by rfl) (fun hg23 => ?_) (fun hg23 => ?_)
        · replace h := ite_t hg23 h
          refine AWp.seq ?_
          refine AWp.region (OpJs.cons (OpJ.assign (ltN hN rfl) (Opd.bool false))
            (OpJs.nil)) (by rfl) (by rfl) ?_
          refine seqQ_n ?_
          refine AWp.ghost (Mat.pat [] [(8, (.d (.bool false)))] [] hB (by rfl) (by rfl) (by rfl)) ?_
          refine AWp.ret ?_
          refine seqQ_r ?_
          obtain rfl := Option.some.inj h
          exact ⟨.inl rfl, _, _, (Mat.pat [] [(8, (.d (.bool false)))] [] hB (by rfl) (by rfl) (by rfl)), [(.d (.bool false))], (Res.tmp (by rfl) (by rfl) Res.nil), rfl, by rfl, by rfl, by rfl⟩
        · replace h := ite_f hg23 h
          refine AWp.skip ?_
          exact hjj10 _ h _ _ (Mat.pat [] ((fun _ : Unit => ([(2, (.d (.int .i64 a2))), (3, (.d (.int .i64 a3))), (9, (.d (.int .i64 (w64 ((1 : Int) + r1))))), (10, (.d (.int .i64 r2))), (11, (.d (.int .i64 r3.1)))] : EL)) ()) ((fun _ : Unit => ([] : OL)) ()) hB (by rfl) (by rfl) (by rfl))
      · replace h := ite_f hg21 h
        refine AWp.skip ?_
        exact hjj10 _ h _ _ (Mat.pat [] ((fun _ : Unit => ([(2, (.d (.int .i64 a2))), (3, (.d (.int .i64 a3))), (9, (.d (.int .i64 (w64 ((1 : Int) + r1))))), (10, (.d (.int .i64 r2))), (11, (.d (.int .i64 r3.1)))] : EL)) ()) ((fun _ : Unit => ([] : OL)) ()) hB (by rfl) (by rfl) (by rfl))


end Go.Proofs.Ytjhjijcffgmpkaa
