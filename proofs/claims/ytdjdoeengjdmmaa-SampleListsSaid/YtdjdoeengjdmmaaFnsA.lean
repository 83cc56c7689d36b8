/- Printed by gen.py: the Go functions as plain functions, and that the code does what they say. -/
import Derived.Test.YtdjdoeengjdmmaaChecked
import Derived.Test.YtdjdoeengjdmmaaVcR
import Derived.KernelRfl
namespace Go.Proofs.Ytdjdoeengjdmmaa
open Go Go.Vc
def e_LeIi64 (x : (List Int)) : D := (.list 1 (x.map (eI .i64)))

structure api_Sample where
  fTick : Int
  fSeq : Int
  fPool : Int
  fIn : Int
  fOut : Int
  fBytes : Int
def e_api_Sample (x : api_Sample) : D := .st [(.int .i64 x.fTick), (.int .i64 x.fSeq), (.int .i64 x.fPool), (.int .i64 x.fIn), (.int .i64 x.fOut), (.int .i64 x.fBytes)]

structure exchangepointmill_Deck where
  fL : (List Int)
  fAt : Int
def e_exchangepointmill_Deck (x : exchangepointmill_Deck) : D := .st [(.list 1 (x.fL.map (eI .i64))), (.int .i64 x.fAt)]

def e_LeapiSample (x : (List api_Sample)) : D := (.list 6 (x.map e_api_Sample))

theorem fnOk7 : FnOk Try.prog 7 := ⟨by kernel_rfl⟩

theorem tyS3 : TyS Try.prog 3 1 false := ⟨by kernel_rfl, by kernel_rfl⟩

theorem tyZD3 : TyZ Try.prog 3 (.d (.int .i64 (0 : Int))) := ⟨by kernel_rfl, fun w => by kernel_rfl⟩

theorem tyS23 : TyS Try.prog 23 1 false := ⟨by kernel_rfl, by kernel_rfl⟩

theorem tyZD23 : TyZ Try.prog 23 (.d (.list 1 (([] : List Int).map (eI .i64)))) := ⟨by kernel_rfl, fun w => by kernel_rfl⟩

theorem tyE3 : TyE Try.prog 3 1 8 := ⟨by kernel_rfl, by decide⟩

theorem fnOk8 : FnOk Try.prog 8 := ⟨by kernel_rfl⟩

theorem fnOk9 : FnOk Try.prog 9 := ⟨by kernel_rfl⟩

theorem fnOk10 : FnOk Try.prog 10 := ⟨by kernel_rfl⟩

theorem tyZS36 : TyZ Try.prog 36 (.st [(.d (.int .i64 (0 : Int))), (.d (.int .i64 (0 : Int))), (.d (.int .i64 (0 : Int))), (.d (.int .i64 (0 : Int))), (.d (.int .i64 (0 : Int))), (.d (.int .i64 (0 : Int)))]) := ⟨by kernel_rfl, fun w => by kernel_rfl⟩

theorem tyS36 : TyS Try.prog 36 6 true := ⟨by kernel_rfl, by kernel_rfl⟩

theorem tyZD36 : TyZ Try.prog 36 (.d (.st [(.int .i64 (0 : Int)), (.int .i64 (0 : Int)), (.int .i64 (0 : Int)), (.int .i64 (0 : Int)), (.int .i64 (0 : Int)), (.int .i64 (0 : Int))])) := ⟨by kernel_rfl, fun w => by kernel_rfl⟩

theorem tyZ36 : TyZ Try.prog 36 (.d (.st [(.int .i64 (0 : Int)), (.int .i64 (0 : Int)), (.int .i64 (0 : Int)), (.int .i64 (0 : Int)), (.int .i64 (0 : Int)), (.int .i64 (0 : Int))])) := ⟨by kernel_rfl, fun w => by kernel_rfl⟩

theorem fnOk31 : FnOk Try.prog 31 := ⟨by kernel_rfl⟩

theorem fnOk27 : FnOk Try.prog 27 := ⟨by kernel_rfl⟩

theorem fnOk16 : FnOk Try.prog 16 := ⟨by kernel_rfl⟩

theorem fnOk20 : FnOk Try.prog 20 := ⟨by kernel_rfl⟩

theorem fnOk22 : FnOk Try.prog 22 := ⟨by kernel_rfl⟩

theorem fnOk11 : FnOk Try.prog 11 := ⟨by kernel_rfl⟩

theorem tyZS49 : TyZ Try.prog 49 (.st [.nils, (.d (.int .i64 (0 : Int)))]) := ⟨by kernel_rfl, fun w => by kernel_rfl⟩

theorem fnOk12 : FnOk Try.prog 12 := ⟨by kernel_rfl⟩

theorem fnOk25 : FnOk Try.prog 25 := ⟨by kernel_rfl⟩

theorem tyE36 : TyE Try.prog 36 6 48 := ⟨by kernel_rfl, by decide⟩

theorem fnOk13 : FnOk Try.prog 13 := ⟨by kernel_rfl⟩

theorem held36 : Program.stoodInHeld Try.prog 36 = false := by kernel_rfl

theorem eqg36 : Program.eqGuardType Try.prog (Program.depth Try.prog) 36 = false := by kernel_rfl

theorem fnOk26 : FnOk Try.prog 26 := ⟨by kernel_rfl⟩

theorem fnOk14 : FnOk Try.prog 14 := ⟨by kernel_rfl⟩

theorem fnOk15 : FnOk Try.prog 15 := ⟨by kernel_rfl⟩

theorem tyS31 : TyS Try.prog 31 1 false := ⟨by kernel_rfl, by kernel_rfl⟩

theorem tyZD31 : TyZ Try.prog 31 (.d (.list 6 (([] : List api_Sample).map e_api_Sample))) := ⟨by kernel_rfl, fun w => by kernel_rfl⟩

theorem fnOk17 : FnOk Try.prog 17 := ⟨by kernel_rfl⟩

theorem fnOk29 : FnOk Try.prog 29 := ⟨by kernel_rfl⟩

theorem fnOk30 : FnOk Try.prog 30 := ⟨by kernel_rfl⟩

theorem fnOk32 : FnOk Try.prog 32 := ⟨by kernel_rfl⟩

theorem fnOk28 : FnOk Try.prog 28 := ⟨by kernel_rfl⟩

theorem fnOk18 : FnOk Try.prog 18 := ⟨by kernel_rfl⟩

theorem fnOk19 : FnOk Try.prog 19 := ⟨by kernel_rfl⟩

theorem fnOk21 : FnOk Try.prog 21 := ⟨by kernel_rfl⟩

theorem fnOk23 : FnOk Try.prog 23 := ⟨by kernel_rfl⟩

theorem fnOk24 : FnOk Try.prog 24 := ⟨by kernel_rfl⟩

noncomputable def exchangepointmill_Mod (a0 : Int) (a1 : Int) : Option (Int) :=
  chk (decide (a1 ≠ 0)) <|
  jn (fun m3 : Int =>
  some m3) (fun j4 =>
  (if (decide ((Int.tmod a0 a1) < (0 : Int))) = true then
  j4 (w64 ((Int.tmod a0 a1) + a1))
  else
  j4 (Int.tmod a0 a1)))
set_option maxHeartbeats 4000000 in
set_option maxRecDepth 100000 in
theorem exchangepointmill_Mod_ac (a0 : Int) (a1 : Int) (r : Int) (h : exchangepointmill_Mod a0 a1 = some r) : AC Try.prog 7 [(.d (.int .i64 a0)), (.d (.int .i64 a1))] [] (.d (.int .i64 r)) [] := by
  refine AC.of_code2 Try.func7 rfl rfl (Nat.le_of_ble_eq_true (by rfl)) fun B hB hN => ?_
  delta exchangepointmill_Mod at h
  refine AWp.seq ?_
  refine AWp.region (OpJs.cons (OpJ.assign (ltN hN rfl) (Opd.int .i64 (0)))
  (OpJs.nil)) (by rfl) (by rfl) ?_
  refine seqQ_n ?_
  refine AWp.ghost (Mat.pat [] [(0, (.d (.int .i64 a0))), (1, (.d (.int .i64 a1)))] [] hB (by rfl) (by rfl) (by rfl)) ?_
  refine AWp.seq ?_
  obtain ⟨hc1, h⟩ := chk_some h
  refine AWp.region (OpJs.cons (OpJ.move (ltN hN rfl) (Opd.tmp 0 (.d (.int .i64 a0))))
  (OpJs.cons (OpJ.move (ltN hN rfl) (Opd.tmp 1 (.d (.int .i64 a1))))
  (OpJs.cons (OpJ.rem (ltN hN rfl) (Opd.tmp 6 (.d (.int .i64 a0))) (Opd.tmp 7 (.d (.int .i64 a1))) (of_decide_eq_true hc1))
  (OpJs.cons (OpJ.assign (ltN hN rfl) (Opd.tmp 8 (.d (.int .i64 (Int.tmod a0 a1)))))
  (OpJs.nil))))) (by rfl) (by rfl) ?_
  refine seqQ_n ?_
  refine AWp.ghost (Mat.pat [] [(1, (.d (.int .i64 a1))), (5, (.d (.int .i64 (Int.tmod a0 a1))))] [] hB (by rfl) (by rfl) (by rfl)) ?_
  refine AWp.seq ?_
  refine AWp.seq ?_
  refine AWp.region (OpJs.cons (OpJ.move (ltN hN rfl) (Opd.tmp 5 (.d (.int .i64 (Int.tmod a0 a1)))))
  (OpJs.cons (OpJ.lss (ltN hN rfl) (Opd.tmp 9 (.d (.int .i64 (Int.tmod a0 a1)))) (Opd.int .i64 (0)))
  (OpJs.nil))) (by rfl) (by rfl) ?_
  refine seqQ_n ?_
  refine AWp.ghost (Mat.pat [] [(1, (.d (.int .i64 a1))), (5, (.d (.int .i64 (Int.tmod a0 a1)))), (10, (.d (.bool (decide ((Int.tmod a0 a1) < (0 : Int))))))] [] hB (by rfl) (by rfl) (by rfl)) ?_
  refine AWp.cut h (fun m3 : Int => ([(5, (.d (.int .i64 m3)))] : EL)) (fun m3 : Int => ([] : OL)) (fun m3 h E' O' hmat => ?_) (fun j4 hjj4 h => ?_)
  · refine seqQ_n ?_
    refine AWp.ghost hmat ?_
    refine AWp.seq ?_
    refine AWp.region (OpJs.cons (OpJ.move (ltN hN rfl) (Opd.tmp 5 (.d (.int .i64 m3))))
      (OpJs.cons (OpJ.assign (ltN hN rfl) (Opd.tmp 14 (.d (.int .i64 m3))))
      (OpJs.nil))) (by rfl) (by rfl) ?_
    refine seqQ_n ?_
    refine AWp.ghost (Mat.pat [] [(4, (.d (.int .i64 m3)))] [] hB (by rfl) (by rfl) (by rfl)) ?_
    refine AWp.ret ?_
    obtain rfl := Option.some.inj h
    exact ⟨.inl rfl, _, _, (Mat.pat [] [(4, (.d (.int .i64 m3)))] [] hB (by rfl) (by rfl) (by rfl)), [(.d (.int .i64 m3))], (Res.tmp (by rfl) (by rfl) Res.nil), rfl, by rfl, by rfl, by rfl⟩
  · refine AWp.cond (b := (decide ((Int.tmod a0 a1) < (0 : Int)))) (by rfl) (fun hg5 => ?_) (fun hg5 => ?_)
    · replace h := ite_t hg5 h
      refine AWp.region (OpJs.cons (OpJ.move (ltN hN rfl) (Opd.tmp 5 (.d (.int .i64 (Int.tmod a0 a1)))))
        (OpJs.cons (OpJ.move (ltN hN rfl) (Opd.tmp 1 (.d (.int .i64 a1))))
        (OpJs.cons (OpJ.add (ltN hN rfl) (Opd.tmp 11 (.d (.int .i64 (Int.tmod a0 a1)))) (Opd.tmp 12 (.d (.int .i64 a1))))
        (OpJs.cons (OpJ.assign (ltN hN rfl) (Opd.tmp 13 (.d (.int .i64 (w64 ((Int.tmod a0 a1) + a1))))))
        (OpJs.nil))))) (by rfl) (by rfl) ?_
      exact hjj4 _ h _ _ (Mat.trans (Mat.pat [] [(5, (.d (.int .i64 (w64 ((Int.tmod a0 a1) + a1)))))] [] hB (by rfl) (by rfl) (by rfl)) (Mat.pat [] ((fun m3 : Int => ([(5, (.d (.int .i64 m3)))] : EL)) (w64 ((Int.tmod a0 a1) + a1))) ((fun m3 : Int => ([] : OL)) (w64 ((Int.tmod a0 a1) + a1))) hB (by rfl) (by rfl) (by rfl)))
    · replace h := ite_f hg5 h
      refine AWp.skip ?_
      exact hjj4 _ h _ _ (Mat.pat [] ((fun m3 : Int => ([(5, (.d (.int .i64 m3)))] : EL)) (Int.tmod a0 a1)) ((fun m3 : Int => ([] : OL)) (Int.tmod a0 a1)) hB (by rfl) (by rfl) (by rfl))

noncomputable def sample_Pick_L0 (a0 : Int) (a1 : Int) (s7 : Int × (List Int)) : Option ((((List Int))) ⊕ (Int × (List Int))) :=
  (if (decide (s7.1 < a0)) = true then
  chk (decide ((s7.2 ++ ([s7.1] : List Int)).length ≤ LIM)) <|
  some (.inr ((w64 (s7.1 + a1)), (s7.2 ++ ([s7.1] : List Int))))
  else
  some (.inl s7.2))
noncomputable def sample_Pick (a0 : Int) (a1 : Int) (a2 : Int) : Option ((List Int) × Int) :=
  (if ((((((decide (a0 < (0 : Int))) || (decide ((1073741824 : Int) < a0))) || (decide (a1 < (1 : Int)))) || (decide ((1048576 : Int) < a1))) || (decide (a2 < (0 : Int)))) || (decide (a1 ≤ a2))) = true then
  some (([] : List Int), (1 : Int))
  else
  jn (fun m4 : Bool =>
  (if m4 = true then
  some (([] : List Int), (1 : Int))
  else
  (loop (sample_Pick_L0 a0 a1) (a2, ([] : List Int))).bind fun p12 =>
  some (p12, (0 : Int)))) (fun j5 =>
  (if (decide (a2 < a0)) = true then
  chk (decide (a1 ≠ 0)) <|
  j5 (decide ((1000 : Int) ≤ (w64 (Int.tdiv (w64 ((w64 (a0 - a2)) - (1 : Int))) a1))))
  else
  j5 false)))
set_option maxHeartbeats 4000000 in
set_option maxRecDepth 100000 in
theorem sample_Pick_ac (a0 : Int) (a1 : Int) (a2 : Int) (r : (List Int) × Int) (h : sample_Pick a0 a1 a2 = some r) : AC Try.prog 8 [(.d (.int .i64 a0)), (.d (.int .i64 a1)), (.d (.int .i64 a2))] [] (.tup [(.d (.list 1 (r.1.map (eI .i64)))), (.d (.int .i64 r.2))]) [] := by
  refine AC.of_code2 Try.func8 rfl rfl (Nat.le_of_ble_eq_true (by rfl)) fun B hB hN => ?_
  delta sample_Pick at h
  refine AWp.seq ?_
  refine AWp.region (OpJs.cons (OpJ.assign (ltN hN rfl) Opd.nils)
  (OpJs.cons (OpJ.assign (ltN hN rfl) (Opd.int .i64 (0)))
  (OpJs.nil))) (by rfl) (by rfl) ?_
  refine seqQ_n ?_
  refine AWp.ghost (Mat.pat [] [(0, (.d (.int .i64 a0))), (1, (.d (.int .i64 a1))), (2, (.d (.int .i64 a2)))] [] hB (by rfl) (by rfl) (by rfl)) ?_
  refine AWp.seq ?_
  refine AWp.seq ?_
  refine AWp.region (OpJs.cons (OpJ.move (ltN hN rfl) (Opd.tmp 0 (.d (.int .i64 a0))))
  (OpJs.cons (OpJ.lss (ltN hN rfl) (Opd.tmp 10 (.d (.int .i64 a0))) (Opd.int .i64 (0)))
  (OpJs.cons (OpJ.move (ltN hN rfl) (Opd.tmp 11 (.d (.bool (decide (a0 < (0 : Int)))))))
  (OpJs.cons (OpJ.opt' (v := (.d (.int .i64 a0))) (OpJ.move (ltN hN rfl) (Opd.tmp 0 (.d (.int .i64 a0)))) (by rfl) (GuardV.plain _) (ltN hN rfl) (by rfl) (by rfl) (by rfl) (by rfl) (OptL.keep rfl OptL.nil))
  (OpJs.cons (OpJ.opt' (v := (.d (.bool (decide ((1073741824 : Int) < a0))))) (OpJ.gtr (ltN hN rfl) (Opd.tmp 13 (.d (.int .i64 a0))) (Opd.int .i64 (1073741824))) (by rfl) (GuardV.plain _) (ltN hN rfl) (by rfl) (by rfl) (by rfl) (by rfl) (OptL.opt OptL.nil))
  (OpJs.cons (OpJ.pickOr rfl (ltN hN rfl) (Opd.tmp 12 (.d (.bool (decide (a0 < (0 : Int)))))) (Opd.tmp 14 (.opt ((decide (a0 < (0 : Int))) == false) (.d (.bool (decide ((1073741824 : Int) < a0)))))))
  (OpJs.cons (OpJ.move (ltN hN rfl) (Opd.tmp 15 (.d (.bool ((decide (a0 < (0 : Int))) || (decide ((1073741824 : Int) < a0)))))))
  (OpJs.cons (OpJ.opt' (v := (.d (.int .i64 a1))) (OpJ.move (ltN hN rfl) (Opd.tmp 1 (.d (.int .i64 a1)))) (by rfl) (GuardV.plain _) (ltN hN rfl) (by rfl) (by rfl) (by rfl) (by rfl) (OptL.keep rfl OptL.nil))
  (OpJs.cons (OpJ.opt' (v := (.d (.bool (decide (a1 < (1 : Int)))))) (OpJ.lss (ltN hN rfl) (Opd.tmp 17 (.d (.int .i64 a1))) (Opd.int .i64 (1))) (by rfl) (GuardV.plain _) (ltN hN rfl) (by rfl) (by rfl) (by rfl) (by rfl) (OptL.opt OptL.nil))
  (OpJs.cons (OpJ.pickOr rfl (ltN hN rfl) (Opd.tmp 16 (.d (.bool ((decide (a0 < (0 : Int))) || (decide ((1073741824 : Int) < a0)))))) (Opd.tmp 18 (.opt (((decide (a0 < (0 : Int))) || (decide ((1073741824 : Int) < a0))) == false) (.d (.bool (decide (a1 < (1 : Int))))))))
  (OpJs.cons (OpJ.move (ltN hN rfl) (Opd.tmp 19 (.d (.bool (((decide (a0 < (0 : Int))) || (decide ((1073741824 : Int) < a0))) || (decide (a1 < (1 : Int))))))))
  (OpJs.cons (OpJ.opt' (v := (.d (.int .i64 a1))) (OpJ.move (ltN hN rfl) (Opd.tmp 1 (.d (.int .i64 a1)))) (by rfl) (GuardV.plain _) (ltN hN rfl) (by rfl) (by rfl) (by rfl) (by rfl) (OptL.keep rfl OptL.nil))
  (OpJs.cons (OpJ.opt' (v := (.d (.bool (decide ((1048576 : Int) < a1))))) (OpJ.gtr (ltN hN rfl) (Opd.tmp 21 (.d (.int .i64 a1))) (Opd.int .i64 (1048576))) (by rfl) (GuardV.plain _) (ltN hN rfl) (by rfl) (by rfl) (by rfl) (by rfl) (OptL.opt OptL.nil))
  (OpJs.cons (OpJ.pickOr rfl (ltN hN rfl) (Opd.tmp 20 (.d (.bool (((decide (a0 < (0 : Int))) || (decide ((1073741824 : Int) < a0))) || (decide (a1 < (1 : Int))))))) (Opd.tmp 22 (.opt ((((decide (a0 < (0 : Int))) || (decide ((1073741824 : Int) < a0))) || (decide (a1 < (1 : Int)))) == false) (.d (.bool (decide ((1048576 : Int) < a1)))))))
  (OpJs.cons (OpJ.move (ltN hN rfl) (Opd.tmp 23 (.d (.bool ((((decide (a0 < (0 : Int))) || (decide ((1073741824 : Int) < a0))) || (decide (a1 < (1 : Int)))) || (decide ((1048576 : Int) < a1)))))))
  (OpJs.cons (OpJ.opt' (v := (.d (.int .i64 a2))) (OpJ.move (ltN hN rfl) (Opd.tmp 2 (.d (.int .i64 a2)))) (by rfl) (GuardV.plain _) (ltN hN rfl) (by rfl) (by rfl) (by rfl) (by rfl) (OptL.keep rfl OptL.nil))
  (OpJs.cons (OpJ.opt' (v := (.d (.bool (decide (a2 < (0 : Int)))))) (OpJ.lss (ltN hN rfl) (Opd.tmp 25 (.d (.int .i64 a2))) (Opd.int .i64 (0))) (by rfl) (GuardV.plain _) (ltN hN rfl) (by rfl) (by rfl) (by rfl) (by rfl) (OptL.opt OptL.nil))
  (OpJs.cons (OpJ.pickOr rfl (ltN hN rfl) (Opd.tmp 24 (.d (.bool ((((decide (a0 < (0 : Int))) || (decide ((1073741824 : Int) < a0))) || (decide (a1 < (1 : Int)))) || (decide ((1048576 : Int) < a1)))))) (Opd.tmp 26 (.opt (((((decide (a0 < (0 : Int))) || (decide ((1073741824 : Int) < a0))) || (decide (a1 < (1 : Int)))) || (decide ((1048576 : Int) < a1))) == false) (.d (.bool (decide (a2 < (0 : Int))))))))
  (OpJs.cons (OpJ.move (ltN hN rfl) (Opd.tmp 27 (.d (.bool (((((decide (a0 < (0 : Int))) || (decide ((1073741824 : Int) < a0))) || (decide (a1 < (1 : Int)))) || (decide ((1048576 : Int) < a1))) || (decide (a2 < (0 : Int))))))))
  (OpJs.cons (OpJ.opt' (v := (.d (.int .i64 a2))) (OpJ.move (ltN hN rfl) (Opd.tmp 2 (.d (.int .i64 a2)))) (by rfl) (GuardV.plain _) (ltN hN rfl) (by rfl) (by rfl) (by rfl) (by rfl) (OptL.keep rfl OptL.nil))
  (OpJs.cons (OpJ.opt' (v := (.d (.int .i64 a1))) (OpJ.move (ltN hN rfl) (Opd.tmp 1 (.d (.int .i64 a1)))) (by rfl) (GuardV.plain _) (ltN hN rfl) (by rfl) (by rfl) (by rfl) (by rfl) (OptL.keep rfl OptL.nil))
  (OpJs.cons (OpJ.opt' (v := (.d (.bool (decide (a1 ≤ a2))))) (OpJ.geq (ltN hN rfl) (Opd.tmp 29 (.d (.int .i64 a2))) (Opd.tmp 30 (.d (.int .i64 a1)))) (by rfl) (GuardV.plain _) (ltN hN rfl) (by rfl) (by rfl) (by rfl) (by rfl) (OptL.opt (OptL.opt OptL.nil)))
  (OpJs.cons (OpJ.pickOr rfl (ltN hN rfl) (Opd.tmp 28 (.d (.bool (((((decide (a0 < (0 : Int))) || (decide ((1073741824 : Int) < a0))) || (decide (a1 < (1 : Int)))) || (decide ((1048576 : Int) < a1))) || (decide (a2 < (0 : Int))))))) (Opd.tmp 31 (.opt ((((((decide (a0 < (0 : Int))) || (decide ((1073741824 : Int) < a0))) || (decide (a1 < (1 : Int)))) || (decide ((1048576 : Int) < a1))) || (decide (a2 < (0 : Int)))) == false) (.d (.bool (decide (a1 ≤ a2)))))))
  (OpJs.nil)))))))))))))))))))))))) (by rfl) (by rfl) ?_
  refine seqQ_n ?_
  refine AWp.ghost (Mat.pat [] [(0, (.d (.int .i64 a0))), (1, (.d (.int .i64 a1))), (2, (.d (.int .i64 a2))), (32, (.d (.bool ((((((decide (a0 < (0 : Int))) || (decide ((1073741824 : Int) < a0))) || (decide (a1 < (1 : Int)))) || (decide ((1048576 : Int) < a1))) || (decide (a2 < (0 : Int)))) || (decide (a1 ≤ a2))))))] [] hB (by rfl) (by rfl) (by rfl)) ?_
  refine AWp.cond (b := ((((((decide (a0 < (0 : Int))) || (decide ((1073741824 : Int) < a0))) || (decide (a1 < (1 : Int)))) || (decide ((1048576 : Int) < a1))) || (decide (a2 < (0 : Int)))) || (decide (a1 ≤ a2)))) (by rfl) (fun hg1 => ?_) (fun hg1 => ?_)
  · replace h := ite_t hg1 h
    refine AWp.seq ?_
    refine AWp.region (OpJs.cons (OpJ.assign (ltN hN rfl) Opd.nils)
      (OpJs.cons (OpJ.assign (ltN hN rfl) (Opd.int .i64 (1)))
      (OpJs.nil))) (by rfl) (by rfl) ?_
    refine seqQ_n ?_
    refine AWp.ghost (Mat.pat [] [(6, .nils), (7, (.d (.int .i64 (1 : Int))))] [] hB (by rfl) (by rfl) (by rfl)) ?_
    refine AWp.ret ?_
    refine seqQ_r ?_
    obtain rfl := Option.some.inj h
    exact ⟨.inl rfl, _, _, (Mat.pat [] [(6, .nils), (7, (.d (.int .i64 (1 : Int))))] [] hB (by rfl) (by rfl) (by rfl)), [(.d (.list 1 (([] : List Int).map (eI .i64)))), (.d (.int .i64 (1 : Int)))], (Res.tmpC (by rfl) (Co.nils 1) (Res.tmp (by rfl) (by rfl) Res.nil)), rfl, by rfl, by rfl, by rfl⟩
  · replace h := ite_f hg1 h
    refine AWp.skip ?_
    refine seqQ_n ?_
    refine AWp.seq ?_
    refine AWp.seq ?_
    refine AWp.cut h (fun m4 : Bool => ([(0, (.d (.int .i64 a0))), (1, (.d (.int .i64 a1))), (2, (.d (.int .i64 a2))), (44, (.d (.bool m4)))] : EL)) (fun m4 : Bool => ([] : OL)) (fun m4 h E' O' hmat => ?_) (fun j5 hjj5 h => ?_)
    · refine seqQ_n ?_
      refine AWp.ghost hmat ?_
      refine AWp.cond (b := m4) (by rfl) (fun hg6 => ?_) (fun hg6 => ?_)
      · replace h := ite_t hg6 h
        refine AWp.seq ?_
        refine AWp.region (OpJs.cons (OpJ.assign (ltN hN rfl) Opd.nils)
          (OpJs.cons (OpJ.assign (ltN hN rfl) (Opd.int .i64 (1)))
          (OpJs.nil))) (by rfl) (by rfl) ?_
        refine seqQ_n ?_
        refine AWp.ghost (Mat.pat [] [(6, .nils), (7, (.d (.int .i64 (1 : Int))))] [] hB (by rfl) (by rfl) (by rfl)) ?_
        refine AWp.ret ?_
        refine seqQ_r ?_
        obtain rfl := Option.some.inj h
        exact ⟨.inl rfl, _, _, (Mat.pat [] [(6, .nils), (7, (.d (.int .i64 (1 : Int))))] [] hB (by rfl) (by rfl) (by rfl)), [(.d (.list 1 (([] : List Int).map (eI .i64)))), (.d (.int .i64 (1 : Int)))], (Res.tmpC (by rfl) (Co.nils 1) (Res.tmp (by rfl) (by rfl) Res.nil)), rfl, by rfl, by rfl, by rfl⟩
      · replace h := ite_f hg6 h
        refine AWp.skip ?_
        refine seqQ_n ?_
        refine AWp.seq ?_
        refine AWp.region (OpJs.cons (OpJ.assign (ltN hN rfl) Opd.nils)
          (OpJs.nil)) (by rfl) (by rfl) ?_
        refine seqQ_n ?_
        refine AWp.ghost (Mat.pat [] [(0, (.d (.int .i64 a0))), (1, (.d (.int .i64 a1))), (2, (.d (.int .i64 a2))), (8, .nils)] [] hB (by rfl) (by rfl) (by rfl)) ?_
        refine AWp.seq ?_
        refine AWp.seq ?_
        refine AWp.region (OpJs.cons (OpJ.move (ltN hN rfl) (Opd.tmp 2 (.d (.int .i64 a2))))
          (OpJs.cons (OpJ.assign (ltN hN rfl) (Opd.tmp 45 (.d (.int .i64 a2))))
          (OpJs.nil))) (by rfl) (by rfl) ?_
        refine seqQ_n ?_
        refine AWp.ghost (Mat.pat [] [(0, (.d (.int .i64 a0))), (1, (.d (.int .i64 a1))), (8, .nils), (9, (.d (.int .i64 a2)))] [] hB (by rfl) (by rfl) (by rfl)) ?_
        refine AWp.block ?_
        obtain ⟨p12, hx16, h⟩ := bindS h
        refine AWp.ghost (Mat.trans (Mat.begin (n := 3008) (e := 3) (sz := 1) (k := 8) hB (by decide) (by rfl) (by decide) (by rfl)) (Mat.pat [] ((fun s7 : Int × (List Int) => ([(0, (.d (.int .i64 a0))), (1, (.d (.int .i64 a1))), (8, (.sref 3008 1 0 s7.2.length)), (9, (.d (.int .i64 s7.1)))] : EL)) (a2, ([] : List Int))) ((fun s7 : Int × (List Int) => ([(3008, some (.row 3 1 (s7.2.map (eI .i64))))] : OL)) (a2, ([] : List Int))) hB (by rfl) (by rfl) (by rfl))) ?_
        refine AWp.loopS (sample_Pick_L0 a0 a1) (fun s7 : Int × (List Int) => ([(0, (.d (.int .i64 a0))), (1, (.d (.int .i64 a1))), (8, (.sref 3008 1 0 s7.2.length)), (9, (.d (.int .i64 s7.1)))] : EL)) (fun s7 : Int × (List Int) => ([(3008, some (.row 3 1 (s7.2.map (eI .i64))))] : OL)) (fun (p12 : ((List Int))) e E' O' => e = .exit 0 ∧ Mat B E' O' ([(8, (.sref 3008 1 0 p12.length))] : EL) ([(3008, some (.row 3 1 (p12.map (eI .i64))))] : OL)) hx16 (fun s7 y h => ?_) (fun e E' O' hR => ?_)
        · unfold sample_Pick_L0 at h
          show AWp _ _ _ _ ([(0, (.d (.int .i64 a0))), (1, (.d (.int .i64 a1))), (8, (.sref 3008 1 0 s7.2.length)), (9, (.d (.int .i64 s7.1)))] : EL) ([(3008, some (.row 3 1 (s7.2.map (eI .i64))))] : OL)
          refine AWp.seq ?_
          refine AWp.seq ?_
          refine AWp.region (OpJs.cons (OpJ.move (ltN hN rfl) (Opd.tmp 9 (.d (.int .i64 s7.1))))
            (OpJs.cons (OpJ.move (ltN hN rfl) (Opd.tmp 0 (.d (.int .i64 a0))))
            (OpJs.cons (OpJ.lss (ltN hN rfl) (Opd.tmp 46 (.d (.int .i64 s7.1))) (Opd.tmp 47 (.d (.int .i64 a0))))
            (OpJs.nil)))) (by rfl) (by rfl) ?_
          refine seqQ_n ?_
          refine AWp.ghost (Mat.pat [] [(0, (.d (.int .i64 a0))), (1, (.d (.int .i64 a1))), (8, (.sref 3008 1 0 s7.2.length)), (9, (.d (.int .i64 s7.1))), (48, (.d (.bool (decide (s7.1 < a0)))))] [(3008, some (.row 3 1 (s7.2.map (eI .i64))))] hB (by rfl) (by rfl) (by rfl)) ?_
          refine AWp.cond (b := (decide (s7.1 < a0))) (by rfl) (fun hg13 => ?_) (fun hg13 => ?_)
          · replace h := ite_t hg13 h
            refine AWp.skip ?_
            refine seqQ_n ?_
            refine AWp.seq ?_
            refine AWp.block ?_
            obtain ⟨hc14, h⟩ := chk_some h
            refine AWp.region (OpJs.cons (OpJ.move (ltN hN rfl) (Opd.tmp 8 (.sref 3008 1 0 s7.2.length)))
              (OpJs.cons (OpJ.move (ltN hN rfl) (Opd.tmp 9 (.d (.int .i64 s7.1))))
              (OpJs.cons (OpJ.buildSlice Try.underlying23 tyS3 tyZD3 (by rfl) (by decide) (by decide) (Opds.cons (Opd.tmp 53 (.d (.int .i64 s7.1))) Opds.nil) (by kernel_rfl) (es := ([(.int .i64 s7.1)] : List D)) (by rfl) (by rfl) (by kernel_rfl) (by simp) (ltN hN rfl))
              (OpJs.cons (OpJ.append hB Try.underlying23 tyE3 (nm := 1055) (by decide) (es := s7.2.map (eI .i64)) (ys := ([s7.1] : List Int).map (eI .i64)) (es' := (s7.2 ++ ([s7.1] : List Int)).map (eI .i64)) (len := (s7.2 ++ ([s7.1] : List Int)).length) (by simp) (by simp) (map_sz (f := (eI .i64)) (fun _ => rfl)) (by rw [List.length_map]; exact lim_mulN hc14 (by decide)) (by rw [List.length_map]; exact lim_leN hc14) (ltN hN rfl) (by simp) (Opd.tmp 52 (.sref 3008 1 0 s7.2.length)) (Opd.tmp 54 (.d (.list 1 (([s7.1] : List Int).map (eI .i64))))))
              (OpJs.cons (OpJ.assign (ltN hN rfl) (Opd.tmp 55 (.sref 1055 1 0 ((s7.2 ++ ([s7.1] : List Int)).length))))
              (OpJs.nil)))))) (by rfl) (by rfl) ?_
            refine blkQ_n ?_
            refine seqQ_n ?_
            refine AWp.ghost (Mat.pat [] [(0, (.d (.int .i64 a0))), (1, (.d (.int .i64 a1))), (8, (.sref 1055 1 0 ((s7.2 ++ ([s7.1] : List Int)).length))), (9, (.d (.int .i64 s7.1)))] [(1055, some (.row 3 1 ((s7.2 ++ ([s7.1] : List Int)).map (eI .i64))))] hB (by rfl) (by rfl) (by rfl)) ?_
            refine AWp.region (OpJs.cons (OpJ.move (ltN hN rfl) (Opd.tmp 9 (.d (.int .i64 s7.1))))
              (OpJs.cons (OpJ.move (ltN hN rfl) (Opd.tmp 1 (.d (.int .i64 a1))))
              (OpJs.cons (OpJ.add (ltN hN rfl) (Opd.tmp 49 (.d (.int .i64 s7.1))) (Opd.tmp 50 (.d (.int .i64 a1))))
              (OpJs.cons (OpJ.assign (ltN hN rfl) (Opd.tmp 51 (.d (.int .i64 (w64 (s7.1 + a1))))))
              (OpJs.nil))))) (by rfl) (by rfl) ?_
            obtain rfl := Option.some.inj h
            exact ⟨rfl, (Mat.trans (Mat.pat [] [(0, (.d (.int .i64 a0))), (1, (.d (.int .i64 a1))), (8, (.sref 1055 1 0 ((s7.2 ++ ([s7.1] : List Int)).length))), (9, (.d (.int .i64 (w64 (s7.1 + a1)))))] [(1055, some (.row 3 1 ((s7.2 ++ ([s7.1] : List Int)).map (eI .i64))))] hB (by rfl) (by rfl) (by rfl)) (Mat.pat [(3008, 1055)] ((fun s7 : Int × (List Int) => ([(0, (.d (.int .i64 a0))), (1, (.d (.int .i64 a1))), (8, (.sref 3008 1 0 s7.2.length)), (9, (.d (.int .i64 s7.1)))] : EL)) ((w64 (s7.1 + a1)), (s7.2 ++ ([s7.1] : List Int)))) ((fun s7 : Int × (List Int) => ([(3008, some (.row 3 1 (s7.2.map (eI .i64))))] : OL)) ((w64 (s7.1 + a1)), (s7.2 ++ ([s7.1] : List Int)))) hB (by rfl) (by rfl) (by rfl)))⟩
          · replace h := ite_f hg13 h
            refine AWp.exit ?_
            refine seqQ_e ?_
            obtain rfl := Option.some.inj h
            exact ⟨(fun hc => by cases hc), rfl, (Mat.pat [] ((fun p12 : (List Int) => ([(8, (.sref 3008 1 0 p12.length))] : EL)) s7.2) ((fun p12 : (List Int) => ([(3008, some (.row 3 1 (p12.map (eI .i64))))] : OL)) s7.2) hB (by rfl) (by rfl) (by rfl))⟩
        · obtain ⟨rfl, hmat⟩ := hR
          refine blkQ_hit ?_
          refine seqQ_n ?_
          refine AWp.ghost hmat ?_
          refine AWp.seq ?_
          refine AWp.region (OpJs.cons (OpJ.move (ltN hN rfl) (Opd.tmp 8 (.sref 3008 1 0 p12.length)))
            (OpJs.cons (OpJ.assign (ltN hN rfl) (Opd.tmp 56 (.sref 3008 1 0 p12.length)))
            (OpJs.cons (OpJ.assign (ltN hN rfl) (Opd.int .i64 (0)))
            (OpJs.nil)))) (by rfl) (by rfl) ?_
          refine seqQ_n ?_
          refine AWp.ghost (Mat.pat [] [(6, (.sref 3008 1 0 p12.length)), (7, (.d (.int .i64 (0 : Int))))] [(3008, some (.row 3 1 (p12.map (eI .i64))))] hB (by rfl) (by rfl) (by rfl)) ?_
          refine AWp.ret ?_
          obtain rfl := Option.some.inj h
          exact ⟨.inl rfl, _, _, (Mat.trans (Mat.freezeAll (n := 3008) (k := 6) (by rfl) (by rfl) (by first | (simp; done) | (simp; omega))) (Mat.pat [] [(6, (.d (.list 1 (p12.map (eI .i64))))), (7, (.d (.int .i64 (0 : Int))))] [] hB (by rfl) (by rfl) (by rfl))), [(.d (.list 1 (p12.map (eI .i64)))), (.d (.int .i64 (0 : Int)))], (Res.tmp (by rfl) (by rfl) (Res.tmp (by rfl) (by rfl) Res.nil)), rfl, by rfl, by rfl, by rfl⟩
    · rcases Bool.eq_false_or_eq_true (decide (a2 < a0)) with hg17 | hg17
      · replace h := ite_t hg17 h
        obtain ⟨hc18, h⟩ := chk_some h
        refine AWp.region (OpJs.cons (OpJ.move (ltN hN rfl) (Opd.tmp 2 (.d (.int .i64 a2))))
          (OpJs.cons (OpJ.move (ltN hN rfl) (Opd.tmp 0 (.d (.int .i64 a0))))
          (OpJs.cons (OpJ.lss (ltN hN rfl) (Opd.tmp 33 (.d (.int .i64 a2))) (Opd.tmp 34 (.d (.int .i64 a0))))
          (OpJs.cons (OpJ.val (v' := .d (.bool true)) (by rw [hg17]) (OpJ.move (ltN hN rfl) (Opd.tmp 35 (.d (.bool (decide (a2 < a0)))))))
          (OpJs.cons (OpJ.guarded (by rfl) (OpJ.move (ltN hN rfl) (Opd.tmp 0 (.d (.int .i64 a0)))))
          (OpJs.cons (OpJ.guarded (by rfl) (OpJ.move (ltN hN rfl) (Opd.tmp 2 (.d (.int .i64 a2)))))
          (OpJs.cons (OpJ.guarded (by rfl) (OpJ.sub (ltN hN rfl) (Opd.tmp 37 (.d (.int .i64 a0))) (Opd.tmp 38 (.d (.int .i64 a2)))))
          (OpJs.cons (OpJ.guarded (by rfl) (OpJ.sub (ltN hN rfl) (Opd.tmp 39 (.d (.int .i64 (w64 (a0 - a2))))) (Opd.int .i64 (1))))
          (OpJs.cons (OpJ.guarded (by rfl) (OpJ.move (ltN hN rfl) (Opd.tmp 1 (.d (.int .i64 a1)))))
          (OpJs.cons (OpJ.guarded (by rfl) (OpJ.quo (ltN hN rfl) (Opd.tmp 40 (.d (.int .i64 (w64 ((w64 (a0 - a2)) - (1 : Int)))))) (Opd.tmp 41 (.d (.int .i64 a1))) (of_decide_eq_true hc18)))
          (OpJs.cons (OpJ.guarded (by rfl) (OpJ.geq (ltN hN rfl) (Opd.tmp 42 (.d (.int .i64 (w64 (Int.tdiv (w64 ((w64 (a0 - a2)) - (1 : Int))) a1))))) (Opd.int .i64 (1000))))
          (OpJs.cons (OpJ.pickT (ltN hN rfl) (Opd.tmp 36 (.d (.bool true))) (Opd.tmp 43 (.d (.bool (decide ((1000 : Int) ≤ (w64 (Int.tdiv (w64 ((w64 (a0 - a2)) - (1 : Int))) a1))))))))
          (OpJs.nil))))))))))))) (by rfl) (by rfl) ?_
        exact hjj5 _ h _ _ (Mat.trans (Mat.pat [] [(0, (.d (.int .i64 a0))), (1, (.d (.int .i64 a1))), (2, (.d (.int .i64 a2))), (44, (.d (.bool (decide ((1000 : Int) ≤ (w64 (Int.tdiv (w64 ((w64 (a0 - a2)) - (1 : Int))) a1)))))))] [] hB (by rfl) (by rfl) (by rfl)) (Mat.pat [] ((fun m4 : Bool => ([(0, (.d (.int .i64 a0))), (1, (.d (.int .i64 a1))), (2, (.d (.int .i64 a2))), (44, (.d (.bool m4)))] : EL)) (decide ((1000 : Int) ≤ (w64 (Int.tdiv (w64 ((w64 (a0 - a2)) - (1 : Int))) a1))))) ((fun m4 : Bool => ([] : OL)) (decide ((1000 : Int) ≤ (w64 (Int.tdiv (w64 ((w64 (a0 - a2)) - (1 : Int))) a1))))) hB (by rfl) (by rfl) (by rfl)))
      · replace h := ite_f hg17 h
        refine AWp.region (OpJs.cons (OpJ.move (ltN hN rfl) (Opd.tmp 2 (.d (.int .i64 a2))))
          (OpJs.cons (OpJ.move (ltN hN rfl) (Opd.tmp 0 (.d (.int .i64 a0))))
          (OpJs.cons (OpJ.lss (ltN hN rfl) (Opd.tmp 33 (.d (.int .i64 a2))) (Opd.tmp 34 (.d (.int .i64 a0))))
          (OpJs.cons (OpJ.val (v' := .d (.bool false)) (by rw [hg17]) (OpJ.move (ltN hN rfl) (Opd.tmp 35 (.d (.bool (decide (a2 < a0)))))))
          (OpJs.cons (OpJ.skipU (ltN hN rfl) (by rfl))
          (OpJs.cons (OpJ.skipU (ltN hN rfl) (by rfl))
          (OpJs.cons (OpJ.skipU (ltN hN rfl) (by rfl))
          (OpJs.cons (OpJ.skipU (ltN hN rfl) (by rfl))
          (OpJs.cons (OpJ.skipU (ltN hN rfl) (by rfl))
          (OpJs.cons (OpJ.skipU (ltN hN rfl) (by rfl))
          (OpJs.cons (OpJ.skipU (ltN hN rfl) (by rfl))
          (OpJs.cons (OpJ.pickF (ltN hN rfl) (Opd.tmp 36 (.d (.bool false))) (Opd.bool false))
          (OpJs.nil))))))))))))) (by rfl) (by rfl) ?_
        exact hjj5 _ h _ _ (Mat.trans (Mat.pat [] [(0, (.d (.int .i64 a0))), (1, (.d (.int .i64 a1))), (2, (.d (.int .i64 a2))), (44, (.d (.bool false)))] [] hB (by rfl) (by rfl) (by rfl)) (Mat.pat [] ((fun m4 : Bool => ([(0, (.d (.int .i64 a0))), (1, (.d (.int .i64 a1))), (2, (.d (.int .i64 a2))), (44, (.d (.bool m4)))] : EL)) false) ((fun m4 : Bool => ([] : OL)) false) hB (by rfl) (by rfl) (by rfl)))

noncomputable def exchangepointref37_Pick_L0 (a0 : Int) (a1 : Int) (s2 : Int × (List Int)) : Option (((Unit) ⊕ ((List Int))) ⊕ (Int × (List Int))) :=
  (if (decide (s2.1 < a0)) = true then
  (if ((s2.2.length : Int) == (1000 : Int)) = true then
  some (.inl (.inl ()))
  else
  chk (decide ((s2.2 ++ ([s2.1] : List Int)).length ≤ LIM)) <|
  some (.inr ((w64 (s2.1 + a1)), (s2.2 ++ ([s2.1] : List Int)))))
  else
  some (.inl (.inr s2.2)))
noncomputable def exchangepointref37_Pick (a0 : Int) (a1 : Int) (a2 : Int) : Option ((List Int) × Int) :=
  (if ((((((decide (a0 < (0 : Int))) || (decide ((1073741824 : Int) < a0))) || (decide (a1 < (1 : Int)))) || (decide ((1048576 : Int) < a1))) || (decide (a2 < (0 : Int)))) || (decide (a1 ≤ a2))) = true then
  some (([] : List Int), (1 : Int))
  else
  (loop (exchangepointref37_Pick_L0 a0 a1) (a2, ([] : List Int))).bind fun x14 => match x14 with
  | (.inl _) =>
    some (([] : List Int), (1 : Int))
  | (.inr p10) =>
    some (p10, (0 : Int)))
set_option maxHeartbeats 4000000 in
set_option maxRecDepth 100000 in
theorem exchangepointref37_Pick_ac (a0 : Int) (a1 : Int) (a2 : Int) (r : (List Int) × Int) (h : exchangepointref37_Pick a0 a1 a2 = some r) : AC Try.prog 9 [(.d (.int .i64 a0)), (.d (.int .i64 a1)), (.d (.int .i64 a2))] [] (.tup [(.d (.list 1 (r.1.map (eI .i64)))), (.d (.int .i64 r.2))]) [] := by
  refine AC.of_code2 Try.func9 rfl rfl (Nat.le_of_ble_eq_true (by rfl)) fun B hB hN => ?_
  delta exchangepointref37_Pick at h
  refine AWp.seq ?_
  refine AWp.region (OpJs.cons (OpJ.assign (ltN hN rfl) Opd.nils)
  (OpJs.cons (OpJ.assign (ltN hN rfl) (Opd.int .i64 (0)))
  (OpJs.nil))) (by rfl) (by rfl) ?_
  refine seqQ_n ?_
  refine AWp.ghost (Mat.pat [] [(0, (.d (.int .i64 a0))), (1, (.d (.int .i64 a1))), (2, (.d (.int .i64 a2)))] [] hB (by rfl) (by rfl) (by rfl)) ?_
  refine AWp.seq ?_
  refine AWp.seq ?_
  refine AWp.region (OpJs.cons (OpJ.move (ltN hN rfl) (Opd.tmp 0 (.d (.int .i64 a0))))
  (OpJs.cons (OpJ.lss (ltN hN rfl) (Opd.tmp 10 (.d (.int .i64 a0))) (Opd.int .i64 (0)))
  (OpJs.cons (OpJ.move (ltN hN rfl) (Opd.tmp 11 (.d (.bool (decide (a0 < (0 : Int)))))))
  (OpJs.cons (OpJ.opt' (v := (.d (.int .i64 a0))) (OpJ.move (ltN hN rfl) (Opd.tmp 0 (.d (.int .i64 a0)))) (by rfl) (GuardV.plain _) (ltN hN rfl) (by rfl) (by rfl) (by rfl) (by rfl) (OptL.keep rfl OptL.nil))
  (OpJs.cons (OpJ.opt' (v := (.d (.bool (decide ((1073741824 : Int) < a0))))) (OpJ.gtr (ltN hN rfl) (Opd.tmp 13 (.d (.int .i64 a0))) (Opd.int .i64 (1073741824))) (by rfl) (GuardV.plain _) (ltN hN rfl) (by rfl) (by rfl) (by rfl) (by rfl) (OptL.opt OptL.nil))
  (OpJs.cons (OpJ.pickOr rfl (ltN hN rfl) (Opd.tmp 12 (.d (.bool (decide (a0 < (0 : Int)))))) (Opd.tmp 14 (.opt ((decide (a0 < (0 : Int))) == false) (.d (.bool (decide ((1073741824 : Int) < a0)))))))
  (OpJs.cons (OpJ.move (ltN hN rfl) (Opd.tmp 15 (.d (.bool ((decide (a0 < (0 : Int))) || (decide ((1073741824 : Int) < a0)))))))
  (OpJs.cons (OpJ.opt' (v := (.d (.int .i64 a1))) (OpJ.move (ltN hN rfl) (Opd.tmp 1 (.d (.int .i64 a1)))) (by rfl) (GuardV.plain _) (ltN hN rfl) (by rfl) (by rfl) (by rfl) (by rfl) (OptL.keep rfl OptL.nil))
  (OpJs.cons (OpJ.opt' (v := (.d (.bool (decide (a1 < (1 : Int)))))) (OpJ.lss (ltN hN rfl) (Opd.tmp 17 (.d (.int .i64 a1))) (Opd.int .i64 (1))) (by rfl) (GuardV.plain _) (ltN hN rfl) (by rfl) (by rfl) (by rfl) (by rfl) (OptL.opt OptL.nil))
  (OpJs.cons (OpJ.pickOr rfl (ltN hN rfl) (Opd.tmp 16 (.d (.bool ((decide (a0 < (0 : Int))) || (decide ((1073741824 : Int) < a0)))))) (Opd.tmp 18 (.opt (((decide (a0 < (0 : Int))) || (decide ((1073741824 : Int) < a0))) == false) (.d (.bool (decide (a1 < (1 : Int))))))))
  (OpJs.cons (OpJ.move (ltN hN rfl) (Opd.tmp 19 (.d (.bool (((decide (a0 < (0 : Int))) || (decide ((1073741824 : Int) < a0))) || (decide (a1 < (1 : Int))))))))
  (OpJs.cons (OpJ.opt' (v := (.d (.int .i64 a1))) (OpJ.move (ltN hN rfl) (Opd.tmp 1 (.d (.int .i64 a1)))) (by rfl) (GuardV.plain _) (ltN hN rfl) (by rfl) (by rfl) (by rfl) (by rfl) (OptL.keep rfl OptL.nil))
  (OpJs.cons (OpJ.opt' (v := (.d (.bool (decide ((1048576 : Int) < a1))))) (OpJ.gtr (ltN hN rfl) (Opd.tmp 21 (.d (.int .i64 a1))) (Opd.int .i64 (1048576))) (by rfl) (GuardV.plain _) (ltN hN rfl) (by rfl) (by rfl) (by rfl) (by rfl) (OptL.opt OptL.nil))
  (OpJs.cons (OpJ.pickOr rfl (ltN hN rfl) (Opd.tmp 20 (.d (.bool (((decide (a0 < (0 : Int))) || (decide ((1073741824 : Int) < a0))) || (decide (a1 < (1 : Int))))))) (Opd.tmp 22 (.opt ((((decide (a0 < (0 : Int))) || (decide ((1073741824 : Int) < a0))) || (decide (a1 < (1 : Int)))) == false) (.d (.bool (decide ((1048576 : Int) < a1)))))))
  (OpJs.cons (OpJ.move (ltN hN rfl) (Opd.tmp 23 (.d (.bool ((((decide (a0 < (0 : Int))) || (decide ((1073741824 : Int) < a0))) || (decide (a1 < (1 : Int)))) || (decide ((1048576 : Int) < a1)))))))
  (OpJs.cons (OpJ.opt' (v := (.d (.int .i64 a2))) (OpJ.move (ltN hN rfl) (Opd.tmp 2 (.d (.int .i64 a2)))) (by rfl) (GuardV.plain _) (ltN hN rfl) (by rfl) (by rfl) (by rfl) (by rfl) (OptL.keep rfl OptL.nil))
  (OpJs.cons (OpJ.opt' (v := (.d (.bool (decide (a2 < (0 : Int)))))) (OpJ.lss (ltN hN rfl) (Opd.tmp 25 (.d (.int .i64 a2))) (Opd.int .i64 (0))) (by rfl) (GuardV.plain _) (ltN hN rfl) (by rfl) (by rfl) (by rfl) (by rfl) (OptL.opt OptL.nil))
  (OpJs.cons (OpJ.pickOr rfl (ltN hN rfl) (Opd.tmp 24 (.d (.bool ((((decide (a0 < (0 : Int))) || (decide ((1073741824 : Int) < a0))) || (decide (a1 < (1 : Int)))) || (decide ((1048576 : Int) < a1)))))) (Opd.tmp 26 (.opt (((((decide (a0 < (0 : Int))) || (decide ((1073741824 : Int) < a0))) || (decide (a1 < (1 : Int)))) || (decide ((1048576 : Int) < a1))) == false) (.d (.bool (decide (a2 < (0 : Int))))))))
  (OpJs.cons (OpJ.move (ltN hN rfl) (Opd.tmp 27 (.d (.bool (((((decide (a0 < (0 : Int))) || (decide ((1073741824 : Int) < a0))) || (decide (a1 < (1 : Int)))) || (decide ((1048576 : Int) < a1))) || (decide (a2 < (0 : Int))))))))
  (OpJs.cons (OpJ.opt' (v := (.d (.int .i64 a2))) (OpJ.move (ltN hN rfl) (Opd.tmp 2 (.d (.int .i64 a2)))) (by rfl) (GuardV.plain _) (ltN hN rfl) (by rfl) (by rfl) (by rfl) (by rfl) (OptL.keep rfl OptL.nil))
  (OpJs.cons (OpJ.opt' (v := (.d (.int .i64 a1))) (OpJ.move (ltN hN rfl) (Opd.tmp 1 (.d (.int .i64 a1)))) (by rfl) (GuardV.plain _) (ltN hN rfl) (by rfl) (by rfl) (by rfl) (by rfl) (OptL.keep rfl OptL.nil))
  (OpJs.cons (OpJ.opt' (v := (.d (.bool (decide (a1 ≤ a2))))) (OpJ.geq (ltN hN rfl) (Opd.tmp 29 (.d (.int .i64 a2))) (Opd.tmp 30 (.d (.int .i64 a1)))) (by rfl) (GuardV.plain _) (ltN hN rfl) (by rfl) (by rfl) (by rfl) (by rfl) (OptL.opt (OptL.opt OptL.nil)))
  (OpJs.cons (OpJ.pickOr rfl (ltN hN rfl) (Opd.tmp 28 (.d (.bool (((((decide (a0 < (0 : Int))) || (decide ((1073741824 : Int) < a0))) || (decide (a1 < (1 : Int)))) || (decide ((1048576 : Int) < a1))) || (decide (a2 < (0 : Int))))))) (Opd.tmp 31 (.opt ((((((decide (a0 < (0 : Int))) || (decide ((1073741824 : Int) < a0))) || (decide (a1 < (1 : Int)))) || (decide ((1048576 : Int) < a1))) || (decide (a2 < (0 : Int)))) == false) (.d (.bool (decide (a1 ≤ a2)))))))
  (OpJs.nil)))))))))))))))))))))))) (by rfl) (by rfl) ?_
  refine seqQ_n ?_
  refine AWp.ghost (Mat.pat [] [(0, (.d (.int .i64 a0))), (1, (.d (.int .i64 a1))), (2, (.d (.int .i64 a2))), (32, (.d (.bool ((((((decide (a0 < (0 : Int))) || (decide ((1073741824 : Int) < a0))) || (decide (a1 < (1 : Int)))) || (decide ((1048576 : Int) < a1))) || (decide (a2 < (0 : Int)))) || (decide (a1 ≤ a2))))))] [] hB (by rfl) (by rfl) (by rfl)) ?_
  refine AWp.cond (b := ((((((decide (a0 < (0 : Int))) || (decide ((1073741824 : Int) < a0))) || (decide (a1 < (1 : Int)))) || (decide ((1048576 : Int) < a1))) || (decide (a2 < (0 : Int)))) || (decide (a1 ≤ a2)))) (by rfl) (fun hg1 => ?_) (fun hg1 => ?_)
  · replace h := ite_t hg1 h
    refine AWp.seq ?_
    refine AWp.region (OpJs.cons (OpJ.assign (ltN hN rfl) Opd.nils)
      (OpJs.cons (OpJ.assign (ltN hN rfl) (Opd.int .i64 (1)))
      (OpJs.nil))) (by rfl) (by rfl) ?_
    refine seqQ_n ?_
    refine AWp.ghost (Mat.pat [] [(6, .nils), (7, (.d (.int .i64 (1 : Int))))] [] hB (by rfl) (by rfl) (by rfl)) ?_
    refine AWp.ret ?_
    refine seqQ_r ?_
    obtain rfl := Option.some.inj h
    exact ⟨.inl rfl, _, _, (Mat.pat [] [(6, .nils), (7, (.d (.int .i64 (1 : Int))))] [] hB (by rfl) (by rfl) (by rfl)), [(.d (.list 1 (([] : List Int).map (eI .i64)))), (.d (.int .i64 (1 : Int)))], (Res.tmpC (by rfl) (Co.nils 1) (Res.tmp (by rfl) (by rfl) Res.nil)), rfl, by rfl, by rfl, by rfl⟩
  · replace h := ite_f hg1 h
    refine AWp.skip ?_
    refine seqQ_n ?_
    refine AWp.seq ?_
    refine AWp.region (OpJs.cons (OpJ.assign (ltN hN rfl) Opd.nils)
      (OpJs.nil)) (by rfl) (by rfl) ?_
    refine seqQ_n ?_
    refine AWp.ghost (Mat.pat [] [(0, (.d (.int .i64 a0))), (1, (.d (.int .i64 a1))), (2, (.d (.int .i64 a2))), (8, .nils)] [] hB (by rfl) (by rfl) (by rfl)) ?_
    refine AWp.seq ?_
    refine AWp.seq ?_
    refine AWp.region (OpJs.cons (OpJ.move (ltN hN rfl) (Opd.tmp 2 (.d (.int .i64 a2))))
      (OpJs.cons (OpJ.assign (ltN hN rfl) (Opd.tmp 33 (.d (.int .i64 a2))))
      (OpJs.nil))) (by rfl) (by rfl) ?_
    refine seqQ_n ?_
    refine AWp.ghost (Mat.pat [] [(0, (.d (.int .i64 a0))), (1, (.d (.int .i64 a1))), (8, .nils), (9, (.d (.int .i64 a2)))] [] hB (by rfl) (by rfl) (by rfl)) ?_
    refine AWp.block ?_
    obtain ⟨x14, hx15, h⟩ := bindS h
    refine AWp.ghost (Mat.trans (Mat.begin (n := 3008) (e := 3) (sz := 1) (k := 8) hB (by decide) (by rfl) (by decide) (by rfl)) (Mat.pat [] ((fun s2 : Int × (List Int) => ([(0, (.d (.int .i64 a0))), (1, (.d (.int .i64 a1))), (8, (.sref 3008 1 0 s2.2.length)), (9, (.d (.int .i64 s2.1)))] : EL)) (a2, ([] : List Int))) ((fun s2 : Int × (List Int) => ([(3008, some (.row 3 1 (s2.2.map (eI .i64))))] : OL)) (a2, ([] : List Int))) hB (by rfl) (by rfl) (by rfl))) ?_
    refine AWp.loopS (exchangepointref37_Pick_L0 a0 a1) (fun s2 : Int × (List Int) => ([(0, (.d (.int .i64 a0))), (1, (.d (.int .i64 a1))), (8, (.sref 3008 1 0 s2.2.length)), (9, (.d (.int .i64 s2.1)))] : EL)) (fun s2 : Int × (List Int) => ([(3008, some (.row 3 1 (s2.2.map (eI .i64))))] : OL)) (fun (x : (Unit) ⊕ ((List Int))) e E' O' => match x with | (.inl _p) => e = .ret ∧ Mat B E' O' ([(6, .nils), (7, (.d (.int .i64 (1 : Int))))] : EL) ([] : OL) | (.inr p10) => e = .exit 0 ∧ Mat B E' O' ([(8, (.sref 3008 1 0 p10.length))] : EL) ([(3008, some (.row 3 1 (p10.map (eI .i64))))] : OL)) hx15 (fun s2 y h => ?_) (fun e E' O' hR => ?_)
    · unfold exchangepointref37_Pick_L0 at h
      show AWp _ _ _ _ ([(0, (.d (.int .i64 a0))), (1, (.d (.int .i64 a1))), (8, (.sref 3008 1 0 s2.2.length)), (9, (.d (.int .i64 s2.1)))] : EL) ([(3008, some (.row 3 1 (s2.2.map (eI .i64))))] : OL)
      refine AWp.seq ?_
      refine AWp.seq ?_
      refine AWp.region (OpJs.cons (OpJ.move (ltN hN rfl) (Opd.tmp 9 (.d (.int .i64 s2.1))))
        (OpJs.cons (OpJ.move (ltN hN rfl) (Opd.tmp 0 (.d (.int .i64 a0))))
        (OpJs.cons (OpJ.lss (ltN hN rfl) (Opd.tmp 34 (.d (.int .i64 s2.1))) (Opd.tmp 35 (.d (.int .i64 a0))))
        (OpJs.nil)))) (by rfl) (by rfl) ?_
      refine seqQ_n ?_
      refine AWp.ghost (Mat.pat [] [(0, (.d (.int .i64 a0))), (1, (.d (.int .i64 a1))), (8, (.sref 3008 1 0 s2.2.length)), (9, (.d (.int .i64 s2.1))), (36, (.d (.bool (decide (s2.1 < a0)))))] [(3008, some (.row 3 1 (s2.2.map (eI .i64))))] hB (by rfl) (by rfl) (by rfl)) ?_
      refine AWp.cond (b := (decide (s2.1 < a0))) (by rfl) (fun hg11 => ?_) (fun hg11 => ?_)
      · replace h := ite_t hg11 h
        refine AWp.skip ?_
        refine seqQ_n ?_
        refine AWp.seq ?_
        refine AWp.block ?_
        refine AWp.seq ?_
        refine AWp.seq ?_
        refine AWp.region (OpJs.cons (OpJ.move (ltN hN rfl) (Opd.tmp 8 (.sref 3008 1 0 s2.2.length)))
          (OpJs.cons (OpJ.lenS (obj := (.row 3 1 (s2.2.map (eI .i64)))) Try.underlying23 (ltN hN rfl) (Opd.tmp 40 (.sref 3008 1 0 s2.2.length)))
          (OpJs.cons (OpJ.eqlI (ltN hN rfl) (Opd.tmp 41 (.d (.int .i64 (s2.2.length : Int)))) (Opd.int .i64 (1000)))
          (OpJs.nil)))) (by rfl) (by rfl) ?_
        refine seqQ_n ?_
        refine AWp.ghost (Mat.pat [] [(0, (.d (.int .i64 a0))), (1, (.d (.int .i64 a1))), (8, (.sref 3008 1 0 s2.2.length)), (9, (.d (.int .i64 s2.1))), (42, (.d (.bool ((s2.2.length : Int) == (1000 : Int)))))] [(3008, some (.row 3 1 (s2.2.map (eI .i64))))] hB (by rfl) (by rfl) (by rfl)) ?_
        refine AWp.cond (b := ((s2.2.length : Int) == (1000 : Int))) (by rfl) (fun hg12 => ?_) (fun hg12 => ?_)
        · replace h := ite_t hg12 h
          refine AWp.seq ?_
          refine AWp.region (OpJs.cons (OpJ.assign (ltN hN rfl) Opd.nils)
            (OpJs.cons (OpJ.assign (ltN hN rfl) (Opd.int .i64 (1)))
            (OpJs.nil))) (by rfl) (by rfl) ?_
          refine seqQ_n ?_
          refine AWp.ghost (Mat.pat [] [(6, .nils), (7, (.d (.int .i64 (1 : Int))))] [] hB (by rfl) (by rfl) (by rfl)) ?_
          refine AWp.ret ?_
          refine seqQ_r ?_
          refine blkQ_r ?_
          refine seqQ_r ?_
          obtain rfl := Option.some.inj h
          exact ⟨(fun hc => by cases hc), rfl, (Mat.pat [] ((fun _ : Unit => ([(6, .nils), (7, (.d (.int .i64 (1 : Int))))] : EL)) ()) ((fun _ : Unit => ([] : OL)) ()) hB (by rfl) (by rfl) (by rfl))⟩
        · replace h := ite_f hg12 h
          refine AWp.skip ?_
          refine seqQ_n ?_
          obtain ⟨hc13, h⟩ := chk_some h
          refine AWp.region (OpJs.cons (OpJ.move (ltN hN rfl) (Opd.tmp 8 (.sref 3008 1 0 s2.2.length)))
            (OpJs.cons (OpJ.move (ltN hN rfl) (Opd.tmp 9 (.d (.int .i64 s2.1))))
            (OpJs.cons (OpJ.buildSlice Try.underlying23 tyS3 tyZD3 (by rfl) (by decide) (by decide) (Opds.cons (Opd.tmp 44 (.d (.int .i64 s2.1))) Opds.nil) (by kernel_rfl) (es := ([(.int .i64 s2.1)] : List D)) (by rfl) (by rfl) (by kernel_rfl) (by simp) (ltN hN rfl))
            (OpJs.cons (OpJ.append hB Try.underlying23 tyE3 (nm := 1046) (by decide) (es := s2.2.map (eI .i64)) (ys := ([s2.1] : List Int).map (eI .i64)) (es' := (s2.2 ++ ([s2.1] : List Int)).map (eI .i64)) (len := (s2.2 ++ ([s2.1] : List Int)).length) (by simp) (by simp) (map_sz (f := (eI .i64)) (fun _ => rfl)) (by rw [List.length_map]; exact lim_mulN hc13 (by decide)) (by rw [List.length_map]; exact lim_leN hc13) (ltN hN rfl) (by simp) (Opd.tmp 43 (.sref 3008 1 0 s2.2.length)) (Opd.tmp 45 (.d (.list 1 (([s2.1] : List Int).map (eI .i64))))))
            (OpJs.cons (OpJ.assign (ltN hN rfl) (Opd.tmp 46 (.sref 1046 1 0 ((s2.2 ++ ([s2.1] : List Int)).length))))
            (OpJs.nil)))))) (by rfl) (by rfl) ?_
          refine blkQ_n ?_
          refine seqQ_n ?_
          refine AWp.ghost (Mat.pat [] [(0, (.d (.int .i64 a0))), (1, (.d (.int .i64 a1))), (8, (.sref 1046 1 0 ((s2.2 ++ ([s2.1] : List Int)).length))), (9, (.d (.int .i64 s2.1)))] [(1046, some (.row 3 1 ((s2.2 ++ ([s2.1] : List Int)).map (eI .i64))))] hB (by rfl) (by rfl) (by rfl)) ?_
          refine AWp.region (OpJs.cons (OpJ.move (ltN hN rfl) (Opd.tmp 9 (.d (.int .i64 s2.1))))
            (OpJs.cons (OpJ.move (ltN hN rfl) (Opd.tmp 1 (.d (.int .i64 a1))))
            (OpJs.cons (OpJ.add (ltN hN rfl) (Opd.tmp 37 (.d (.int .i64 s2.1))) (Opd.tmp 38 (.d (.int .i64 a1))))
            (OpJs.cons (OpJ.assign (ltN hN rfl) (Opd.tmp 39 (.d (.int .i64 (w64 (s2.1 + a1))))))
            (OpJs.nil))))) (by rfl) (by rfl) ?_
          obtain rfl := Option.some.inj h
          exact ⟨rfl, (Mat.trans (Mat.pat [] [(0, (.d (.int .i64 a0))), (1, (.d (.int .i64 a1))), (8, (.sref 1046 1 0 ((s2.2 ++ ([s2.1] : List Int)).length))), (9, (.d (.int .i64 (w64 (s2.1 + a1)))))] [(1046, some (.row 3 1 ((s2.2 ++ ([s2.1] : List Int)).map (eI .i64))))] hB (by rfl) (by rfl) (by rfl)) (Mat.pat [(3008, 1046)] ((fun s2 : Int × (List Int) => ([(0, (.d (.int .i64 a0))), (1, (.d (.int .i64 a1))), (8, (.sref 3008 1 0 s2.2.length)), (9, (.d (.int .i64 s2.1)))] : EL)) ((w64 (s2.1 + a1)), (s2.2 ++ ([s2.1] : List Int)))) ((fun s2 : Int × (List Int) => ([(3008, some (.row 3 1 (s2.2.map (eI .i64))))] : OL)) ((w64 (s2.1 + a1)), (s2.2 ++ ([s2.1] : List Int)))) hB (by rfl) (by rfl) (by rfl)))⟩
      · replace h := ite_f hg11 h
        refine AWp.exit ?_
        refine seqQ_e ?_
        obtain rfl := Option.some.inj h
        exact ⟨(fun hc => by cases hc), rfl, (Mat.pat [] ((fun p10 : (List Int) => ([(8, (.sref 3008 1 0 p10.length))] : EL)) s2.2) ((fun p10 : (List Int) => ([(3008, some (.row 3 1 (p10.map (eI .i64))))] : OL)) s2.2) hB (by rfl) (by rfl) (by rfl))⟩
    · rcases x14 with _ | p10
      · obtain ⟨rfl, hmat⟩ := hR
        refine blkQ_r ?_
        refine seqQ_r ?_
        obtain rfl := Option.some.inj h
        exact ⟨.inl rfl, _, _, (Mat.trans hmat (Mat.pat [] [(6, .nils), (7, (.d (.int .i64 (1 : Int))))] [] hB (by rfl) (by rfl) (by rfl))), [(.d (.list 1 (([] : List Int).map (eI .i64)))), (.d (.int .i64 (1 : Int)))], (Res.tmpC (by rfl) (Co.nils 1) (Res.tmp (by rfl) (by rfl) Res.nil)), rfl, by rfl, by rfl, by rfl⟩
      · obtain ⟨rfl, hmat⟩ := hR
        refine blkQ_hit ?_
        refine seqQ_n ?_
        refine AWp.ghost hmat ?_
        refine AWp.seq ?_
        refine AWp.region (OpJs.cons (OpJ.move (ltN hN rfl) (Opd.tmp 8 (.sref 3008 1 0 p10.length)))
          (OpJs.cons (OpJ.assign (ltN hN rfl) (Opd.tmp 47 (.sref 3008 1 0 p10.length)))
          (OpJs.cons (OpJ.assign (ltN hN rfl) (Opd.int .i64 (0)))
          (OpJs.nil)))) (by rfl) (by rfl) ?_
        refine seqQ_n ?_
        refine AWp.ghost (Mat.pat [] [(6, (.sref 3008 1 0 p10.length)), (7, (.d (.int .i64 (0 : Int))))] [(3008, some (.row 3 1 (p10.map (eI .i64))))] hB (by rfl) (by rfl) (by rfl)) ?_
        refine AWp.ret ?_
        obtain rfl := Option.some.inj h
        exact ⟨.inl rfl, _, _, (Mat.trans (Mat.freezeAll (n := 3008) (k := 6) (by rfl) (by rfl) (by first | (simp; done) | (simp; omega))) (Mat.pat [] [(6, (.d (.list 1 (p10.map (eI .i64))))), (7, (.d (.int .i64 (0 : Int))))] [] hB (by rfl) (by rfl) (by rfl))), [(.d (.list 1 (p10.map (eI .i64)))), (.d (.int .i64 (0 : Int)))], (Res.tmp (by rfl) (by rfl) (Res.tmp (by rfl) (by rfl) Res.nil)), rfl, by rfl, by rfl, by rfl⟩

noncomputable def exchangepointref23_SameInts_L0 (a0 : (List Int)) (a1 : (List Int)) (s2 : Int) : Option (((Unit) ⊕ (Unit)) ⊕ (Int)) :=
  (if (decide (s2 < (a0.length : Int))) = true then
  (idx a0 s2).bind fun x14 =>
  (idx a1 s2).bind fun x15 =>
  (if (x14 != x15) = true then
  some (.inl (.inl ()))
  else
  some (.inr (w64 (s2 + (1 : Int)))))
  else
  some (.inl (.inr ())))
noncomputable def exchangepointref23_SameInts (a0 : (List Int)) (a1 : (List Int)) : Option (Bool) :=
  (if ((a0.length : Int) != (a1.length : Int)) = true then
  some false
  else
  (loop (exchangepointref23_SameInts_L0 a0 a1) (0 : Int)).bind fun x17 => match x17 with
  | (.inl _) =>
    some false
  | (.inr _) =>
    some true)
set_option maxHeartbeats 4000000 in
set_option maxRecDepth 100000 in
theorem exchangepointref23_SameInts_ac (a0 : (List Int)) (a1 : (List Int)) (r : Bool) (h : exchangepointref23_SameInts a0 a1 = some r) : AC Try.prog 10 [(.d (.list 1 (a0.map (eI .i64)))), (.d (.list 1 (a1.map (eI .i64))))] [] (.d (.bool r)) [] := by
  refine AC.of_code2 Try.func10 rfl rfl (Nat.le_of_ble_eq_true (by rfl)) fun B hB hN => ?_
  delta exchangepointref23_SameInts at h
  refine AWp.seq ?_
  refine AWp.region (OpJs.cons (OpJ.assign (ltN hN rfl) (Opd.bool false))
  (OpJs.nil)) (by rfl) (by rfl) ?_
  refine seqQ_n ?_
  refine AWp.ghost (Mat.pat [] [(0, (.d (.list 1 (a0.map (eI .i64))))), (1, (.d (.list 1 (a1.map (eI .i64)))))] [] hB (by rfl) (by rfl) (by rfl)) ?_
  refine AWp.seq ?_
  refine AWp.seq ?_
  refine AWp.region (OpJs.cons (OpJ.move (ltN hN rfl) (Opd.tmp 0 (.d (.list 1 (a0.map (eI .i64))))))
  (OpJs.cons (OpJ.val (v' := (.d (.int .i64 (a0.length : Int)))) (by simp) (OpJ.lenD Try.underlying23 (ltN hN rfl) (Opd.tmp 6 (.d (.list 1 (a0.map (eI .i64)))))))
  (OpJs.cons (OpJ.move (ltN hN rfl) (Opd.tmp 1 (.d (.list 1 (a1.map (eI .i64))))))
  (OpJs.cons (OpJ.val (v' := (.d (.int .i64 (a1.length : Int)))) (by simp) (OpJ.lenD Try.underlying23 (ltN hN rfl) (Opd.tmp 8 (.d (.list 1 (a1.map (eI .i64)))))))
  (OpJs.cons (OpJ.neqI (ltN hN rfl) (Opd.tmp 7 (.d (.int .i64 (a0.length : Int)))) (Opd.tmp 9 (.d (.int .i64 (a1.length : Int)))))
  (OpJs.nil)))))) (by rfl) (by rfl) ?_
  refine seqQ_n ?_
  refine AWp.ghost (Mat.pat [] [(0, (.d (.list 1 (a0.map (eI .i64))))), (1, (.d (.list 1 (a1.map (eI .i64))))), (10, (.d (.bool ((a0.length : Int) != (a1.length : Int)))))] [] hB (by rfl) (by rfl) (by rfl)) ?_
  refine AWp.cond (b := ((a0.length : Int) != (a1.length : Int))) (by rfl) (fun hg1 => ?_) (fun hg1 => ?_)
  · replace h := ite_t hg1 h
    refine AWp.seq ?_
    refine AWp.region (OpJs.cons (OpJ.assign (ltN hN rfl) (Opd.bool false))
      (OpJs.nil)) (by rfl) (by rfl) ?_
    refine seqQ_n ?_
    refine AWp.ghost (Mat.pat [] [(4, (.d (.bool false)))] [] hB (by rfl) (by rfl) (by rfl)) ?_
    refine AWp.ret ?_
    refine seqQ_r ?_
    obtain rfl := Option.some.inj h
    exact ⟨.inl rfl, _, _, (Mat.pat [] [(4, (.d (.bool false)))] [] hB (by rfl) (by rfl) (by rfl)), [(.d (.bool false))], (Res.tmp (by rfl) (by rfl) Res.nil), rfl, by rfl, by rfl, by rfl⟩
  · replace h := ite_f hg1 h
    refine AWp.skip ?_
    refine seqQ_n ?_
    refine AWp.seq ?_
    refine AWp.seq ?_
    refine AWp.region (OpJs.cons (OpJ.move (ltN hN rfl) (Opd.tmp 0 (.d (.list 1 (a0.map (eI .i64))))))
      (OpJs.cons (OpJ.val (v' := (.d (.int .i64 (a0.length : Int)))) (by simp) (OpJ.lenD Try.underlying23 (ltN hN rfl) (Opd.tmp 11 (.d (.list 1 (a0.map (eI .i64)))))))
      (OpJs.cons (OpJ.move (ltN hN rfl) (Opd.int .i64 (0)))
      (OpJs.nil)))) (by rfl) (by rfl) ?_
    refine seqQ_n ?_
    refine AWp.ghost (Mat.pat [] [(0, (.d (.list 1 (a0.map (eI .i64))))), (1, (.d (.list 1 (a1.map (eI .i64))))), (12, (.d (.int .i64 (a0.length : Int)))), (13, (.d (.int .i64 (0 : Int))))] [] hB (by rfl) (by rfl) (by rfl)) ?_
    refine AWp.block ?_
    obtain ⟨x17, hx18, h⟩ := bindS h
    refine AWp.ghost (Mat.pat [] ((fun s2 : Int => ([(0, (.d (.list 1 (a0.map (eI .i64))))), (1, (.d (.list 1 (a1.map (eI .i64))))), (12, (.d (.int .i64 (a0.length : Int)))), (13, (.d (.int .i64 s2)))] : EL)) (0 : Int)) ((fun s2 : Int => ([] : OL)) (0 : Int)) hB (by rfl) (by rfl) (by rfl)) ?_
    refine AWp.loopS (exchangepointref23_SameInts_L0 a0 a1) (fun s2 : Int => ([(0, (.d (.list 1 (a0.map (eI .i64))))), (1, (.d (.list 1 (a1.map (eI .i64))))), (12, (.d (.int .i64 (a0.length : Int)))), (13, (.d (.int .i64 s2)))] : EL)) (fun s2 : Int => ([] : OL)) (fun (x : (Unit) ⊕ (Unit)) e E' O' => match x with | (.inl _p) => e = .ret ∧ Mat B E' O' ([(4, (.d (.bool false)))] : EL) ([] : OL) | (.inr _p) => e = .exit 0 ∧ Mat B E' O' ([] : EL) ([] : OL)) hx18 (fun s2 y h => ?_) (fun e E' O' hR => ?_)
    · unfold exchangepointref23_SameInts_L0 at h
      show AWp _ _ _ _ ([(0, (.d (.list 1 (a0.map (eI .i64))))), (1, (.d (.list 1 (a1.map (eI .i64))))), (12, (.d (.int .i64 (a0.length : Int)))), (13, (.d (.int .i64 s2)))] : EL) ([] : OL)
      refine AWp.seq ?_
      refine AWp.region (OpJs.cons (OpJ.lss (ltN hN rfl) (Opd.tmp 13 (.d (.int .i64 s2))) (Opd.tmp 12 (.d (.int .i64 (a0.length : Int)))))
        (OpJs.nil)) (by rfl) (by rfl) ?_
      refine seqQ_n ?_
      refine AWp.ghost (Mat.pat [] [(0, (.d (.list 1 (a0.map (eI .i64))))), (1, (.d (.list 1 (a1.map (eI .i64))))), (12, (.d (.int .i64 (a0.length : Int)))), (13, (.d (.int .i64 s2))), (14, (.d (.bool (decide (s2 < (a0.length : Int))))))] [] hB (by rfl) (by rfl) (by rfl)) ?_
      refine AWp.seq ?_
      refine AWp.cond (b := (decide (s2 < (a0.length : Int)))) (by rfl) (fun hg13 => ?_) (fun hg13 => ?_)
      · replace h := ite_t hg13 h
        refine AWp.skip ?_
        refine seqQ_n ?_
        refine AWp.seq ?_
        refine AWp.block ?_
        refine AWp.seq ?_
        refine AWp.region (OpJs.cons (OpJ.move (ltN hN rfl) (Opd.tmp 13 (.d (.int .i64 s2))))
          (OpJs.cons (OpJ.assign (ltN hN rfl) (Opd.tmp 15 (.d (.int .i64 s2))))
          (OpJs.nil))) (by rfl) (by rfl) ?_
        refine seqQ_n ?_
        refine AWp.ghost (Mat.pat [] [(0, (.d (.list 1 (a0.map (eI .i64))))), (1, (.d (.list 1 (a1.map (eI .i64))))), (5, (.d (.int .i64 s2))), (12, (.d (.int .i64 (a0.length : Int)))), (13, (.d (.int .i64 s2)))] [] hB (by rfl) (by rfl) (by rfl)) ?_
        refine AWp.seq ?_
        obtain ⟨x14, hx14, h⟩ := bindS h
        obtain ⟨x15, hx15, h⟩ := bindS h
        refine AWp.draws (by kernel_rfl) (OpJs.cons (OpJ.move (ltN hN rfl) (Opd.tmp 0 (.d (.list 1 (a0.map (eI .i64))))))
          (OpJs.cons (OpJ.move (ltN hN rfl) (Opd.tmp 5 (.d (.int .i64 s2))))
          (OpJs.cons (OpJ.indexD (el := (.int .i64 x14)) Try.underlying23 tyS3 (idx_some hx14).1 (get_map (eI .i64) (idx_some hx14).2) (ltN hN rfl) (Opd.tmp 16 (.d (.list 1 (a0.map (eI .i64))))) (Opd.tmp 17 (.d (.int .i64 s2))))
          (OpJs.cons (OpJ.loadD tyS3 (by rfl) (by rfl) (ltN hN rfl) (Opd.tmp 18 (.dptr (.int .i64 x14))))
          (OpJs.cons (OpJ.move (ltN hN rfl) (Opd.tmp 1 (.d (.list 1 (a1.map (eI .i64))))))
          (OpJs.cons (OpJ.move (ltN hN rfl) (Opd.tmp 5 (.d (.int .i64 s2))))
          (OpJs.cons (OpJ.indexD (el := (.int .i64 x15)) Try.underlying23 tyS3 (idx_some hx15).1 (get_map (eI .i64) (idx_some hx15).2) (ltN hN rfl) (Opd.tmp 20 (.d (.list 1 (a1.map (eI .i64))))) (Opd.tmp 21 (.d (.int .i64 s2))))
          (OpJs.cons (OpJ.loadD tyS3 (by rfl) (by rfl) (ltN hN rfl) (Opd.tmp 22 (.dptr (.int .i64 x15))))
          (OpJs.cons (OpJ.neqI (ltN hN rfl) (Opd.tmp 19 (.d (.int .i64 x14))) (Opd.tmp 23 (.d (.int .i64 x15))))
          (OpJs.nil)))))))))) (by kernel_rfl) (by rfl) (by rfl) ?_
        refine seqQ_n ?_
        refine AWp.ghost (Mat.pat [] [(0, (.d (.list 1 (a0.map (eI .i64))))), (1, (.d (.list 1 (a1.map (eI .i64))))), (12, (.d (.int .i64 (a0.length : Int)))), (13, (.d (.int .i64 s2))), (24, (.d (.bool (x14 != x15))))] [] hB (by rfl) (by rfl) (by rfl)) ?_
        refine AWp.cond (b := (x14 != x15)) (by rfl) (fun hg16 => ?_) (fun hg16 => ?_)
        · replace h := ite_t hg16 h
          refine AWp.seq ?_
          refine AWp.region (OpJs.cons (OpJ.assign (ltN hN rfl) (Opd.bool false))
            (OpJs.nil)) (by rfl) (by rfl) ?_
          refine seqQ_n ?_
          refine AWp.ghost (Mat.pat [] [(4, (.d (.bool false)))] [] hB (by rfl) (by rfl) (by rfl)) ?_
          refine AWp.ret ?_
          refine blkQ_r ?_
          refine seqQ_r ?_
          obtain rfl := Option.some.inj h
          exact ⟨(fun hc => by cases hc), rfl, (Mat.pat [] ((fun _ : Unit => ([(4, (.d (.bool false)))] : EL)) ()) ((fun _ : Unit => ([] : OL)) ()) hB (by rfl) (by rfl) (by rfl))⟩
        · replace h := ite_f hg16 h
          refine AWp.skip ?_
          refine blkQ_n ?_
          refine seqQ_n ?_
          refine AWp.region (OpJs.cons (OpJ.add (ltN hN rfl) (Opd.tmp 13 (.d (.int .i64 s2))) (Opd.int .i64 (1)))
            (OpJs.cons (OpJ.move (ltN hN rfl) (Opd.tmp 25 (.d (.int .i64 (w64 (s2 + (1 : Int)))))))
            (OpJs.nil))) (by rfl) (by rfl) ?_
          obtain rfl := Option.some.inj h
          exact ⟨rfl, (Mat.trans (Mat.pat [] [(0, (.d (.list 1 (a0.map (eI .i64))))), (1, (.d (.list 1 (a1.map (eI .i64))))), (12, (.d (.int .i64 (a0.length : Int)))), (13, (.d (.int .i64 (w64 (s2 + (1 : Int))))))] [] hB (by rfl) (by rfl) (by rfl)) (Mat.pat [] ((fun s2 : Int => ([(0, (.d (.list 1 (a0.map (eI .i64))))), (1, (.d (.list 1 (a1.map (eI .i64))))), (12, (.d (.int .i64 (a0.length : Int)))), (13, (.d (.int .i64 s2)))] : EL)) (w64 (s2 + (1 : Int)))) ((fun s2 : Int => ([] : OL)) (w64 (s2 + (1 : Int)))) hB (by rfl) (by rfl) (by rfl)))⟩
      · replace h := ite_f hg13 h
        refine AWp.exit ?_
        refine seqQ_e ?_
        obtain rfl := Option.some.inj h
        exact ⟨(fun hc => by cases hc), rfl, (Mat.pat [] ((fun _ : Unit => ([] : EL)) ()) ((fun _ : Unit => ([] : OL)) ()) hB (by rfl) (by rfl) (by rfl))⟩
    · rcases x17 with _ | _
      · obtain ⟨rfl, hmat⟩ := hR
        refine blkQ_r ?_
        refine seqQ_r ?_
        obtain rfl := Option.some.inj h
        exact ⟨.inl rfl, _, _, (Mat.trans hmat (Mat.pat [] [(4, (.d (.bool false)))] [] hB (by rfl) (by rfl) (by rfl))), [(.d (.bool false))], (Res.tmp (by rfl) (by rfl) Res.nil), rfl, by rfl, by rfl, by rfl⟩
      · obtain ⟨rfl, hmat⟩ := hR
        refine blkQ_hit ?_
        refine seqQ_n ?_
        refine AWp.ghost hmat ?_
        refine AWp.seq ?_
        refine AWp.region (OpJs.cons (OpJ.assign (ltN hN rfl) (Opd.bool true))
          (OpJs.nil)) (by rfl) (by rfl) ?_
        refine seqQ_n ?_
        refine AWp.ghost (Mat.pat [] [(4, (.d (.bool true)))] [] hB (by rfl) (by rfl) (by rfl)) ?_
        refine AWp.ret ?_
        obtain rfl := Option.some.inj h
        exact ⟨.inl rfl, _, _, (Mat.pat [] [(4, (.d (.bool true)))] [] hB (by rfl) (by rfl) (by rfl)), [(.d (.bool true))], (Res.tmp (by rfl) (by rfl) Res.nil), rfl, by rfl, by rfl, by rfl⟩

noncomputable def sample_single_1 (a0 : Int) (a1 : Int) (a2 : Int) : Option (Bool) :=
  some ((decide (a1 ≤ a0)) && (decide (a0 ≤ a2)))
set_option maxHeartbeats 4000000 in
set_option maxRecDepth 100000 in
theorem sample_single_1_ac (a0 : Int) (a1 : Int) (a2 : Int) (r : Bool) (h : sample_single_1 a0 a1 a2 = some r) : AC Try.prog 31 [(.d (.int .i64 a0)), (.d (.int .i64 a1)), (.d (.int .i64 a2))] [] (.d (.bool r)) [] := by
  refine AC.of_code2 Try.func31 rfl rfl (Nat.le_of_ble_eq_true (by rfl)) fun B hB hN => ?_
  delta sample_single_1 at h
  refine AWp.seq ?_
  refine AWp.region (OpJs.cons (OpJ.assign (ltN hN rfl) (Opd.bool false))
  (OpJs.nil)) (by rfl) (by rfl) ?_
  refine seqQ_n ?_
  refine AWp.ghost (Mat.pat [] [(0, (.d (.int .i64 a0))), (1, (.d (.int .i64 a1))), (2, (.d (.int .i64 a2)))] [] hB (by rfl) (by rfl) (by rfl)) ?_
  refine AWp.seq ?_
  refine AWp.region (OpJs.cons (OpJ.move (ltN hN rfl) (Opd.tmp 0 (.d (.int .i64 a0))))
  (OpJs.cons (OpJ.move (ltN hN rfl) (Opd.tmp 1 (.d (.int .i64 a1))))
  (OpJs.cons (OpJ.geq (ltN hN rfl) (Opd.tmp 7 (.d (.int .i64 a0))) (Opd.tmp 8 (.d (.int .i64 a1))))
  (OpJs.cons (OpJ.move (ltN hN rfl) (Opd.tmp 9 (.d (.bool (decide (a1 ≤ a0))))))
  (OpJs.cons (OpJ.opt' (v := (.d (.int .i64 a0))) (OpJ.move (ltN hN rfl) (Opd.tmp 0 (.d (.int .i64 a0)))) (by rfl) (GuardV.plain _) (ltN hN rfl) (by rfl) (by rfl) (by rfl) (by rfl) (OptL.keep rfl OptL.nil))
  (OpJs.cons (OpJ.opt' (v := (.d (.int .i64 a2))) (OpJ.move (ltN hN rfl) (Opd.tmp 2 (.d (.int .i64 a2)))) (by rfl) (GuardV.plain _) (ltN hN rfl) (by rfl) (by rfl) (by rfl) (by rfl) (OptL.keep rfl OptL.nil))
  (OpJs.cons (OpJ.opt' (v := (.d (.bool (decide (a0 ≤ a2))))) (OpJ.leq (ltN hN rfl) (Opd.tmp 11 (.d (.int .i64 a0))) (Opd.tmp 12 (.d (.int .i64 a2)))) (by rfl) (GuardV.plain _) (ltN hN rfl) (by rfl) (by rfl) (by rfl) (by rfl) (OptL.opt (OptL.opt OptL.nil)))
  (OpJs.cons (OpJ.pickAnd rfl (ltN hN rfl) (Opd.tmp 10 (.d (.bool (decide (a1 ≤ a0))))) (Opd.tmp 13 (.opt ((decide (a1 ≤ a0)) == true) (.d (.bool (decide (a0 ≤ a2)))))))
  (OpJs.cons (OpJ.assign (ltN hN rfl) (Opd.tmp 14 (.d (.bool ((decide (a1 ≤ a0)) && (decide (a0 ≤ a2)))))))
  (OpJs.nil)))))))))) (by rfl) (by rfl) ?_
  refine seqQ_n ?_
  refine AWp.ghost (Mat.pat [] [(6, (.d (.bool ((decide (a1 ≤ a0)) && (decide (a0 ≤ a2))))))] [] hB (by rfl) (by rfl) (by rfl)) ?_
  refine AWp.ret ?_
  obtain rfl := Option.some.inj h
  exact ⟨.inl rfl, _, _, (Mat.pat [] [(6, (.d (.bool ((decide (a1 ≤ a0)) && (decide (a0 ≤ a2))))))] [] hB (by rfl) (by rfl) (by rfl)), [(.d (.bool ((decide (a1 ≤ a0)) && (decide (a0 ≤ a2)))))], (Res.tmp (by rfl) (by rfl) Res.nil), rfl, by rfl, by rfl, by rfl⟩

noncomputable def sample_single (a0 : api_Sample) : Option (Bool) :=
  jn (fun m13 : Bool =>
  some m13) (fun j14 =>
  (sample_single_1 a0.fTick (0 : Int) (1073741824 : Int)).bind fun r15 =>
  (if r15 = true then
  (sample_single_1 a0.fSeq (0 : Int) (1099511627776 : Int)).bind fun r17 =>
  (if r17 = true then
  (sample_single_1 a0.fPool (0 : Int) (1099511627776 : Int)).bind fun r19 =>
  (if r19 = true then
  (sample_single_1 a0.fIn (1 : Int) (999 : Int)).bind fun r21 =>
  (if r21 = true then
  (sample_single_1 a0.fOut (1 : Int) (999 : Int)).bind fun r23 =>
  (if r23 = true then
  (sample_single_1 a0.fBytes (0 : Int) (65535 : Int)).bind fun r25 =>
  j14 r25
  else
  j14 false)
  else
  j14 false)
  else
  j14 false)
  else
  j14 false)
  else
  j14 false))
set_option maxHeartbeats 4000000 in
set_option maxRecDepth 100000 in
theorem sample_single_ac (a0 : api_Sample) (r : Bool) (h : sample_single a0 = some r) : AC Try.prog 27 [(.d (e_api_Sample a0))] [] (.d (.bool r)) [] := by
  refine AC.of_code2 Try.func27 rfl rfl (Nat.le_of_ble_eq_true (by rfl)) fun B hB hN => ?_
  delta sample_single at h
  refine AWp.seq ?_
  refine AWp.region (OpJs.cons (OpJ.box hB (nm := 1001) (by decide) (by simp) rfl (ltN hN rfl) (Opd.tmp 0 (.d (e_api_Sample a0))))
  (OpJs.cons (OpJ.assign (ltN hN rfl) (Opd.bool false))
  (OpJs.nil))) (by rfl) (by rfl) ?_
  refine seqQ_n ?_
  refine AWp.ghost (Mat.pat [] [(1, (.ptr 1001 0 []))] [(1001, some (.box 36 (.d (e_api_Sample a0))))] hB (by rfl) (by rfl) (by rfl)) ?_
  refine AWp.seq ?_
  refine AWp.region (OpJs.cons (OpJ.assign (ltN hN rfl) (Opd.func 31))
  (OpJs.nil)) (by rfl) (by rfl) ?_
  refine seqQ_n ?_
  refine AWp.ghost (Mat.pat [] [(1, (.ptr 1001 0 [])), (3, (.func 31 []))] [(1001, some (.box 36 (.d (e_api_Sample a0))))] hB (by rfl) (by rfl) (by rfl)) ?_
  refine AWp.seq ?_
  refine AWp.cut h (fun m13 : Bool => ([(2, (.d (.bool m13)))] : EL)) (fun m13 : Bool => ([] : OL)) (fun m13 h E' O' hmat => ?_) (fun j14 hjj14 h => ?_)
  · refine seqQ_n ?_
    refine AWp.ghost hmat ?_
    refine AWp.ret ?_
    obtain rfl := Option.some.inj h
    exact ⟨.inl rfl, _, _, (Mat.pat [] [(2, (.d (.bool m13)))] [] hB (by rfl) (by rfl) (by rfl)), [(.d (.bool m13))], (Res.tmp (by rfl) (by rfl) Res.nil), rfl, by rfl, by rfl, by rfl⟩
  · obtain ⟨r15, hr15, h⟩ := bindS h
    rcases Bool.eq_false_or_eq_true r15 with hg16 | hg16
    · replace h := ite_t hg16 h
      obtain ⟨r17, hr17, h⟩ := bindS h
      rcases Bool.eq_false_or_eq_true r17 with hg18 | hg18
      · replace h := ite_t hg18 h
        obtain ⟨r19, hr19, h⟩ := bindS h
        rcases Bool.eq_false_or_eq_true r19 with hg20 | hg20
        · replace h := ite_t hg20 h
          obtain ⟨r21, hr21, h⟩ := bindS h
          rcases Bool.eq_false_or_eq_true r21 with hg22 | hg22
          · replace h := ite_t hg22 h
            obtain ⟨r23, hr23, h⟩ := bindS h
            rcases Bool.eq_false_or_eq_true r23 with hg24 | hg24
            · replace h := ite_t hg24 h
              obtain ⟨r25, hr25, h⟩ := bindS h
              refine AWp.region (OpJs.cons (OpJ.move (ltN hN rfl) (Opd.tmp 3 (.func 31 [])))
                (OpJs.cons (OpJ.val (v' := (.ptr 1001 0 [0])) (by rfl) (OpJ.fieldP Try.underlying36 (by rfl) (o := 0) (by rfl) tyS3 (by decide) (obj := (.box 36 (.d (e_api_Sample a0)))) (ltN hN rfl) (Opd.tmp 1 (.ptr 1001 0 []))))
                (OpJs.cons (OpJ.loadB (bt := 36) (c := (.d (e_api_Sample a0))) (v := (.d (.int .i64 a0.fTick))) tyS3 (At.dst1 (f := (.int .i64 a0.fTick)) (by rfl) (by rfl) (At.here _) (by first | rfl | omega)) (by rfl) (by rfl) rfl (ltN hN rfl) (Opd.tmp 5 (.ptr 1001 0 [0])))
                (OpJs.cons (OpJ.callVal (args := [(.d (.int .i64 a0.fTick)), (.d (.int .i64 (0 : Int))), (.d (.int .i64 (1073741824 : Int)))]) (caps := []) hB fnOk31 [] (sample_single_1_ac a0.fTick (0 : Int) (1073741824 : Int) r15 hr15) (by kernel_rfl) (ltN hN rfl) (by kernel_rfl) (by kernel_rfl) (OpdL.cons (Opd.tmp 6 (.d (.int .i64 a0.fTick))) (OpdL.cons (Opd.int .i64 (0)) (OpdL.cons (Opd.int .i64 (1073741824)) OpdL.nil))))
                (OpJs.cons (OpJ.val (v' := .d (.bool true)) (by rw [hg16]) (OpJ.move (ltN hN rfl) (Opd.tmp 7 (.d (.bool r15)))))
                (OpJs.cons (OpJ.guarded (by rfl) (OpJ.move (ltN hN rfl) (Opd.tmp 3 (.func 31 []))))
                (OpJs.cons (OpJ.guarded (by rfl) (OpJ.val (v' := (.ptr 1001 1 [1])) (by rfl) (OpJ.fieldP Try.underlying36 (by rfl) (o := 1) (by rfl) tyS3 (by decide) (obj := (.box 36 (.d (e_api_Sample a0)))) (ltN hN rfl) (Opd.tmp 1 (.ptr 1001 0 [])))))
                (OpJs.cons (OpJ.guarded (by rfl) (OpJ.loadB (bt := 36) (c := (.d (e_api_Sample a0))) (v := (.d (.int .i64 a0.fSeq))) tyS3 (At.dst1 (f := (.int .i64 a0.fSeq)) (by rfl) (by rfl) (At.here _) (by first | rfl | omega)) (by rfl) (by rfl) rfl (ltN hN rfl) (Opd.tmp 10 (.ptr 1001 1 [1]))))
                (OpJs.cons (OpJ.guarded (by rfl) (OpJ.callVal (args := [(.d (.int .i64 a0.fSeq)), (.d (.int .i64 (0 : Int))), (.d (.int .i64 (1099511627776 : Int)))]) (caps := []) hB fnOk31 [] (sample_single_1_ac a0.fSeq (0 : Int) (1099511627776 : Int) r17 hr17) (by kernel_rfl) (ltN hN rfl) (by kernel_rfl) (by kernel_rfl) (OpdL.cons (Opd.tmp 11 (.d (.int .i64 a0.fSeq))) (OpdL.cons (Opd.int .i64 (0)) (OpdL.cons (Opd.int .i64 (1099511627776)) OpdL.nil)))))
                (OpJs.cons (OpJ.pickT (ltN hN rfl) (Opd.tmp 8 (.d (.bool true))) (Opd.tmp 12 (.d (.bool r17))))
                (OpJs.cons (OpJ.val (v' := .d (.bool true)) (by rw [hg18]) (OpJ.move (ltN hN rfl) (Opd.tmp 13 (.d (.bool r17)))))
                (OpJs.cons (OpJ.guarded (by rfl) (OpJ.move (ltN hN rfl) (Opd.tmp 3 (.func 31 []))))
                (OpJs.cons (OpJ.guarded (by rfl) (OpJ.val (v' := (.ptr 1001 2 [2])) (by rfl) (OpJ.fieldP Try.underlying36 (by rfl) (o := 2) (by rfl) tyS3 (by decide) (obj := (.box 36 (.d (e_api_Sample a0)))) (ltN hN rfl) (Opd.tmp 1 (.ptr 1001 0 [])))))
                (OpJs.cons (OpJ.guarded (by rfl) (OpJ.loadB (bt := 36) (c := (.d (e_api_Sample a0))) (v := (.d (.int .i64 a0.fPool))) tyS3 (At.dst1 (f := (.int .i64 a0.fPool)) (by rfl) (by rfl) (At.here _) (by first | rfl | omega)) (by rfl) (by rfl) rfl (ltN hN rfl) (Opd.tmp 16 (.ptr 1001 2 [2]))))
                (OpJs.cons (OpJ.guarded (by rfl) (OpJ.callVal (args := [(.d (.int .i64 a0.fPool)), (.d (.int .i64 (0 : Int))), (.d (.int .i64 (1099511627776 : Int)))]) (caps := []) hB fnOk31 [] (sample_single_1_ac a0.fPool (0 : Int) (1099511627776 : Int) r19 hr19) (by kernel_rfl) (ltN hN rfl) (by kernel_rfl) (by kernel_rfl) (OpdL.cons (Opd.tmp 17 (.d (.int .i64 a0.fPool))) (OpdL.cons (Opd.int .i64 (0)) (OpdL.cons (Opd.int .i64 (1099511627776)) OpdL.nil)))))
                (OpJs.cons (OpJ.pickT (ltN hN rfl) (Opd.tmp 14 (.d (.bool true))) (Opd.tmp 18 (.d (.bool r19))))
                (OpJs.cons (OpJ.val (v' := .d (.bool true)) (by rw [hg20]) (OpJ.move (ltN hN rfl) (Opd.tmp 19 (.d (.bool r19)))))
                (OpJs.cons (OpJ.guarded (by rfl) (OpJ.move (ltN hN rfl) (Opd.tmp 3 (.func 31 []))))
                (OpJs.cons (OpJ.guarded (by rfl) (OpJ.val (v' := (.ptr 1001 3 [3])) (by rfl) (OpJ.fieldP Try.underlying36 (by rfl) (o := 3) (by rfl) tyS3 (by decide) (obj := (.box 36 (.d (e_api_Sample a0)))) (ltN hN rfl) (Opd.tmp 1 (.ptr 1001 0 [])))))
                (OpJs.cons (OpJ.guarded (by rfl) (OpJ.loadB (bt := 36) (c := (.d (e_api_Sample a0))) (v := (.d (.int .i64 a0.fIn))) tyS3 (At.dst1 (f := (.int .i64 a0.fIn)) (by rfl) (by rfl) (At.here _) (by first | rfl | omega)) (by rfl) (by rfl) rfl (ltN hN rfl) (Opd.tmp 22 (.ptr 1001 3 [3]))))
                (OpJs.cons (OpJ.guarded (by rfl) (OpJ.callVal (args := [(.d (.int .i64 a0.fIn)), (.d (.int .i64 (1 : Int))), (.d (.int .i64 (999 : Int)))]) (caps := []) hB fnOk31 [] (sample_single_1_ac a0.fIn (1 : Int) (999 : Int) r21 hr21) (by kernel_rfl) (ltN hN rfl) (by kernel_rfl) (by kernel_rfl) (OpdL.cons (Opd.tmp 23 (.d (.int .i64 a0.fIn))) (OpdL.cons (Opd.int .i64 (1)) (OpdL.cons (Opd.int .i64 (999)) OpdL.nil)))))
                (OpJs.cons (OpJ.pickT (ltN hN rfl) (Opd.tmp 20 (.d (.bool true))) (Opd.tmp 24 (.d (.bool r21))))
                (OpJs.cons (OpJ.val (v' := .d (.bool true)) (by rw [hg22]) (OpJ.move (ltN hN rfl) (Opd.tmp 25 (.d (.bool r21)))))
                (OpJs.cons (OpJ.guarded (by rfl) (OpJ.move (ltN hN rfl) (Opd.tmp 3 (.func 31 []))))
                (OpJs.cons (OpJ.guarded (by rfl) (OpJ.val (v' := (.ptr 1001 4 [4])) (by rfl) (OpJ.fieldP Try.underlying36 (by rfl) (o := 4) (by rfl) tyS3 (by decide) (obj := (.box 36 (.d (e_api_Sample a0)))) (ltN hN rfl) (Opd.tmp 1 (.ptr 1001 0 [])))))
                (OpJs.cons (OpJ.guarded (by rfl) (OpJ.loadB (bt := 36) (c := (.d (e_api_Sample a0))) (v := (.d (.int .i64 a0.fOut))) tyS3 (At.dst1 (f := (.int .i64 a0.fOut)) (by rfl) (by rfl) (At.here _) (by first | rfl | omega)) (by rfl) (by rfl) rfl (ltN hN rfl) (Opd.tmp 28 (.ptr 1001 4 [4]))))
                (OpJs.cons (OpJ.guarded (by rfl) (OpJ.callVal (args := [(.d (.int .i64 a0.fOut)), (.d (.int .i64 (1 : Int))), (.d (.int .i64 (999 : Int)))]) (caps := []) hB fnOk31 [] (sample_single_1_ac a0.fOut (1 : Int) (999 : Int) r23 hr23) (by kernel_rfl) (ltN hN rfl) (by kernel_rfl) (by kernel_rfl) (OpdL.cons (Opd.tmp 29 (.d (.int .i64 a0.fOut))) (OpdL.cons (Opd.int .i64 (1)) (OpdL.cons (Opd.int .i64 (999)) OpdL.nil)))))
                (OpJs.cons (OpJ.pickT (ltN hN rfl) (Opd.tmp 26 (.d (.bool true))) (Opd.tmp 30 (.d (.bool r23))))
                (OpJs.cons (OpJ.val (v' := .d (.bool true)) (by rw [hg24]) (OpJ.move (ltN hN rfl) (Opd.tmp 31 (.d (.bool r23)))))
                (OpJs.cons (OpJ.guarded (by rfl) (OpJ.move (ltN hN rfl) (Opd.tmp 3 (.func 31 []))))
                (OpJs.cons (OpJ.guarded (by rfl) (OpJ.val (v' := (.ptr 1001 5 [5])) (by rfl) (OpJ.fieldP Try.underlying36 (by rfl) (o := 5) (by rfl) tyS3 (by decide) (obj := (.box 36 (.d (e_api_Sample a0)))) (ltN hN rfl) (Opd.tmp 1 (.ptr 1001 0 [])))))
                (OpJs.cons (OpJ.guarded (by rfl) (OpJ.loadB (bt := 36) (c := (.d (e_api_Sample a0))) (v := (.d (.int .i64 a0.fBytes))) tyS3 (At.dst1 (f := (.int .i64 a0.fBytes)) (by rfl) (by rfl) (At.here _) (by first | rfl | omega)) (by rfl) (by rfl) rfl (ltN hN rfl) (Opd.tmp 34 (.ptr 1001 5 [5]))))
                (OpJs.cons (OpJ.guarded (by rfl) (OpJ.callVal (args := [(.d (.int .i64 a0.fBytes)), (.d (.int .i64 (0 : Int))), (.d (.int .i64 (65535 : Int)))]) (caps := []) hB fnOk31 [] (sample_single_1_ac a0.fBytes (0 : Int) (65535 : Int) r25 hr25) (by kernel_rfl) (ltN hN rfl) (by kernel_rfl) (by kernel_rfl) (OpdL.cons (Opd.tmp 35 (.d (.int .i64 a0.fBytes))) (OpdL.cons (Opd.int .i64 (0)) (OpdL.cons (Opd.int .i64 (65535)) OpdL.nil)))))
                (OpJs.cons (OpJ.pickT (ltN hN rfl) (Opd.tmp 32 (.d (.bool true))) (Opd.tmp 36 (.d (.bool r25))))
                (OpJs.cons (OpJ.assign (ltN hN rfl) (Opd.tmp 37 (.d (.bool r25))))
                (OpJs.nil)))))))))))))))))))))))))))))))))))) (by rfl) (by rfl) ?_
              exact hjj14 _ h _ _ (Mat.trans (Mat.pat [] [(2, (.d (.bool r25)))] [] hB (by rfl) (by rfl) (by rfl)) (Mat.pat [] ((fun m13 : Bool => ([(2, (.d (.bool m13)))] : EL)) r25) ((fun m13 : Bool => ([] : OL)) r25) hB (by rfl) (by rfl) (by rfl)))
            · replace h := ite_f hg24 h
              refine AWp.region (OpJs.cons (OpJ.move (ltN hN rfl) (Opd.tmp 3 (.func 31 [])))
                (OpJs.cons (OpJ.val (v' := (.ptr 1001 0 [0])) (by rfl) (OpJ.fieldP Try.underlying36 (by rfl) (o := 0) (by rfl) tyS3 (by decide) (obj := (.box 36 (.d (e_api_Sample a0)))) (ltN hN rfl) (Opd.tmp 1 (.ptr 1001 0 []))))
                (OpJs.cons (OpJ.loadB (bt := 36) (c := (.d (e_api_Sample a0))) (v := (.d (.int .i64 a0.fTick))) tyS3 (At.dst1 (f := (.int .i64 a0.fTick)) (by rfl) (by rfl) (At.here _) (by first | rfl | omega)) (by rfl) (by rfl) rfl (ltN hN rfl) (Opd.tmp 5 (.ptr 1001 0 [0])))
                (OpJs.cons (OpJ.callVal (args := [(.d (.int .i64 a0.fTick)), (.d (.int .i64 (0 : Int))), (.d (.int .i64 (1073741824 : Int)))]) (caps := []) hB fnOk31 [] (sample_single_1_ac a0.fTick (0 : Int) (1073741824 : Int) r15 hr15) (by kernel_rfl) (ltN hN rfl) (by kernel_rfl) (by kernel_rfl) (OpdL.cons (Opd.tmp 6 (.d (.int .i64 a0.fTick))) (OpdL.cons (Opd.int .i64 (0)) (OpdL.cons (Opd.int .i64 (1073741824)) OpdL.nil))))
                (OpJs.cons (OpJ.val (v' := .d (.bool true)) (by rw [hg16]) (OpJ.move (ltN hN rfl) (Opd.tmp 7 (.d (.bool r15)))))
                (OpJs.cons (OpJ.guarded (by rfl) (OpJ.move (ltN hN rfl) (Opd.tmp 3 (.func 31 []))))
                (OpJs.cons (OpJ.guarded (by rfl) (OpJ.val (v' := (.ptr 1001 1 [1])) (by rfl) (OpJ.fieldP Try.underlying36 (by rfl) (o := 1) (by rfl) tyS3 (by decide) (obj := (.box 36 (.d (e_api_Sample a0)))) (ltN hN rfl) (Opd.tmp 1 (.ptr 1001 0 [])))))
                (OpJs.cons (OpJ.guarded (by rfl) (OpJ.loadB (bt := 36) (c := (.d (e_api_Sample a0))) (v := (.d (.int .i64 a0.fSeq))) tyS3 (At.dst1 (f := (.int .i64 a0.fSeq)) (by rfl) (by rfl) (At.here _) (by first | rfl | omega)) (by rfl) (by rfl) rfl (ltN hN rfl) (Opd.tmp 10 (.ptr 1001 1 [1]))))
                (OpJs.cons (OpJ.guarded (by rfl) (OpJ.callVal (args := [(.d (.int .i64 a0.fSeq)), (.d (.int .i64 (0 : Int))), (.d (.int .i64 (1099511627776 : Int)))]) (caps := []) hB fnOk31 [] (sample_single_1_ac a0.fSeq (0 : Int) (1099511627776 : Int) r17 hr17) (by kernel_rfl) (ltN hN rfl) (by kernel_rfl) (by kernel_rfl) (OpdL.cons (Opd.tmp 11 (.d (.int .i64 a0.fSeq))) (OpdL.cons (Opd.int .i64 (0)) (OpdL.cons (Opd.int .i64 (1099511627776)) OpdL.nil)))))
                (OpJs.cons (OpJ.pickT (ltN hN rfl) (Opd.tmp 8 (.d (.bool true))) (Opd.tmp 12 (.d (.bool r17))))
                (OpJs.cons (OpJ.val (v' := .d (.bool true)) (by rw [hg18]) (OpJ.move (ltN hN rfl) (Opd.tmp 13 (.d (.bool r17)))))
                (OpJs.cons (OpJ.guarded (by rfl) (OpJ.move (ltN hN rfl) (Opd.tmp 3 (.func 31 []))))
                (OpJs.cons (OpJ.guarded (by rfl) (OpJ.val (v' := (.ptr 1001 2 [2])) (by rfl) (OpJ.fieldP Try.underlying36 (by rfl) (o := 2) (by rfl) tyS3 (by decide) (obj := (.box 36 (.d (e_api_Sample a0)))) (ltN hN rfl) (Opd.tmp 1 (.ptr 1001 0 [])))))
                (OpJs.cons (OpJ.guarded (by rfl) (OpJ.loadB (bt := 36) (c := (.d (e_api_Sample a0))) (v := (.d (.int .i64 a0.fPool))) tyS3 (At.dst1 (f := (.int .i64 a0.fPool)) (by rfl) (by rfl) (At.here _) (by first | rfl | omega)) (by rfl) (by rfl) rfl (ltN hN rfl) (Opd.tmp 16 (.ptr 1001 2 [2]))))
                (OpJs.cons (OpJ.guarded (by rfl) (OpJ.callVal (args := [(.d (.int .i64 a0.fPool)), (.d (.int .i64 (0 : Int))), (.d (.int .i64 (1099511627776 : Int)))]) (caps := []) hB fnOk31 [] (sample_single_1_ac a0.fPool (0 : Int) (1099511627776 : Int) r19 hr19) (by kernel_rfl) (ltN hN rfl) (by kernel_rfl) (by kernel_rfl) (OpdL.cons (Opd.tmp 17 (.d (.int .i64 a0.fPool))) (OpdL.cons (Opd.int .i64 (0)) (OpdL.cons (Opd.int .i64 (1099511627776)) OpdL.nil)))))
                (OpJs.cons (OpJ.pickT (ltN hN rfl) (Opd.tmp 14 (.d (.bool true))) (Opd.tmp 18 (.d (.bool r19))))
                (OpJs.cons (OpJ.val (v' := .d (.bool true)) (by rw [hg20]) (OpJ.move (ltN hN rfl) (Opd.tmp 19 (.d (.bool r19)))))
                (OpJs.cons (OpJ.guarded (by rfl) (OpJ.move (ltN hN rfl) (Opd.tmp 3 (.func 31 []))))
                (OpJs.cons (OpJ.guarded (by rfl) (OpJ.val (v' := (.ptr 1001 3 [3])) (by rfl) (OpJ.fieldP Try.underlying36 (by rfl) (o := 3) (by rfl) tyS3 (by decide) (obj := (.box 36 (.d (e_api_Sample a0)))) (ltN hN rfl) (Opd.tmp 1 (.ptr 1001 0 [])))))
                (OpJs.cons (OpJ.guarded (by rfl) (OpJ.loadB (bt := 36) (c := (.d (e_api_Sample a0))) (v := (.d (.int .i64 a0.fIn))) tyS3 (At.dst1 (f := (.int .i64 a0.fIn)) (by rfl) (by rfl) (At.here _) (by first | rfl | omega)) (by rfl) (by rfl) rfl (ltN hN rfl) (Opd.tmp 22 (.ptr 1001 3 [3]))))
                (OpJs.cons (OpJ.guarded (by rfl) (OpJ.callVal (args := [(.d (.int .i64 a0.fIn)), (.d (.int .i64 (1 : Int))), (.d (.int .i64 (999 : Int)))]) (caps := []) hB fnOk31 [] (sample_single_1_ac a0.fIn (1 : Int) (999 : Int) r21 hr21) (by kernel_rfl) (ltN hN rfl) (by kernel_rfl) (by kernel_rfl) (OpdL.cons (Opd.tmp 23 (.d (.int .i64 a0.fIn))) (OpdL.cons (Opd.int .i64 (1)) (OpdL.cons (Opd.int .i64 (999)) OpdL.nil)))))
                (OpJs.cons (OpJ.pickT (ltN hN rfl) (Opd.tmp 20 (.d (.bool true))) (Opd.tmp 24 (.d (.bool r21))))
                (OpJs.cons (OpJ.val (v' := .d (.bool true)) (by rw [hg22]) (OpJ.move (ltN hN rfl) (Opd.tmp 25 (.d (.bool r21)))))
                (OpJs.cons (OpJ.guarded (by rfl) (OpJ.move (ltN hN rfl) (Opd.tmp 3 (.func 31 []))))
                (OpJs.cons (OpJ.guarded (by rfl) (OpJ.val (v' := (.ptr 1001 4 [4])) (by rfl) (OpJ.fieldP Try.underlying36 (by rfl) (o := 4) (by rfl) tyS3 (by decide) (obj := (.box 36 (.d (e_api_Sample a0)))) (ltN hN rfl) (Opd.tmp 1 (.ptr 1001 0 [])))))
                (OpJs.cons (OpJ.guarded (by rfl) (OpJ.loadB (bt := 36) (c := (.d (e_api_Sample a0))) (v := (.d (.int .i64 a0.fOut))) tyS3 (At.dst1 (f := (.int .i64 a0.fOut)) (by rfl) (by rfl) (At.here _) (by first | rfl | omega)) (by rfl) (by rfl) rfl (ltN hN rfl) (Opd.tmp 28 (.ptr 1001 4 [4]))))
                (OpJs.cons (OpJ.guarded (by rfl) (OpJ.callVal (args := [(.d (.int .i64 a0.fOut)), (.d (.int .i64 (1 : Int))), (.d (.int .i64 (999 : Int)))]) (caps := []) hB fnOk31 [] (sample_single_1_ac a0.fOut (1 : Int) (999 : Int) r23 hr23) (by kernel_rfl) (ltN hN rfl) (by kernel_rfl) (by kernel_rfl) (OpdL.cons (Opd.tmp 29 (.d (.int .i64 a0.fOut))) (OpdL.cons (Opd.int .i64 (1)) (OpdL.cons (Opd.int .i64 (999)) OpdL.nil)))))
                (OpJs.cons (OpJ.pickT (ltN hN rfl) (Opd.tmp 26 (.d (.bool true))) (Opd.tmp 30 (.d (.bool r23))))
                (OpJs.cons (OpJ.val (v' := .d (.bool false)) (by rw [hg24]) (OpJ.move (ltN hN rfl) (Opd.tmp 31 (.d (.bool r23)))))
                (OpJs.cons (OpJ.skipU (ltN hN rfl) (by rfl))
                (OpJs.cons (OpJ.skipU (ltN hN rfl) (by rfl))
                (OpJs.cons (OpJ.skipU (ltN hN rfl) (by rfl))
                (OpJs.cons (OpJ.skipU (ltN hN rfl) (by rfl))
                (OpJs.cons (OpJ.pickF (ltN hN rfl) (Opd.tmp 32 (.d (.bool false))) (Opd.bool false))
                (OpJs.cons (OpJ.assign (ltN hN rfl) (Opd.tmp 37 (.d (.bool false))))
                (OpJs.nil)))))))))))))))))))))))))))))))))))) (by rfl) (by rfl) ?_
              exact hjj14 _ h _ _ (Mat.trans (Mat.pat [] [(2, (.d (.bool false)))] [] hB (by rfl) (by rfl) (by rfl)) (Mat.pat [] ((fun m13 : Bool => ([(2, (.d (.bool m13)))] : EL)) false) ((fun m13 : Bool => ([] : OL)) false) hB (by rfl) (by rfl) (by rfl)))
          · replace h := ite_f hg22 h
            refine AWp.region (OpJs.cons (OpJ.move (ltN hN rfl) (Opd.tmp 3 (.func 31 [])))
              (OpJs.cons (OpJ.val (v' := (.ptr 1001 0 [0])) (by rfl) (OpJ.fieldP Try.underlying36 (by rfl) (o := 0) (by rfl) tyS3 (by decide) (obj := (.box 36 (.d (e_api_Sample a0)))) (ltN hN rfl) (Opd.tmp 1 (.ptr 1001 0 []))))
              (OpJs.cons (OpJ.loadB (bt := 36) (c := (.d (e_api_Sample a0))) (v := (.d (.int .i64 a0.fTick))) tyS3 (At.dst1 (f := (.int .i64 a0.fTick)) (by rfl) (by rfl) (At.here _) (by first | rfl | omega)) (by rfl) (by rfl) rfl (ltN hN rfl) (Opd.tmp 5 (.ptr 1001 0 [0])))
              (OpJs.cons (OpJ.callVal (args := [(.d (.int .i64 a0.fTick)), (.d (.int .i64 (0 : Int))), (.d (.int .i64 (1073741824 : Int)))]) (caps := []) hB fnOk31 [] (sample_single_1_ac a0.fTick (0 : Int) (1073741824 : Int) r15 hr15) (by kernel_rfl) (ltN hN rfl) (by kernel_rfl) (by kernel_rfl) (OpdL.cons (Opd.tmp 6 (.d (.int .i64 a0.fTick))) (OpdL.cons (Opd.int .i64 (0)) (OpdL.cons (Opd.int .i64 (1073741824)) OpdL.nil))))
              (OpJs.cons (OpJ.val (v' := .d (.bool true)) (by rw [hg16]) (OpJ.move (ltN hN rfl) (Opd.tmp 7 (.d (.bool r15)))))
              (OpJs.cons (OpJ.guarded (by rfl) (OpJ.move (ltN hN rfl) (Opd.tmp 3 (.func 31 []))))
              (OpJs.cons (OpJ.guarded (by rfl) (OpJ.val (v' := (.ptr 1001 1 [1])) (by rfl) (OpJ.fieldP Try.underlying36 (by rfl) (o := 1) (by rfl) tyS3 (by decide) (obj := (.box 36 (.d (e_api_Sample a0)))) (ltN hN rfl) (Opd.tmp 1 (.ptr 1001 0 [])))))
              (OpJs.cons (OpJ.guarded (by rfl) (OpJ.loadB (bt := 36) (c := (.d (e_api_Sample a0))) (v := (.d (.int .i64 a0.fSeq))) tyS3 (At.dst1 (f := (.int .i64 a0.fSeq)) (by rfl) (by rfl) (At.here _) (by first | rfl | omega)) (by rfl) (by rfl) rfl (ltN hN rfl) (Opd.tmp 10 (.ptr 1001 1 [1]))))
              (OpJs.cons (OpJ.guarded (by rfl) (OpJ.callVal (args := [(.d (.int .i64 a0.fSeq)), (.d (.int .i64 (0 : Int))), (.d (.int .i64 (1099511627776 : Int)))]) (caps := []) hB fnOk31 [] (sample_single_1_ac a0.fSeq (0 : Int) (1099511627776 : Int) r17 hr17) (by kernel_rfl) (ltN hN rfl) (by kernel_rfl) (by kernel_rfl) (OpdL.cons (Opd.tmp 11 (.d (.int .i64 a0.fSeq))) (OpdL.cons (Opd.int .i64 (0)) (OpdL.cons (Opd.int .i64 (1099511627776)) OpdL.nil)))))
              (OpJs.cons (OpJ.pickT (ltN hN rfl) (Opd.tmp 8 (.d (.bool true))) (Opd.tmp 12 (.d (.bool r17))))
              (OpJs.cons (OpJ.val (v' := .d (.bool true)) (by rw [hg18]) (OpJ.move (ltN hN rfl) (Opd.tmp 13 (.d (.bool r17)))))
              (OpJs.cons (OpJ.guarded (by rfl) (OpJ.move (ltN hN rfl) (Opd.tmp 3 (.func 31 []))))
              (OpJs.cons (OpJ.guarded (by rfl) (OpJ.val (v' := (.ptr 1001 2 [2])) (by rfl) (OpJ.fieldP Try.underlying36 (by rfl) (o := 2) (by rfl) tyS3 (by decide) (obj := (.box 36 (.d (e_api_Sample a0)))) (ltN hN rfl) (Opd.tmp 1 (.ptr 1001 0 [])))))
              (OpJs.cons (OpJ.guarded (by rfl) (OpJ.loadB (bt := 36) (c := (.d (e_api_Sample a0))) (v := (.d (.int .i64 a0.fPool))) tyS3 (At.dst1 (f := (.int .i64 a0.fPool)) (by rfl) (by rfl) (At.here _) (by first | rfl | omega)) (by rfl) (by rfl) rfl (ltN hN rfl) (Opd.tmp 16 (.ptr 1001 2 [2]))))
              (OpJs.cons (OpJ.guarded (by rfl) (OpJ.callVal (args := [(.d (.int .i64 a0.fPool)), (.d (.int .i64 (0 : Int))), (.d (.int .i64 (1099511627776 : Int)))]) (caps := []) hB fnOk31 [] (sample_single_1_ac a0.fPool (0 : Int) (1099511627776 : Int) r19 hr19) (by kernel_rfl) (ltN hN rfl) (by kernel_rfl) (by kernel_rfl) (OpdL.cons (Opd.tmp 17 (.d (.int .i64 a0.fPool))) (OpdL.cons (Opd.int .i64 (0)) (OpdL.cons (Opd.int .i64 (1099511627776)) OpdL.nil)))))
              (OpJs.cons (OpJ.pickT (ltN hN rfl) (Opd.tmp 14 (.d (.bool true))) (Opd.tmp 18 (.d (.bool r19))))
              (OpJs.cons (OpJ.val (v' := .d (.bool true)) (by rw [hg20]) (OpJ.move (ltN hN rfl) (Opd.tmp 19 (.d (.bool r19)))))
              (OpJs.cons (OpJ.guarded (by rfl) (OpJ.move (ltN hN rfl) (Opd.tmp 3 (.func 31 []))))
              (OpJs.cons (OpJ.guarded (by rfl) (OpJ.val (v' := (.ptr 1001 3 [3])) (by rfl) (OpJ.fieldP Try.underlying36 (by rfl) (o := 3) (by rfl) tyS3 (by decide) (obj := (.box 36 (.d (e_api_Sample a0)))) (ltN hN rfl) (Opd.tmp 1 (.ptr 1001 0 [])))))
              (OpJs.cons (OpJ.guarded (by rfl) (OpJ.loadB (bt := 36) (c := (.d (e_api_Sample a0))) (v := (.d (.int .i64 a0.fIn))) tyS3 (At.dst1 (f := (.int .i64 a0.fIn)) (by rfl) (by rfl) (At.here _) (by first | rfl | omega)) (by rfl) (by rfl) rfl (ltN hN rfl) (Opd.tmp 22 (.ptr 1001 3 [3]))))
              (OpJs.cons (OpJ.guarded (by rfl) (OpJ.callVal (args := [(.d (.int .i64 a0.fIn)), (.d (.int .i64 (1 : Int))), (.d (.int .i64 (999 : Int)))]) (caps := []) hB fnOk31 [] (sample_single_1_ac a0.fIn (1 : Int) (999 : Int) r21 hr21) (by kernel_rfl) (ltN hN rfl) (by kernel_rfl) (by kernel_rfl) (OpdL.cons (Opd.tmp 23 (.d (.int .i64 a0.fIn))) (OpdL.cons (Opd.int .i64 (1)) (OpdL.cons (Opd.int .i64 (999)) OpdL.nil)))))
              (OpJs.cons (OpJ.pickT (ltN hN rfl) (Opd.tmp 20 (.d (.bool true))) (Opd.tmp 24 (.d (.bool r21))))
              (OpJs.cons (OpJ.val (v' := .d (.bool false)) (by rw [hg22]) (OpJ.move (ltN hN rfl) (Opd.tmp 25 (.d (.bool r21)))))
              (OpJs.cons (OpJ.skipU (ltN hN rfl) (by rfl))
              (OpJs.cons (OpJ.skipU (ltN hN rfl) (by rfl))
              (OpJs.cons (OpJ.skipU (ltN hN rfl) (by rfl))
              (OpJs.cons (OpJ.skipU (ltN hN rfl) (by rfl))
              (OpJs.cons (OpJ.pickF (ltN hN rfl) (Opd.tmp 26 (.d (.bool false))) (Opd.bool false))
              (OpJs.cons (OpJ.move (ltN hN rfl) (Opd.tmp 31 (.d (.bool false))))
              (OpJs.cons (OpJ.skipU (ltN hN rfl) (by rfl))
              (OpJs.cons (OpJ.skipU (ltN hN rfl) (by rfl))
              (OpJs.cons (OpJ.skipU (ltN hN rfl) (by rfl))
              (OpJs.cons (OpJ.skipU (ltN hN rfl) (by rfl))
              (OpJs.cons (OpJ.pickF (ltN hN rfl) (Opd.tmp 32 (.d (.bool false))) (Opd.bool false))
              (OpJs.cons (OpJ.assign (ltN hN rfl) (Opd.tmp 37 (.d (.bool false))))
              (OpJs.nil)))))))))))))))))))))))))))))))))))) (by rfl) (by rfl) ?_
            exact hjj14 _ h _ _ (Mat.trans (Mat.pat [] [(2, (.d (.bool false)))] [] hB (by rfl) (by rfl) (by rfl)) (Mat.pat [] ((fun m13 : Bool => ([(2, (.d (.bool m13)))] : EL)) false) ((fun m13 : Bool => ([] : OL)) false) hB (by rfl) (by rfl) (by rfl)))
        · replace h := ite_f hg20 h
          refine AWp.region (OpJs.cons (OpJ.move (ltN hN rfl) (Opd.tmp 3 (.func 31 [])))
            (OpJs.cons (OpJ.val (v' := (.ptr 1001 0 [0])) (by rfl) (OpJ.fieldP Try.underlying36 (by rfl) (o := 0) (by rfl) tyS3 (by decide) (obj := (.box 36 (.d (e_api_Sample a0)))) (ltN hN rfl) (Opd.tmp 1 (.ptr 1001 0 []))))
            (OpJs.cons (OpJ.loadB (bt := 36) (c := (.d (e_api_Sample a0))) (v := (.d (.int .i64 a0.fTick))) tyS3 (At.dst1 (f := (.int .i64 a0.fTick)) (by rfl) (by rfl) (At.here _) (by first | rfl | omega)) (by rfl) (by rfl) rfl (ltN hN rfl) (Opd.tmp 5 (.ptr 1001 0 [0])))
            (OpJs.cons (OpJ.callVal (args := [(.d (.int .i64 a0.fTick)), (.d (.int .i64 (0 : Int))), (.d (.int .i64 (1073741824 : Int)))]) (caps := []) hB fnOk31 [] (sample_single_1_ac a0.fTick (0 : Int) (1073741824 : Int) r15 hr15) (by kernel_rfl) (ltN hN rfl) (by kernel_rfl) (by kernel_rfl) (OpdL.cons (Opd.tmp 6 (.d (.int .i64 a0.fTick))) (OpdL.cons (Opd.int .i64 (0)) (OpdL.cons (Opd.int .i64 (1073741824)) OpdL.nil))))
            (OpJs.cons (OpJ.val (v' := .d (.bool true)) (by rw [hg16]) (OpJ.move (ltN hN rfl) (Opd.tmp 7 (.d (.bool r15)))))
            (OpJs.cons (OpJ.guarded (by rfl) (OpJ.move (ltN hN rfl) (Opd.tmp 3 (.func 31 []))))
            (OpJs.cons (OpJ.guarded (by rfl) (OpJ.val (v' := (.ptr 1001 1 [1])) (by rfl) (OpJ.fieldP Try.underlying36 (by rfl) (o := 1) (by rfl) tyS3 (by decide) (obj := (.box 36 (.d (e_api_Sample a0)))) (ltN hN rfl) (Opd.tmp 1 (.ptr 1001 0 [])))))
            (OpJs.cons (OpJ.guarded (by rfl) (OpJ.loadB (bt := 36) (c := (.d (e_api_Sample a0))) (v := (.d (.int .i64 a0.fSeq))) tyS3 (At.dst1 (f := (.int .i64 a0.fSeq)) (by rfl) (by rfl) (At.here _) (by first | rfl | omega)) (by rfl) (by rfl) rfl (ltN hN rfl) (Opd.tmp 10 (.ptr 1001 1 [1]))))
            (OpJs.cons (OpJ.guarded (by rfl) (OpJ.callVal (args := [(.d (.int .i64 a0.fSeq)), (.d (.int .i64 (0 : Int))), (.d (.int .i64 (1099511627776 : Int)))]) (caps := []) hB fnOk31 [] (sample_single_1_ac a0.fSeq (0 : Int) (1099511627776 : Int) r17 hr17) (by kernel_rfl) (ltN hN rfl) (by kernel_rfl) (by kernel_rfl) (OpdL.cons (Opd.tmp 11 (.d (.int .i64 a0.fSeq))) (OpdL.cons (Opd.int .i64 (0)) (OpdL.cons (Opd.int .i64 (1099511627776)) OpdL.nil)))))
            (OpJs.cons (OpJ.pickT (ltN hN rfl) (Opd.tmp 8 (.d (.bool true))) (Opd.tmp 12 (.d (.bool r17))))
            (OpJs.cons (OpJ.val (v' := .d (.bool true)) (by rw [hg18]) (OpJ.move (ltN hN rfl) (Opd.tmp 13 (.d (.bool r17)))))
            (OpJs.cons (OpJ.guarded (by rfl) (OpJ.move (ltN hN rfl) (Opd.tmp 3 (.func 31 []))))
            (OpJs.cons (OpJ.guarded (by rfl) (OpJ.val (v' := (.ptr 1001 2 [2])) (by rfl) (OpJ.fieldP Try.underlying36 (by rfl) (o := 2) (by rfl) tyS3 (by decide) (obj := (.box 36 (.d (e_api_Sample a0)))) (ltN hN rfl) (Opd.tmp 1 (.ptr 1001 0 [])))))
            (OpJs.cons (OpJ.guarded (by rfl) (OpJ.loadB (bt := 36) (c := (.d (e_api_Sample a0))) (v := (.d (.int .i64 a0.fPool))) tyS3 (At.dst1 (f := (.int .i64 a0.fPool)) (by rfl) (by rfl) (At.here _) (by first | rfl | omega)) (by rfl) (by rfl) rfl (ltN hN rfl) (Opd.tmp 16 (.ptr 1001 2 [2]))))
            (OpJs.cons (OpJ.guarded (by rfl) (OpJ.callVal (args := [(.d (.int .i64 a0.fPool)), (.d (.int .i64 (0 : Int))), (.d (.int .i64 (1099511627776 : Int)))]) (caps := []) hB fnOk31 [] (sample_single_1_ac a0.fPool (0 : Int) (1099511627776 : Int) r19 hr19) (by kernel_rfl) (ltN hN rfl) (by kernel_rfl) (by kernel_rfl) (OpdL.cons (Opd.tmp 17 (.d (.int .i64 a0.fPool))) (OpdL.cons (Opd.int .i64 (0)) (OpdL.cons (Opd.int .i64 (1099511627776)) OpdL.nil)))))
            (OpJs.cons (OpJ.pickT (ltN hN rfl) (Opd.tmp 14 (.d (.bool true))) (Opd.tmp 18 (.d (.bool r19))))
            (OpJs.cons (OpJ.val (v' := .d (.bool false)) (by rw [hg20]) (OpJ.move (ltN hN rfl) (Opd.tmp 19 (.d (.bool r19)))))
            (OpJs.cons (OpJ.skipU (ltN hN rfl) (by rfl))
            (OpJs.cons (OpJ.skipU (ltN hN rfl) (by rfl))
            (OpJs.cons (OpJ.skipU (ltN hN rfl) (by rfl))
            (OpJs.cons (OpJ.skipU (ltN hN rfl) (by rfl))
            (OpJs.cons (OpJ.pickF (ltN hN rfl) (Opd.tmp 20 (.d (.bool false))) (Opd.bool false))
            (OpJs.cons (OpJ.move (ltN hN rfl) (Opd.tmp 25 (.d (.bool false))))
            (OpJs.cons (OpJ.skipU (ltN hN rfl) (by rfl))
            (OpJs.cons (OpJ.skipU (ltN hN rfl) (by rfl))
            (OpJs.cons (OpJ.skipU (ltN hN rfl) (by rfl))
            (OpJs.cons (OpJ.skipU (ltN hN rfl) (by rfl))
            (OpJs.cons (OpJ.pickF (ltN hN rfl) (Opd.tmp 26 (.d (.bool false))) (Opd.bool false))
            (OpJs.cons (OpJ.move (ltN hN rfl) (Opd.tmp 31 (.d (.bool false))))
            (OpJs.cons (OpJ.skipU (ltN hN rfl) (by rfl))
            (OpJs.cons (OpJ.skipU (ltN hN rfl) (by rfl))
            (OpJs.cons (OpJ.skipU (ltN hN rfl) (by rfl))
            (OpJs.cons (OpJ.skipU (ltN hN rfl) (by rfl))
            (OpJs.cons (OpJ.pickF (ltN hN rfl) (Opd.tmp 32 (.d (.bool false))) (Opd.bool false))
            (OpJs.cons (OpJ.assign (ltN hN rfl) (Opd.tmp 37 (.d (.bool false))))
            (OpJs.nil)))))))))))))))))))))))))))))))))))) (by rfl) (by rfl) ?_
          exact hjj14 _ h _ _ (Mat.trans (Mat.pat [] [(2, (.d (.bool false)))] [] hB (by rfl) (by rfl) (by rfl)) (Mat.pat [] ((fun m13 : Bool => ([(2, (.d (.bool m13)))] : EL)) false) ((fun m13 : Bool => ([] : OL)) false) hB (by rfl) (by rfl) (by rfl)))
      · replace h := ite_f hg18 h
        refine AWp.region (OpJs.cons (OpJ.move (ltN hN rfl) (Opd.tmp 3 (.func 31 [])))
          (OpJs.cons (OpJ.val (v' := (.ptr 1001 0 [0])) (by rfl) (OpJ.fieldP Try.underlying36 (by rfl) (o := 0) (by rfl) tyS3 (by decide) (obj := (.box 36 (.d (e_api_Sample a0)))) (ltN hN rfl) (Opd.tmp 1 (.ptr 1001 0 []))))
          (OpJs.cons (OpJ.loadB (bt := 36) (c := (.d (e_api_Sample a0))) (v := (.d (.int .i64 a0.fTick))) tyS3 (At.dst1 (f := (.int .i64 a0.fTick)) (by rfl) (by rfl) (At.here _) (by first | rfl | omega)) (by rfl) (by rfl) rfl (ltN hN rfl) (Opd.tmp 5 (.ptr 1001 0 [0])))
          (OpJs.cons (OpJ.callVal (args := [(.d (.int .i64 a0.fTick)), (.d (.int .i64 (0 : Int))), (.d (.int .i64 (1073741824 : Int)))]) (caps := []) hB fnOk31 [] (sample_single_1_ac a0.fTick (0 : Int) (1073741824 : Int) r15 hr15) (by kernel_rfl) (ltN hN rfl) (by kernel_rfl) (by kernel_rfl) (OpdL.cons (Opd.tmp 6 (.d (.int .i64 a0.fTick))) (OpdL.cons (Opd.int .i64 (0)) (OpdL.cons (Opd.int .i64 (1073741824)) OpdL.nil))))
          (OpJs.cons (OpJ.val (v' := .d (.bool true)) (by rw [hg16]) (OpJ.move (ltN hN rfl) (Opd.tmp 7 (.d (.bool r15)))))
          (OpJs.cons (OpJ.guarded (by rfl) (OpJ.move (ltN hN rfl) (Opd.tmp 3 (.func 31 []))))
          (OpJs.cons (OpJ.guarded (by rfl) (OpJ.val (v' := (.ptr 1001 1 [1])) (by rfl) (OpJ.fieldP Try.underlying36 (by rfl) (o := 1) (by rfl) tyS3 (by decide) (obj := (.box 36 (.d (e_api_Sample a0)))) (ltN hN rfl) (Opd.tmp 1 (.ptr 1001 0 [])))))
          (OpJs.cons (OpJ.guarded (by rfl) (OpJ.loadB (bt := 36) (c := (.d (e_api_Sample a0))) (v := (.d (.int .i64 a0.fSeq))) tyS3 (At.dst1 (f := (.int .i64 a0.fSeq)) (by rfl) (by rfl) (At.here _) (by first | rfl | omega)) (by rfl) (by rfl) rfl (ltN hN rfl) (Opd.tmp 10 (.ptr 1001 1 [1]))))
          (OpJs.cons (OpJ.guarded (by rfl) (OpJ.callVal (args := [(.d (.int .i64 a0.fSeq)), (.d (.int .i64 (0 : Int))), (.d (.int .i64 (1099511627776 : Int)))]) (caps := []) hB fnOk31 [] (sample_single_1_ac a0.fSeq (0 : Int) (1099511627776 : Int) r17 hr17) (by kernel_rfl) (ltN hN rfl) (by kernel_rfl) (by kernel_rfl) (OpdL.cons (Opd.tmp 11 (.d (.int .i64 a0.fSeq))) (OpdL.cons (Opd.int .i64 (0)) (OpdL.cons (Opd.int .i64 (1099511627776)) OpdL.nil)))))
          (OpJs.cons (OpJ.pickT (ltN hN rfl) (Opd.tmp 8 (.d (.bool true))) (Opd.tmp 12 (.d (.bool r17))))
          (OpJs.cons (OpJ.val (v' := .d (.bool false)) (by rw [hg18]) (OpJ.move (ltN hN rfl) (Opd.tmp 13 (.d (.bool r17)))))
          (OpJs.cons (OpJ.skipU (ltN hN rfl) (by rfl))
          (OpJs.cons (OpJ.skipU (ltN hN rfl) (by rfl))
          (OpJs.cons (OpJ.skipU (ltN hN rfl) (by rfl))
          (OpJs.cons (OpJ.skipU (ltN hN rfl) (by rfl))
          (OpJs.cons (OpJ.pickF (ltN hN rfl) (Opd.tmp 14 (.d (.bool false))) (Opd.bool false))
          (OpJs.cons (OpJ.move (ltN hN rfl) (Opd.tmp 19 (.d (.bool false))))
          (OpJs.cons (OpJ.skipU (ltN hN rfl) (by rfl))
          (OpJs.cons (OpJ.skipU (ltN hN rfl) (by rfl))
          (OpJs.cons (OpJ.skipU (ltN hN rfl) (by rfl))
          (OpJs.cons (OpJ.skipU (ltN hN rfl) (by rfl))
          (OpJs.cons (OpJ.pickF (ltN hN rfl) (Opd.tmp 20 (.d (.bool false))) (Opd.bool false))
          (OpJs.cons (OpJ.move (ltN hN rfl) (Opd.tmp 25 (.d (.bool false))))
          (OpJs.cons (OpJ.skipU (ltN hN rfl) (by rfl))
          (OpJs.cons (OpJ.skipU (ltN hN rfl) (by rfl))
          (OpJs.cons (OpJ.skipU (ltN hN rfl) (by rfl))
          (OpJs.cons (OpJ.skipU (ltN hN rfl) (by rfl))
          (OpJs.cons (OpJ.pickF (ltN hN rfl) (Opd.tmp 26 (.d (.bool false))) (Opd.bool false))
          (OpJs.cons (OpJ.move (ltN hN rfl) (Opd.tmp 31 (.d (.bool false))))
          (OpJs.cons (OpJ.skipU (ltN hN rfl) (by rfl))
          (OpJs.cons (OpJ.skipU (ltN hN rfl) (by rfl))
          (OpJs.cons (OpJ.skipU (ltN hN rfl) (by rfl))
          (OpJs.cons (OpJ.skipU (ltN hN rfl) (by rfl))
          (OpJs.cons (OpJ.pickF (ltN hN rfl) (Opd.tmp 32 (.d (.bool false))) (Opd.bool false))
          (OpJs.cons (OpJ.assign (ltN hN rfl) (Opd.tmp 37 (.d (.bool false))))
          (OpJs.nil)))))))))))))))))))))))))))))))))))) (by rfl) (by rfl) ?_
        exact hjj14 _ h _ _ (Mat.trans (Mat.pat [] [(2, (.d (.bool false)))] [] hB (by rfl) (by rfl) (by rfl)) (Mat.pat [] ((fun m13 : Bool => ([(2, (.d (.bool m13)))] : EL)) false) ((fun m13 : Bool => ([] : OL)) false) hB (by rfl) (by rfl) (by rfl)))
    · replace h := ite_f hg16 h
      refine AWp.region (OpJs.cons (OpJ.move (ltN hN rfl) (Opd.tmp 3 (.func 31 [])))
        (OpJs.cons (OpJ.val (v' := (.ptr 1001 0 [0])) (by rfl) (OpJ.fieldP Try.underlying36 (by rfl) (o := 0) (by rfl) tyS3 (by decide) (obj := (.box 36 (.d (e_api_Sample a0)))) (ltN hN rfl) (Opd.tmp 1 (.ptr 1001 0 []))))
        (OpJs.cons (OpJ.loadB (bt := 36) (c := (.d (e_api_Sample a0))) (v := (.d (.int .i64 a0.fTick))) tyS3 (At.dst1 (f := (.int .i64 a0.fTick)) (by rfl) (by rfl) (At.here _) (by first | rfl | omega)) (by rfl) (by rfl) rfl (ltN hN rfl) (Opd.tmp 5 (.ptr 1001 0 [0])))
        (OpJs.cons (OpJ.callVal (args := [(.d (.int .i64 a0.fTick)), (.d (.int .i64 (0 : Int))), (.d (.int .i64 (1073741824 : Int)))]) (caps := []) hB fnOk31 [] (sample_single_1_ac a0.fTick (0 : Int) (1073741824 : Int) r15 hr15) (by kernel_rfl) (ltN hN rfl) (by kernel_rfl) (by kernel_rfl) (OpdL.cons (Opd.tmp 6 (.d (.int .i64 a0.fTick))) (OpdL.cons (Opd.int .i64 (0)) (OpdL.cons (Opd.int .i64 (1073741824)) OpdL.nil))))
        (OpJs.cons (OpJ.val (v' := .d (.bool false)) (by rw [hg16]) (OpJ.move (ltN hN rfl) (Opd.tmp 7 (.d (.bool r15)))))
        (OpJs.cons (OpJ.skipU (ltN hN rfl) (by rfl))
        (OpJs.cons (OpJ.skipU (ltN hN rfl) (by rfl))
        (OpJs.cons (OpJ.skipU (ltN hN rfl) (by rfl))
        (OpJs.cons (OpJ.skipU (ltN hN rfl) (by rfl))
        (OpJs.cons (OpJ.pickF (ltN hN rfl) (Opd.tmp 8 (.d (.bool false))) (Opd.bool false))
        (OpJs.cons (OpJ.move (ltN hN rfl) (Opd.tmp 13 (.d (.bool false))))
        (OpJs.cons (OpJ.skipU (ltN hN rfl) (by rfl))
        (OpJs.cons (OpJ.skipU (ltN hN rfl) (by rfl))
        (OpJs.cons (OpJ.skipU (ltN hN rfl) (by rfl))
        (OpJs.cons (OpJ.skipU (ltN hN rfl) (by rfl))
        (OpJs.cons (OpJ.pickF (ltN hN rfl) (Opd.tmp 14 (.d (.bool false))) (Opd.bool false))
        (OpJs.cons (OpJ.move (ltN hN rfl) (Opd.tmp 19 (.d (.bool false))))
        (OpJs.cons (OpJ.skipU (ltN hN rfl) (by rfl))
        (OpJs.cons (OpJ.skipU (ltN hN rfl) (by rfl))
        (OpJs.cons (OpJ.skipU (ltN hN rfl) (by rfl))
        (OpJs.cons (OpJ.skipU (ltN hN rfl) (by rfl))
        (OpJs.cons (OpJ.pickF (ltN hN rfl) (Opd.tmp 20 (.d (.bool false))) (Opd.bool false))
        (OpJs.cons (OpJ.move (ltN hN rfl) (Opd.tmp 25 (.d (.bool false))))
        (OpJs.cons (OpJ.skipU (ltN hN rfl) (by rfl))
        (OpJs.cons (OpJ.skipU (ltN hN rfl) (by rfl))
        (OpJs.cons (OpJ.skipU (ltN hN rfl) (by rfl))
        (OpJs.cons (OpJ.skipU (ltN hN rfl) (by rfl))
        (OpJs.cons (OpJ.pickF (ltN hN rfl) (Opd.tmp 26 (.d (.bool false))) (Opd.bool false))
        (OpJs.cons (OpJ.move (ltN hN rfl) (Opd.tmp 31 (.d (.bool false))))
        (OpJs.cons (OpJ.skipU (ltN hN rfl) (by rfl))
        (OpJs.cons (OpJ.skipU (ltN hN rfl) (by rfl))
        (OpJs.cons (OpJ.skipU (ltN hN rfl) (by rfl))
        (OpJs.cons (OpJ.skipU (ltN hN rfl) (by rfl))
        (OpJs.cons (OpJ.pickF (ltN hN rfl) (Opd.tmp 32 (.d (.bool false))) (Opd.bool false))
        (OpJs.cons (OpJ.assign (ltN hN rfl) (Opd.tmp 37 (.d (.bool false))))
        (OpJs.nil)))))))))))))))))))))))))))))))))))) (by rfl) (by rfl) ?_
      exact hjj14 _ h _ _ (Mat.trans (Mat.pat [] [(2, (.d (.bool false)))] [] hB (by rfl) (by rfl) (by rfl)) (Mat.pat [] ((fun m13 : Bool => ([(2, (.d (.bool m13)))] : EL)) false) ((fun m13 : Bool => ([] : OL)) false) hB (by rfl) (by rfl) (by rfl)))

noncomputable def sample_Valid_L0 (a0 : (List api_Sample)) (s2 : Int) : Option (((Unit) ⊕ (Unit)) ⊕ (Int)) :=
  (if (decide (s2 < (a0.length : Int))) = true then
  jn (fun _ : Unit =>
  some (.inr (w64 (s2 + (1 : Int))))) (fun j43 =>
  (idx a0 s2).bind fun x44 =>
  (sample_single x44).bind fun r45 =>
  (if (!r45) = true then
  some (.inl (.inl ()))
  else
  (if (s2 == (0 : Int)) = true then
  j43 ()
  else
  (idx a0 (w64 (s2 - (1 : Int)))).bind fun x48 =>
  (if (((decide (x44.fSeq ≤ x48.fSeq)) || (decide ((w64 (x44.fPool - x48.fPool)) < (w64 (x44.fSeq - x48.fSeq))))) || (decide (x44.fTick < x48.fTick))) = true then
  some (.inl (.inl ()))
  else
  j43 ()))))
  else
  some (.inl (.inr ())))
noncomputable def sample_Valid (a0 : (List api_Sample)) : Option (Bool) :=
  (if (decide ((1000 : Int) < (a0.length : Int))) = true then
  some false
  else
  (loop (sample_Valid_L0 a0) (0 : Int)).bind fun x50 => match x50 with
  | (.inl _) =>
    some false
  | (.inr _) =>
    some true)
set_option maxHeartbeats 4000000 in
set_option maxRecDepth 100000 in
theorem sample_Valid_ac (a0 : (List api_Sample)) (r : Bool) (h : sample_Valid a0 = some r) : AC Try.prog 16 [(.d (.list 6 (a0.map e_api_Sample)))] [] (.d (.bool r)) [] := by
  refine AC.of_code2 Try.func16 rfl rfl (Nat.le_of_ble_eq_true (by rfl)) fun B hB hN => ?_
  delta sample_Valid at h
  refine AWp.seq ?_
  refine AWp.region (OpJs.cons (OpJ.assign (ltN hN rfl) (Opd.bool false))
  (OpJs.nil)) (by rfl) (by rfl) ?_
  refine seqQ_n ?_
  refine AWp.ghost (Mat.pat [] [(0, (.d (.list 6 (a0.map e_api_Sample))))] [] hB (by rfl) (by rfl) (by rfl)) ?_
  refine AWp.seq ?_
  refine AWp.seq ?_
  refine AWp.region (OpJs.cons (OpJ.move (ltN hN rfl) (Opd.tmp 0 (.d (.list 6 (a0.map e_api_Sample)))))
  (OpJs.cons (OpJ.val (v' := (.d (.int .i64 (a0.length : Int)))) (by simp) (OpJ.lenD Try.underlying31 (ltN hN rfl) (Opd.tmp 6 (.d (.list 6 (a0.map e_api_Sample))))))
  (OpJs.cons (OpJ.gtr (ltN hN rfl) (Opd.tmp 7 (.d (.int .i64 (a0.length : Int)))) (Opd.int .i64 (1000)))
  (OpJs.nil)))) (by rfl) (by rfl) ?_
  refine seqQ_n ?_
  refine AWp.ghost (Mat.pat [] [(0, (.d (.list 6 (a0.map e_api_Sample)))), (8, (.d (.bool (decide ((1000 : Int) < (a0.length : Int))))))] [] hB (by rfl) (by rfl) (by rfl)) ?_
  refine AWp.cond (b := (decide ((1000 : Int) < (a0.length : Int)))) (by rfl) (fun hg1 => ?_) (fun hg1 => ?_)
  · replace h := ite_t hg1 h
    refine AWp.seq ?_
    refine AWp.region (OpJs.cons (OpJ.assign (ltN hN rfl) (Opd.bool false))
      (OpJs.nil)) (by rfl) (by rfl) ?_
    refine seqQ_n ?_
    refine AWp.ghost (Mat.pat [] [(2, (.d (.bool false)))] [] hB (by rfl) (by rfl) (by rfl)) ?_
    refine AWp.ret ?_
    refine seqQ_r ?_
    obtain rfl := Option.some.inj h
    exact ⟨.inl rfl, _, _, (Mat.pat [] [(2, (.d (.bool false)))] [] hB (by rfl) (by rfl) (by rfl)), [(.d (.bool false))], (Res.tmp (by rfl) (by rfl) Res.nil), rfl, by rfl, by rfl, by rfl⟩
  · replace h := ite_f hg1 h
    refine AWp.skip ?_
    refine seqQ_n ?_
    refine AWp.seq ?_
    refine AWp.seq ?_
    refine AWp.region (OpJs.cons (OpJ.move (ltN hN rfl) (Opd.tmp 0 (.d (.list 6 (a0.map e_api_Sample)))))
      (OpJs.cons (OpJ.val (v' := (.d (.int .i64 (a0.length : Int)))) (by simp) (OpJ.lenD Try.underlying31 (ltN hN rfl) (Opd.tmp 9 (.d (.list 6 (a0.map e_api_Sample))))))
      (OpJs.cons (OpJ.move (ltN hN rfl) (Opd.int .i64 (0)))
      (OpJs.nil)))) (by rfl) (by rfl) ?_
    refine seqQ_n ?_
    refine AWp.ghost (Mat.pat [] [(0, (.d (.list 6 (a0.map e_api_Sample)))), (9, (.d (.list 6 (a0.map e_api_Sample)))), (10, (.d (.int .i64 (a0.length : Int)))), (11, (.d (.int .i64 (0 : Int))))] [] hB (by rfl) (by rfl) (by rfl)) ?_
    refine AWp.block ?_
    obtain ⟨x50, hx51, h⟩ := bindS h
    refine AWp.ghost (Mat.pat [] ((fun s2 : Int => ([(0, (.d (.list 6 (a0.map e_api_Sample)))), (9, (.d (.list 6 (a0.map e_api_Sample)))), (10, (.d (.int .i64 (a0.length : Int)))), (11, (.d (.int .i64 s2)))] : EL)) (0 : Int)) ((fun s2 : Int => ([] : OL)) (0 : Int)) hB (by rfl) (by rfl) (by rfl)) ?_
    refine AWp.loopS (sample_Valid_L0 a0) (fun s2 : Int => ([(0, (.d (.list 6 (a0.map e_api_Sample)))), (9, (.d (.list 6 (a0.map e_api_Sample)))), (10, (.d (.int .i64 (a0.length : Int)))), (11, (.d (.int .i64 s2)))] : EL)) (fun s2 : Int => ([] : OL)) (fun (x : (Unit) ⊕ (Unit)) e E' O' => match x with | (.inl _p) => e = .ret ∧ Mat B E' O' ([(2, (.d (.bool false)))] : EL) ([] : OL) | (.inr _p) => e = .exit 0 ∧ Mat B E' O' ([] : EL) ([] : OL)) hx51 (fun s2 y h => ?_) (fun e E' O' hR => ?_)
    · unfold sample_Valid_L0 at h
      show AWp _ _ _ _ ([(0, (.d (.list 6 (a0.map e_api_Sample)))), (9, (.d (.list 6 (a0.map e_api_Sample)))), (10, (.d (.int .i64 (a0.length : Int)))), (11, (.d (.int .i64 s2)))] : EL) ([] : OL)
      refine AWp.seq ?_
      refine AWp.region (OpJs.cons (OpJ.lss (ltN hN rfl) (Opd.tmp 11 (.d (.int .i64 s2))) (Opd.tmp 10 (.d (.int .i64 (a0.length : Int)))))
        (OpJs.nil)) (by rfl) (by rfl) ?_
      refine seqQ_n ?_
      refine AWp.ghost (Mat.pat [] [(0, (.d (.list 6 (a0.map e_api_Sample)))), (9, (.d (.list 6 (a0.map e_api_Sample)))), (10, (.d (.int .i64 (a0.length : Int)))), (11, (.d (.int .i64 s2))), (12, (.d (.bool (decide (s2 < (a0.length : Int))))))] [] hB (by rfl) (by rfl) (by rfl)) ?_
      refine AWp.seq ?_
      refine AWp.cond (b := (decide (s2 < (a0.length : Int)))) (by rfl) (fun hg35 => ?_) (fun hg35 => ?_)
      · replace h := ite_t hg35 h
        refine AWp.skip ?_
        refine seqQ_n ?_
        refine AWp.seq ?_
        refine AWp.cut h (fun _ : Unit => ([(0, (.d (.list 6 (a0.map e_api_Sample)))), (9, (.d (.list 6 (a0.map e_api_Sample)))), (10, (.d (.int .i64 (a0.length : Int)))), (11, (.d (.int .i64 s2)))] : EL)) (fun _ : Unit => ([] : OL)) (fun _m h E' O' hmat => ?_) (fun j43 hjj43 h => ?_)
        · refine seqQ_n ?_
          refine AWp.ghost hmat ?_
          refine AWp.region (OpJs.cons (OpJ.add (ltN hN rfl) (Opd.tmp 11 (.d (.int .i64 s2))) (Opd.int .i64 (1)))
            (OpJs.cons (OpJ.move (ltN hN rfl) (Opd.tmp 51 (.d (.int .i64 (w64 (s2 + (1 : Int)))))))
            (OpJs.nil))) (by rfl) (by rfl) ?_
          obtain rfl := Option.some.inj h
          exact ⟨rfl, (Mat.trans (Mat.pat [] [(0, (.d (.list 6 (a0.map e_api_Sample)))), (9, (.d (.list 6 (a0.map e_api_Sample)))), (10, (.d (.int .i64 (a0.length : Int)))), (11, (.d (.int .i64 (w64 (s2 + (1 : Int))))))] [] hB (by rfl) (by rfl) (by rfl)) (Mat.pat [] ((fun s2 : Int => ([(0, (.d (.list 6 (a0.map e_api_Sample)))), (9, (.d (.list 6 (a0.map e_api_Sample)))), (10, (.d (.int .i64 (a0.length : Int)))), (11, (.d (.int .i64 s2)))] : EL)) (w64 (s2 + (1 : Int)))) ((fun s2 : Int => ([] : OL)) (w64 (s2 + (1 : Int)))) hB (by rfl) (by rfl) (by rfl)))⟩
        · refine AWp.block ?_
          refine AWp.seq ?_
          obtain ⟨x44, hx44, h⟩ := bindS h
          refine AWp.region (OpJs.cons (OpJ.move (ltN hN rfl) (Opd.tmp 11 (.d (.int .i64 s2))))
            (OpJs.cons (OpJ.indexD (el := (e_api_Sample x44)) Try.underlying31 tyS36 (idx_some hx44).1 (get_map e_api_Sample (idx_some hx44).2) (ltN hN rfl) (Opd.tmp 9 (.d (.list 6 (a0.map e_api_Sample)))) (Opd.tmp 11 (.d (.int .i64 s2))))
            (OpJs.cons (OpJ.loadD tyS36 (by rfl) (by rfl) (ltN hN rfl) (Opd.tmp 14 (.dptr (e_api_Sample x44))))
            (OpJs.cons (OpJ.alloc hB tyZ36 (nm := 1004) (by decide) (ltN hN rfl))
            (OpJs.cons (OpJ.assign (ltN hN rfl) (Opd.tmp 13 (.d (.int .i64 s2))))
            (OpJs.cons (OpJ.storeB (bt := 36) (c := (.d (.st [(.int .i64 (0 : Int)), (.int .i64 (0 : Int)), (.int .i64 (0 : Int)), (.int .i64 (0 : Int)), (.int .i64 (0 : Int)), (.int .i64 (0 : Int))]))) (v := (.d (e_api_Sample x44))) (c' := (.d (e_api_Sample x44))) tyS36 (SetAt.here _ _) (by rfl) (by rfl) (by simp) rfl (Opd.tmp 4 (.ptr 1004 0 [])) (Opd.tmp 15 (.d (e_api_Sample x44))))
            (OpJs.nil))))))) (by rfl) (by rfl) ?_
          refine seqQ_n ?_
          refine AWp.ghost (Mat.pat [] [(0, (.d (.list 6 (a0.map e_api_Sample)))), (3, (.d (.int .i64 s2))), (4, (.ptr 1004 0 [])), (9, (.d (.list 6 (a0.map e_api_Sample)))), (10, (.d (.int .i64 (a0.length : Int)))), (11, (.d (.int .i64 s2)))] [(1004, some (.box 36 (.d (e_api_Sample x44))))] hB (by rfl) (by rfl) (by rfl)) ?_
          refine AWp.seq ?_
          refine AWp.seq ?_
          obtain ⟨r45, hr45, h⟩ := bindS h
          refine AWp.region (OpJs.cons (OpJ.loadB (bt := 36) (c := (.d (e_api_Sample x44))) (v := (.d (e_api_Sample x44))) tyS36 (At.here _) (by rfl) (by rfl) rfl (ltN hN rfl) (Opd.tmp 4 (.ptr 1004 0 [])))
            (OpJs.cons (OpJ.callFn hB fnOk27 (sample_single_ac x44 r45 hr45) [] (by kernel_rfl) (ltN hN rfl) (by kernel_rfl) (OpdL.cons (Opd.tmp 16 (.d (e_api_Sample x44))) OpdL.nil))
            (OpJs.cons (OpJ.not (ltN hN rfl) (Opd.tmp 17 (.d (.bool r45))))
            (OpJs.nil)))) (by rfl) (by rfl) ?_
          refine seqQ_n ?_
          refine AWp.ghost (Mat.pat [] [(0, (.d (.list 6 (a0.map e_api_Sample)))), (3, (.d (.int .i64 s2))), (4, (.ptr 1004 0 [])), (9, (.d (.list 6 (a0.map e_api_Sample)))), (10, (.d (.int .i64 (a0.length : Int)))), (11, (.d (.int .i64 s2))), (18, (.d (.bool (!r45))))] [(1004, some (.box 36 (.d (e_api_Sample x44))))] hB (by rfl) (by rfl) (by rfl)) ?_
          refine AWp.cond (b := (!r45)) (by rfl) (fun hg46 => ?_) (fun hg46 => ?_)
          · replace h := ite_t hg46 h
            refine AWp.seq ?_
            refine AWp.region (OpJs.cons (OpJ.assign (ltN hN rfl) (Opd.bool false))
              (OpJs.nil)) (by rfl) (by rfl) ?_
            refine seqQ_n ?_
            refine AWp.ghost (Mat.pat [] [(2, (.d (.bool false)))] [] hB (by rfl) (by rfl) (by rfl)) ?_
            refine AWp.ret ?_
            refine seqQ_r ?_
            refine blkQ_r ?_
            refine seqQ_r ?_
            obtain rfl := Option.some.inj h
            exact ⟨(fun hc => by cases hc), rfl, (Mat.pat [] ((fun _ : Unit => ([(2, (.d (.bool false)))] : EL)) ()) ((fun _ : Unit => ([] : OL)) ()) hB (by rfl) (by rfl) (by rfl))⟩
          · replace h := ite_f hg46 h
            refine AWp.skip ?_
            refine seqQ_n ?_
            refine AWp.seq ?_
            refine AWp.seq ?_
            refine AWp.region (OpJs.cons (OpJ.move (ltN hN rfl) (Opd.tmp 3 (.d (.int .i64 s2))))
              (OpJs.cons (OpJ.eqlI (ltN hN rfl) (Opd.tmp 19 (.d (.int .i64 s2))) (Opd.int .i64 (0)))
              (OpJs.nil))) (by rfl) (by rfl) ?_
            refine seqQ_n ?_
            refine AWp.ghost (Mat.pat [] [(0, (.d (.list 6 (a0.map e_api_Sample)))), (3, (.d (.int .i64 s2))), (4, (.ptr 1004 0 [])), (9, (.d (.list 6 (a0.map e_api_Sample)))), (10, (.d (.int .i64 (a0.length : Int)))), (11, (.d (.int .i64 s2))), (20, (.d (.bool (s2 == (0 : Int)))))] [(1004, some (.box 36 (.d (e_api_Sample x44))))] hB (by rfl) (by rfl) (by rfl)) ?_
            refine AWp.cond (b := (s2 == (0 : Int))) (by rfl) (fun hg47 => ?_) (fun hg47 => ?_)
            · replace h := ite_t hg47 h
              refine AWp.exit ?_
              refine seqQ_e ?_
              refine blkQ_hit ?_
              exact hjj43 _ h _ _ (Mat.pat [] ((fun _ : Unit => ([(0, (.d (.list 6 (a0.map e_api_Sample)))), (9, (.d (.list 6 (a0.map e_api_Sample)))), (10, (.d (.int .i64 (a0.length : Int)))), (11, (.d (.int .i64 s2)))] : EL)) ()) ((fun _ : Unit => ([] : OL)) ()) hB (by rfl) (by rfl) (by rfl))
            · replace h := ite_f hg47 h
              refine AWp.skip ?_
              refine seqQ_n ?_
              refine AWp.seq ?_
              obtain ⟨x48, hx48, h⟩ := bindS h
              refine AWp.region (OpJs.cons (OpJ.move (ltN hN rfl) (Opd.tmp 0 (.d (.list 6 (a0.map e_api_Sample)))))
                (OpJs.cons (OpJ.move (ltN hN rfl) (Opd.tmp 3 (.d (.int .i64 s2))))
                (OpJs.cons (OpJ.sub (ltN hN rfl) (Opd.tmp 22 (.d (.int .i64 s2))) (Opd.int .i64 (1)))
                (OpJs.cons (OpJ.indexD (el := (e_api_Sample x48)) Try.underlying31 tyS36 (idx_some hx48).1 (get_map e_api_Sample (idx_some hx48).2) (ltN hN rfl) (Opd.tmp 21 (.d (.list 6 (a0.map e_api_Sample)))) (Opd.tmp 23 (.d (.int .i64 (w64 (s2 - (1 : Int)))))))
                (OpJs.cons (OpJ.loadD tyS36 (by rfl) (by rfl) (ltN hN rfl) (Opd.tmp 24 (.dptr (e_api_Sample x48))))
                (OpJs.cons (OpJ.alloc hB tyZ36 (nm := 1005) (by decide) (ltN hN rfl))
                (OpJs.cons (OpJ.storeB (bt := 36) (c := (.d (.st [(.int .i64 (0 : Int)), (.int .i64 (0 : Int)), (.int .i64 (0 : Int)), (.int .i64 (0 : Int)), (.int .i64 (0 : Int)), (.int .i64 (0 : Int))]))) (v := (.d (e_api_Sample x48))) (c' := (.d (e_api_Sample x48))) tyS36 (SetAt.here _ _) (by rfl) (by rfl) (by simp) rfl (Opd.tmp 5 (.ptr 1005 0 [])) (Opd.tmp 25 (.d (e_api_Sample x48))))
                (OpJs.nil)))))))) (by rfl) (by rfl) ?_
              refine seqQ_n ?_
              refine AWp.ghost (Mat.pat [] [(0, (.d (.list 6 (a0.map e_api_Sample)))), (4, (.ptr 1004 0 [])), (5, (.ptr 1005 0 [])), (9, (.d (.list 6 (a0.map e_api_Sample)))), (10, (.d (.int .i64 (a0.length : Int)))), (11, (.d (.int .i64 s2)))] [(1004, some (.box 36 (.d (e_api_Sample x44)))), (1005, some (.box 36 (.d (e_api_Sample x48))))] hB (by rfl) (by rfl) (by rfl)) ?_
              refine AWp.seq ?_
              refine AWp.region (OpJs.cons (OpJ.val (v' := (.ptr 1004 1 [1])) (by rfl) (OpJ.fieldP Try.underlying36 (by rfl) (o := 1) (by rfl) tyS3 (by decide) (obj := (.box 36 (.d (e_api_Sample x44)))) (ltN hN rfl) (Opd.tmp 4 (.ptr 1004 0 []))))
                (OpJs.cons (OpJ.loadB (bt := 36) (c := (.d (e_api_Sample x44))) (v := (.d (.int .i64 x44.fSeq))) tyS3 (At.dst1 (f := (.int .i64 x44.fSeq)) (by rfl) (by rfl) (At.here _) (by first | rfl | omega)) (by rfl) (by rfl) rfl (ltN hN rfl) (Opd.tmp 26 (.ptr 1004 1 [1])))
                (OpJs.cons (OpJ.val (v' := (.ptr 1005 1 [1])) (by rfl) (OpJ.fieldP Try.underlying36 (by rfl) (o := 1) (by rfl) tyS3 (by decide) (obj := (.box 36 (.d (e_api_Sample x48)))) (ltN hN rfl) (Opd.tmp 5 (.ptr 1005 0 []))))
                (OpJs.cons (OpJ.loadB (bt := 36) (c := (.d (e_api_Sample x48))) (v := (.d (.int .i64 x48.fSeq))) tyS3 (At.dst1 (f := (.int .i64 x48.fSeq)) (by rfl) (by rfl) (At.here _) (by first | rfl | omega)) (by rfl) (by rfl) rfl (ltN hN rfl) (Opd.tmp 28 (.ptr 1005 1 [1])))
                (OpJs.cons (OpJ.leq (ltN hN rfl) (Opd.tmp 27 (.d (.int .i64 x44.fSeq))) (Opd.tmp 29 (.d (.int .i64 x48.fSeq))))
                (OpJs.cons (OpJ.move (ltN hN rfl) (Opd.tmp 30 (.d (.bool (decide (x44.fSeq ≤ x48.fSeq))))))
                (OpJs.cons (OpJ.opt' (v := (.ptr 1004 2 [2])) (OpJ.val (v' := (.ptr 1004 2 [2])) (by rfl) (OpJ.fieldP Try.underlying36 (by rfl) (o := 2) (by rfl) tyS3 (by decide) (obj := (.box 36 (.d (e_api_Sample x44)))) (ltN hN rfl) (Opd.tmp 4 (.ptr 1004 0 [])))) (by rfl) (GuardV.plain _) (ltN hN rfl) (by rfl) (by rfl) (by rfl) (by rfl) (OptL.keep rfl OptL.nil))
                (OpJs.cons (OpJ.opt' (v := (.d (.int .i64 x44.fPool))) (OpJ.loadB (bt := 36) (c := (.d (e_api_Sample x44))) (v := (.d (.int .i64 x44.fPool))) tyS3 (At.dst1 (f := (.int .i64 x44.fPool)) (by rfl) (by rfl) (At.here _) (by first | rfl | omega)) (by rfl) (by rfl) rfl (ltN hN rfl) (Opd.tmp 32 (.ptr 1004 2 [2]))) (by rfl) (GuardV.plain _) (ltN hN rfl) (by rfl) (by rfl) (by rfl) (by rfl) (OptL.opt OptL.nil))
                (OpJs.cons (OpJ.opt' (v := (.ptr 1005 2 [2])) (OpJ.val (v' := (.ptr 1005 2 [2])) (by rfl) (OpJ.fieldP Try.underlying36 (by rfl) (o := 2) (by rfl) tyS3 (by decide) (obj := (.box 36 (.d (e_api_Sample x48)))) (ltN hN rfl) (Opd.tmp 5 (.ptr 1005 0 [])))) (by rfl) (GuardV.plain _) (ltN hN rfl) (by rfl) (by rfl) (by rfl) (by rfl) (OptL.keep rfl OptL.nil))
                (OpJs.cons (OpJ.opt' (v := (.d (.int .i64 x48.fPool))) (OpJ.loadB (bt := 36) (c := (.d (e_api_Sample x48))) (v := (.d (.int .i64 x48.fPool))) tyS3 (At.dst1 (f := (.int .i64 x48.fPool)) (by rfl) (by rfl) (At.here _) (by first | rfl | omega)) (by rfl) (by rfl) rfl (ltN hN rfl) (Opd.tmp 34 (.ptr 1005 2 [2]))) (by rfl) (GuardV.plain _) (ltN hN rfl) (by rfl) (by rfl) (by rfl) (by rfl) (OptL.opt OptL.nil))
                (OpJs.cons (OpJ.opt' (v := (.d (.int .i64 (w64 (x44.fPool - x48.fPool))))) (OpJ.sub (ltN hN rfl) (Opd.tmp 33 (.d (.int .i64 x44.fPool))) (Opd.tmp 35 (.d (.int .i64 x48.fPool)))) (by rfl) (GuardV.plain _) (ltN hN rfl) (by rfl) (by rfl) (by rfl) (by rfl) (OptL.opt (OptL.opt OptL.nil)))
                (OpJs.cons (OpJ.opt' (v := (.ptr 1004 1 [1])) (OpJ.val (v' := (.ptr 1004 1 [1])) (by rfl) (OpJ.fieldP Try.underlying36 (by rfl) (o := 1) (by rfl) tyS3 (by decide) (obj := (.box 36 (.d (e_api_Sample x44)))) (ltN hN rfl) (Opd.tmp 4 (.ptr 1004 0 [])))) (by rfl) (GuardV.plain _) (ltN hN rfl) (by rfl) (by rfl) (by rfl) (by rfl) (OptL.keep rfl OptL.nil))
                (OpJs.cons (OpJ.opt' (v := (.d (.int .i64 x44.fSeq))) (OpJ.loadB (bt := 36) (c := (.d (e_api_Sample x44))) (v := (.d (.int .i64 x44.fSeq))) tyS3 (At.dst1 (f := (.int .i64 x44.fSeq)) (by rfl) (by rfl) (At.here _) (by first | rfl | omega)) (by rfl) (by rfl) rfl (ltN hN rfl) (Opd.tmp 37 (.ptr 1004 1 [1]))) (by rfl) (GuardV.plain _) (ltN hN rfl) (by rfl) (by rfl) (by rfl) (by rfl) (OptL.opt OptL.nil))
                (OpJs.cons (OpJ.opt' (v := (.ptr 1005 1 [1])) (OpJ.val (v' := (.ptr 1005 1 [1])) (by rfl) (OpJ.fieldP Try.underlying36 (by rfl) (o := 1) (by rfl) tyS3 (by decide) (obj := (.box 36 (.d (e_api_Sample x48)))) (ltN hN rfl) (Opd.tmp 5 (.ptr 1005 0 [])))) (by rfl) (GuardV.plain _) (ltN hN rfl) (by rfl) (by rfl) (by rfl) (by rfl) (OptL.keep rfl OptL.nil))
                (OpJs.cons (OpJ.opt' (v := (.d (.int .i64 x48.fSeq))) (OpJ.loadB (bt := 36) (c := (.d (e_api_Sample x48))) (v := (.d (.int .i64 x48.fSeq))) tyS3 (At.dst1 (f := (.int .i64 x48.fSeq)) (by rfl) (by rfl) (At.here _) (by first | rfl | omega)) (by rfl) (by rfl) rfl (ltN hN rfl) (Opd.tmp 39 (.ptr 1005 1 [1]))) (by rfl) (GuardV.plain _) (ltN hN rfl) (by rfl) (by rfl) (by rfl) (by rfl) (OptL.opt OptL.nil))
                (OpJs.cons (OpJ.opt' (v := (.d (.int .i64 (w64 (x44.fSeq - x48.fSeq))))) (OpJ.sub (ltN hN rfl) (Opd.tmp 38 (.d (.int .i64 x44.fSeq))) (Opd.tmp 40 (.d (.int .i64 x48.fSeq)))) (by rfl) (GuardV.plain _) (ltN hN rfl) (by rfl) (by rfl) (by rfl) (by rfl) (OptL.opt (OptL.opt OptL.nil)))
                (OpJs.cons (OpJ.opt' (v := (.d (.bool (decide ((w64 (x44.fPool - x48.fPool)) < (w64 (x44.fSeq - x48.fSeq))))))) (OpJ.lss (ltN hN rfl) (Opd.tmp 36 (.d (.int .i64 (w64 (x44.fPool - x48.fPool))))) (Opd.tmp 41 (.d (.int .i64 (w64 (x44.fSeq - x48.fSeq)))))) (by rfl) (GuardV.plain _) (ltN hN rfl) (by rfl) (by rfl) (by rfl) (by rfl) (OptL.opt (OptL.opt OptL.nil)))
                (OpJs.cons (OpJ.pickOr rfl (ltN hN rfl) (Opd.tmp 31 (.d (.bool (decide (x44.fSeq ≤ x48.fSeq))))) (Opd.tmp 42 (.opt ((decide (x44.fSeq ≤ x48.fSeq)) == false) (.d (.bool (decide ((w64 (x44.fPool - x48.fPool)) < (w64 (x44.fSeq - x48.fSeq)))))))))
                (OpJs.cons (OpJ.move (ltN hN rfl) (Opd.tmp 43 (.d (.bool ((decide (x44.fSeq ≤ x48.fSeq)) || (decide ((w64 (x44.fPool - x48.fPool)) < (w64 (x44.fSeq - x48.fSeq)))))))))
                (OpJs.cons (OpJ.opt' (v := (.ptr 1004 0 [0])) (OpJ.val (v' := (.ptr 1004 0 [0])) (by rfl) (OpJ.fieldP Try.underlying36 (by rfl) (o := 0) (by rfl) tyS3 (by decide) (obj := (.box 36 (.d (e_api_Sample x44)))) (ltN hN rfl) (Opd.tmp 4 (.ptr 1004 0 [])))) (by rfl) (GuardV.plain _) (ltN hN rfl) (by rfl) (by rfl) (by rfl) (by rfl) (OptL.keep rfl OptL.nil))
                (OpJs.cons (OpJ.opt' (v := (.d (.int .i64 x44.fTick))) (OpJ.loadB (bt := 36) (c := (.d (e_api_Sample x44))) (v := (.d (.int .i64 x44.fTick))) tyS3 (At.dst1 (f := (.int .i64 x44.fTick)) (by rfl) (by rfl) (At.here _) (by first | rfl | omega)) (by rfl) (by rfl) rfl (ltN hN rfl) (Opd.tmp 45 (.ptr 1004 0 [0]))) (by rfl) (GuardV.plain _) (ltN hN rfl) (by rfl) (by rfl) (by rfl) (by rfl) (OptL.opt OptL.nil))
                (OpJs.cons (OpJ.opt' (v := (.ptr 1005 0 [0])) (OpJ.val (v' := (.ptr 1005 0 [0])) (by rfl) (OpJ.fieldP Try.underlying36 (by rfl) (o := 0) (by rfl) tyS3 (by decide) (obj := (.box 36 (.d (e_api_Sample x48)))) (ltN hN rfl) (Opd.tmp 5 (.ptr 1005 0 [])))) (by rfl) (GuardV.plain _) (ltN hN rfl) (by rfl) (by rfl) (by rfl) (by rfl) (OptL.keep rfl OptL.nil))
                (OpJs.cons (OpJ.opt' (v := (.d (.int .i64 x48.fTick))) (OpJ.loadB (bt := 36) (c := (.d (e_api_Sample x48))) (v := (.d (.int .i64 x48.fTick))) tyS3 (At.dst1 (f := (.int .i64 x48.fTick)) (by rfl) (by rfl) (At.here _) (by first | rfl | omega)) (by rfl) (by rfl) rfl (ltN hN rfl) (Opd.tmp 47 (.ptr 1005 0 [0]))) (by rfl) (GuardV.plain _) (ltN hN rfl) (by rfl) (by rfl) (by rfl) (by rfl) (OptL.opt OptL.nil))
                (OpJs.cons (OpJ.opt' (v := (.d (.bool (decide (x44.fTick < x48.fTick))))) (OpJ.lss (ltN hN rfl) (Opd.tmp 46 (.d (.int .i64 x44.fTick))) (Opd.tmp 48 (.d (.int .i64 x48.fTick)))) (by rfl) (GuardV.plain _) (ltN hN rfl) (by rfl) (by rfl) (by rfl) (by rfl) (OptL.opt (OptL.opt OptL.nil)))
                (OpJs.cons (OpJ.pickOr rfl (ltN hN rfl) (Opd.tmp 44 (.d (.bool ((decide (x44.fSeq ≤ x48.fSeq)) || (decide ((w64 (x44.fPool - x48.fPool)) < (w64 (x44.fSeq - x48.fSeq)))))))) (Opd.tmp 49 (.opt (((decide (x44.fSeq ≤ x48.fSeq)) || (decide ((w64 (x44.fPool - x48.fPool)) < (w64 (x44.fSeq - x48.fSeq))))) == false) (.d (.bool (decide (x44.fTick < x48.fTick)))))))
                (OpJs.nil)))))))))))))))))))))))))) (by rfl) (by rfl) ?_
              refine seqQ_n ?_
              refine AWp.ghost (Mat.pat [] [(0, (.d (.list 6 (a0.map e_api_Sample)))), (9, (.d (.list 6 (a0.map e_api_Sample)))), (10, (.d (.int .i64 (a0.length : Int)))), (11, (.d (.int .i64 s2))), (50, (.d (.bool (((decide (x44.fSeq ≤ x48.fSeq)) || (decide ((w64 (x44.fPool - x48.fPool)) < (w64 (x44.fSeq - x48.fSeq))))) || (decide (x44.fTick < x48.fTick))))))] [] hB (by rfl) (by rfl) (by rfl)) ?_
              refine AWp.cond (b := (((decide (x44.fSeq ≤ x48.fSeq)) || (decide ((w64 (x44.fPool - x48.fPool)) < (w64 (x44.fSeq - x48.fSeq))))) || (decide (x44.fTick < x48.fTick)))) (by rfl) (fun hg49 => ?_) (fun hg49 => ?_)
              · replace h := ite_t hg49 h
                refine AWp.seq ?_
                refine AWp.region (OpJs.cons (OpJ.assign (ltN hN rfl) (Opd.bool false))
                  (OpJs.nil)) (by rfl) (by rfl) ?_
                refine seqQ_n ?_
                refine AWp.ghost (Mat.pat [] [(2, (.d (.bool false)))] [] hB (by rfl) (by rfl) (by rfl)) ?_
                refine AWp.ret ?_
                refine blkQ_r ?_
                refine seqQ_r ?_
                obtain rfl := Option.some.inj h
                exact ⟨(fun hc => by cases hc), rfl, (Mat.pat [] ((fun _ : Unit => ([(2, (.d (.bool false)))] : EL)) ()) ((fun _ : Unit => ([] : OL)) ()) hB (by rfl) (by rfl) (by rfl))⟩
              · replace h := ite_f hg49 h
                refine AWp.skip ?_
                refine blkQ_n ?_
                exact hjj43 _ h _ _ (Mat.pat [] ((fun _ : Unit => ([(0, (.d (.list 6 (a0.map e_api_Sample)))), (9, (.d (.list 6 (a0.map e_api_Sample)))), (10, (.d (.int .i64 (a0.length : Int)))), (11, (.d (.int .i64 s2)))] : EL)) ()) ((fun _ : Unit => ([] : OL)) ()) hB (by rfl) (by rfl) (by rfl))
      · replace h := ite_f hg35 h
        refine AWp.exit ?_
        refine seqQ_e ?_
        obtain rfl := Option.some.inj h
        exact ⟨(fun hc => by cases hc), rfl, (Mat.pat [] ((fun _ : Unit => ([] : EL)) ()) ((fun _ : Unit => ([] : OL)) ()) hB (by rfl) (by rfl) (by rfl))⟩
    · rcases x50 with _ | _
      · obtain ⟨rfl, hmat⟩ := hR
        refine blkQ_r ?_
        refine seqQ_r ?_
        obtain rfl := Option.some.inj h
        exact ⟨.inl rfl, _, _, (Mat.trans hmat (Mat.pat [] [(2, (.d (.bool false)))] [] hB (by rfl) (by rfl) (by rfl))), [(.d (.bool false))], (Res.tmp (by rfl) (by rfl) Res.nil), rfl, by rfl, by rfl, by rfl⟩
      · obtain ⟨rfl, hmat⟩ := hR
        refine blkQ_hit ?_
        refine seqQ_n ?_
        refine AWp.ghost hmat ?_
        refine AWp.seq ?_
        refine AWp.region (OpJs.cons (OpJ.assign (ltN hN rfl) (Opd.bool true))
          (OpJs.nil)) (by rfl) (by rfl) ?_
        refine seqQ_n ?_
        refine AWp.ghost (Mat.pat [] [(2, (.d (.bool true)))] [] hB (by rfl) (by rfl) (by rfl)) ?_
        refine AWp.ret ?_
        obtain rfl := Option.some.inj h
        exact ⟨.inl rfl, _, _, (Mat.pat [] [(2, (.d (.bool true)))] [] hB (by rfl) (by rfl) (by rfl)), [(.d (.bool true))], (Res.tmp (by rfl) (by rfl) Res.nil), rfl, by rfl, by rfl, by rfl⟩

noncomputable def sample_Lost (a0 : (List api_Sample)) : Option (Int) :=
  (if ((a0.length : Int) == (0 : Int)) = true then
  some (0 : Int)
  else
  (idx a0 (w64 ((a0.length : Int) - (1 : Int)))).bind fun x2 =>
  (idx a0 (0 : Int)).bind fun x3 =>
  some (w64 ((w64 ((w64 (x2.fSeq - x3.fSeq)) + (1 : Int))) - (a0.length : Int))))
set_option maxHeartbeats 4000000 in
set_option maxRecDepth 100000 in
theorem sample_Lost_ac (a0 : (List api_Sample)) (r : Int) (h : sample_Lost a0 = some r) : AC Try.prog 20 [(.d (.list 6 (a0.map e_api_Sample)))] [] (.d (.int .i64 r)) [] := by
  refine AC.of_code2 Try.func20 rfl rfl (Nat.le_of_ble_eq_true (by rfl)) fun B hB hN => ?_
  delta sample_Lost at h
  refine AWp.seq ?_
  refine AWp.region (OpJs.cons (OpJ.assign (ltN hN rfl) (Opd.int .i64 (0)))
  (OpJs.nil)) (by rfl) (by rfl) ?_
  refine seqQ_n ?_
  refine AWp.ghost (Mat.pat [] [(0, (.d (.list 6 (a0.map e_api_Sample))))] [] hB (by rfl) (by rfl) (by rfl)) ?_
  refine AWp.seq ?_
  refine AWp.seq ?_
  refine AWp.region (OpJs.cons (OpJ.move (ltN hN rfl) (Opd.tmp 0 (.d (.list 6 (a0.map e_api_Sample)))))
  (OpJs.cons (OpJ.val (v' := (.d (.int .i64 (a0.length : Int)))) (by simp) (OpJ.lenD Try.underlying31 (ltN hN rfl) (Opd.tmp 3 (.d (.list 6 (a0.map e_api_Sample))))))
  (OpJs.cons (OpJ.eqlI (ltN hN rfl) (Opd.tmp 4 (.d (.int .i64 (a0.length : Int)))) (Opd.int .i64 (0)))
  (OpJs.nil)))) (by rfl) (by rfl) ?_
  refine seqQ_n ?_
  refine AWp.ghost (Mat.pat [] [(0, (.d (.list 6 (a0.map e_api_Sample)))), (5, (.d (.bool ((a0.length : Int) == (0 : Int)))))] [] hB (by rfl) (by rfl) (by rfl)) ?_
  refine AWp.cond (b := ((a0.length : Int) == (0 : Int))) (by rfl) (fun hg1 => ?_) (fun hg1 => ?_)
  · replace h := ite_t hg1 h
    refine AWp.seq ?_
    refine AWp.region (OpJs.cons (OpJ.assign (ltN hN rfl) (Opd.int .i64 (0)))
      (OpJs.nil)) (by rfl) (by rfl) ?_
    refine seqQ_n ?_
    refine AWp.ghost (Mat.pat [] [(2, (.d (.int .i64 (0 : Int))))] [] hB (by rfl) (by rfl) (by rfl)) ?_
    refine AWp.ret ?_
    refine seqQ_r ?_
    obtain rfl := Option.some.inj h
    exact ⟨.inl rfl, _, _, (Mat.pat [] [(2, (.d (.int .i64 (0 : Int))))] [] hB (by rfl) (by rfl) (by rfl)), [(.d (.int .i64 (0 : Int)))], (Res.tmp (by rfl) (by rfl) Res.nil), rfl, by rfl, by rfl, by rfl⟩
  · replace h := ite_f hg1 h
    refine AWp.skip ?_
    refine seqQ_n ?_
    refine AWp.seq ?_
    obtain ⟨x2, hx2, h⟩ := bindS h
    obtain ⟨x3, hx3, h⟩ := bindS h
    refine AWp.draws (by kernel_rfl) (OpJs.cons (OpJ.move (ltN hN rfl) (Opd.tmp 0 (.d (.list 6 (a0.map e_api_Sample)))))
      (OpJs.cons (OpJ.move (ltN hN rfl) (Opd.tmp 0 (.d (.list 6 (a0.map e_api_Sample)))))
      (OpJs.cons (OpJ.val (v' := (.d (.int .i64 (a0.length : Int)))) (by simp) (OpJ.lenD Try.underlying31 (ltN hN rfl) (Opd.tmp 7 (.d (.list 6 (a0.map e_api_Sample))))))
      (OpJs.cons (OpJ.sub (ltN hN rfl) (Opd.tmp 8 (.d (.int .i64 (a0.length : Int)))) (Opd.int .i64 (1)))
      (OpJs.cons (OpJ.indexD (el := (e_api_Sample x2)) Try.underlying31 tyS36 (idx_some hx2).1 (get_map e_api_Sample (idx_some hx2).2) (ltN hN rfl) (Opd.tmp 6 (.d (.list 6 (a0.map e_api_Sample)))) (Opd.tmp 9 (.d (.int .i64 (w64 ((a0.length : Int) - (1 : Int)))))))
      (OpJs.cons (OpJ.fieldD Try.underlying36 (by rfl) (o := 1) (by rfl) tyS3 (by decide) (ds := [(.int .i64 x2.fTick), (.int .i64 x2.fSeq), (.int .i64 x2.fPool), (.int .i64 x2.fIn), (.int .i64 x2.fOut), (.int .i64 x2.fBytes)]) (e := (.int .i64 x2.fSeq)) (by rfl) (by rfl) (ltN hN rfl) (Opd.tmp 10 (.dptr (e_api_Sample x2))))
      (OpJs.cons (OpJ.loadD tyS3 (by rfl) (by rfl) (ltN hN rfl) (Opd.tmp 11 (.dptr (.int .i64 x2.fSeq))))
      (OpJs.cons (OpJ.move (ltN hN rfl) (Opd.tmp 0 (.d (.list 6 (a0.map e_api_Sample)))))
      (OpJs.cons (OpJ.indexD (el := (e_api_Sample x3)) Try.underlying31 tyS36 (idx_some hx3).1 (get_map e_api_Sample (idx_some hx3).2) (ltN hN rfl) (Opd.tmp 13 (.d (.list 6 (a0.map e_api_Sample)))) (Opd.int .i64 (0)))
      (OpJs.cons (OpJ.fieldD Try.underlying36 (by rfl) (o := 1) (by rfl) tyS3 (by decide) (ds := [(.int .i64 x3.fTick), (.int .i64 x3.fSeq), (.int .i64 x3.fPool), (.int .i64 x3.fIn), (.int .i64 x3.fOut), (.int .i64 x3.fBytes)]) (e := (.int .i64 x3.fSeq)) (by rfl) (by rfl) (ltN hN rfl) (Opd.tmp 14 (.dptr (e_api_Sample x3))))
      (OpJs.cons (OpJ.loadD tyS3 (by rfl) (by rfl) (ltN hN rfl) (Opd.tmp 15 (.dptr (.int .i64 x3.fSeq))))
      (OpJs.cons (OpJ.sub (ltN hN rfl) (Opd.tmp 12 (.d (.int .i64 x2.fSeq))) (Opd.tmp 16 (.d (.int .i64 x3.fSeq))))
      (OpJs.cons (OpJ.add (ltN hN rfl) (Opd.tmp 17 (.d (.int .i64 (w64 (x2.fSeq - x3.fSeq))))) (Opd.int .i64 (1)))
      (OpJs.cons (OpJ.move (ltN hN rfl) (Opd.tmp 0 (.d (.list 6 (a0.map e_api_Sample)))))
      (OpJs.cons (OpJ.val (v' := (.d (.int .i64 (a0.length : Int)))) (by simp) (OpJ.lenD Try.underlying31 (ltN hN rfl) (Opd.tmp 19 (.d (.list 6 (a0.map e_api_Sample))))))
      (OpJs.cons (OpJ.sub (ltN hN rfl) (Opd.tmp 18 (.d (.int .i64 (w64 ((w64 (x2.fSeq - x3.fSeq)) + (1 : Int)))))) (Opd.tmp 20 (.d (.int .i64 (a0.length : Int)))))
      (OpJs.cons (OpJ.assign (ltN hN rfl) (Opd.tmp 21 (.d (.int .i64 (w64 ((w64 ((w64 (x2.fSeq - x3.fSeq)) + (1 : Int))) - (a0.length : Int)))))))
      (OpJs.nil)))))))))))))))))) (by kernel_rfl) (by rfl) (by rfl) ?_
    refine seqQ_n ?_
    refine AWp.ghost (Mat.pat [] [(2, (.d (.int .i64 (w64 ((w64 ((w64 (x2.fSeq - x3.fSeq)) + (1 : Int))) - (a0.length : Int))))))] [] hB (by rfl) (by rfl) (by rfl)) ?_
    refine AWp.ret ?_
    obtain rfl := Option.some.inj h
    exact ⟨.inl rfl, _, _, (Mat.pat [] [(2, (.d (.int .i64 (w64 ((w64 ((w64 (x2.fSeq - x3.fSeq)) + (1 : Int))) - (a0.length : Int))))))] [] hB (by rfl) (by rfl) (by rfl)), [(.d (.int .i64 (w64 ((w64 ((w64 (x2.fSeq - x3.fSeq)) + (1 : Int))) - (a0.length : Int)))))], (Res.tmp (by rfl) (by rfl) Res.nil), rfl, by rfl, by rfl, by rfl⟩

noncomputable def sample_Span (a0 : (List api_Sample)) : Option (Int) :=
  (if ((a0.length : Int) == (0 : Int)) = true then
  some (0 : Int)
  else
  (idx a0 (w64 ((a0.length : Int) - (1 : Int)))).bind fun x2 =>
  (idx a0 (0 : Int)).bind fun x3 =>
  some (w64 ((w64 (x2.fPool - x3.fPool)) + (1 : Int))))
set_option maxHeartbeats 4000000 in
set_option maxRecDepth 100000 in
theorem sample_Span_ac (a0 : (List api_Sample)) (r : Int) (h : sample_Span a0 = some r) : AC Try.prog 22 [(.d (.list 6 (a0.map e_api_Sample)))] [] (.d (.int .i64 r)) [] := by
  refine AC.of_code2 Try.func22 rfl rfl (Nat.le_of_ble_eq_true (by rfl)) fun B hB hN => ?_
  delta sample_Span at h
  refine AWp.seq ?_
  refine AWp.region (OpJs.cons (OpJ.assign (ltN hN rfl) (Opd.int .i64 (0)))
  (OpJs.nil)) (by rfl) (by rfl) ?_
  refine seqQ_n ?_
  refine AWp.ghost (Mat.pat [] [(0, (.d (.list 6 (a0.map e_api_Sample))))] [] hB (by rfl) (by rfl) (by rfl)) ?_
  refine AWp.seq ?_
  refine AWp.seq ?_
  refine AWp.region (OpJs.cons (OpJ.move (ltN hN rfl) (Opd.tmp 0 (.d (.list 6 (a0.map e_api_Sample)))))
  (OpJs.cons (OpJ.val (v' := (.d (.int .i64 (a0.length : Int)))) (by simp) (OpJ.lenD Try.underlying31 (ltN hN rfl) (Opd.tmp 3 (.d (.list 6 (a0.map e_api_Sample))))))
  (OpJs.cons (OpJ.eqlI (ltN hN rfl) (Opd.tmp 4 (.d (.int .i64 (a0.length : Int)))) (Opd.int .i64 (0)))
  (OpJs.nil)))) (by rfl) (by rfl) ?_
  refine seqQ_n ?_
  refine AWp.ghost (Mat.pat [] [(0, (.d (.list 6 (a0.map e_api_Sample)))), (5, (.d (.bool ((a0.length : Int) == (0 : Int)))))] [] hB (by rfl) (by rfl) (by rfl)) ?_
  refine AWp.cond (b := ((a0.length : Int) == (0 : Int))) (by rfl) (fun hg1 => ?_) (fun hg1 => ?_)
  · replace h := ite_t hg1 h
    refine AWp.seq ?_
    refine AWp.region (OpJs.cons (OpJ.assign (ltN hN rfl) (Opd.int .i64 (0)))
      (OpJs.nil)) (by rfl) (by rfl) ?_
    refine seqQ_n ?_
    refine AWp.ghost (Mat.pat [] [(2, (.d (.int .i64 (0 : Int))))] [] hB (by rfl) (by rfl) (by rfl)) ?_
    refine AWp.ret ?_
    refine seqQ_r ?_
    obtain rfl := Option.some.inj h
    exact ⟨.inl rfl, _, _, (Mat.pat [] [(2, (.d (.int .i64 (0 : Int))))] [] hB (by rfl) (by rfl) (by rfl)), [(.d (.int .i64 (0 : Int)))], (Res.tmp (by rfl) (by rfl) Res.nil), rfl, by rfl, by rfl, by rfl⟩
  · replace h := ite_f hg1 h
    refine AWp.skip ?_
    refine seqQ_n ?_
    refine AWp.seq ?_
    obtain ⟨x2, hx2, h⟩ := bindS h
    obtain ⟨x3, hx3, h⟩ := bindS h
    refine AWp.draws (by kernel_rfl) (OpJs.cons (OpJ.move (ltN hN rfl) (Opd.tmp 0 (.d (.list 6 (a0.map e_api_Sample)))))
      (OpJs.cons (OpJ.move (ltN hN rfl) (Opd.tmp 0 (.d (.list 6 (a0.map e_api_Sample)))))
      (OpJs.cons (OpJ.val (v' := (.d (.int .i64 (a0.length : Int)))) (by simp) (OpJ.lenD Try.underlying31 (ltN hN rfl) (Opd.tmp 7 (.d (.list 6 (a0.map e_api_Sample))))))
      (OpJs.cons (OpJ.sub (ltN hN rfl) (Opd.tmp 8 (.d (.int .i64 (a0.length : Int)))) (Opd.int .i64 (1)))
      (OpJs.cons (OpJ.indexD (el := (e_api_Sample x2)) Try.underlying31 tyS36 (idx_some hx2).1 (get_map e_api_Sample (idx_some hx2).2) (ltN hN rfl) (Opd.tmp 6 (.d (.list 6 (a0.map e_api_Sample)))) (Opd.tmp 9 (.d (.int .i64 (w64 ((a0.length : Int) - (1 : Int)))))))
      (OpJs.cons (OpJ.fieldD Try.underlying36 (by rfl) (o := 2) (by rfl) tyS3 (by decide) (ds := [(.int .i64 x2.fTick), (.int .i64 x2.fSeq), (.int .i64 x2.fPool), (.int .i64 x2.fIn), (.int .i64 x2.fOut), (.int .i64 x2.fBytes)]) (e := (.int .i64 x2.fPool)) (by rfl) (by rfl) (ltN hN rfl) (Opd.tmp 10 (.dptr (e_api_Sample x2))))
      (OpJs.cons (OpJ.loadD tyS3 (by rfl) (by rfl) (ltN hN rfl) (Opd.tmp 11 (.dptr (.int .i64 x2.fPool))))
      (OpJs.cons (OpJ.move (ltN hN rfl) (Opd.tmp 0 (.d (.list 6 (a0.map e_api_Sample)))))
      (OpJs.cons (OpJ.indexD (el := (e_api_Sample x3)) Try.underlying31 tyS36 (idx_some hx3).1 (get_map e_api_Sample (idx_some hx3).2) (ltN hN rfl) (Opd.tmp 13 (.d (.list 6 (a0.map e_api_Sample)))) (Opd.int .i64 (0)))
      (OpJs.cons (OpJ.fieldD Try.underlying36 (by rfl) (o := 2) (by rfl) tyS3 (by decide) (ds := [(.int .i64 x3.fTick), (.int .i64 x3.fSeq), (.int .i64 x3.fPool), (.int .i64 x3.fIn), (.int .i64 x3.fOut), (.int .i64 x3.fBytes)]) (e := (.int .i64 x3.fPool)) (by rfl) (by rfl) (ltN hN rfl) (Opd.tmp 14 (.dptr (e_api_Sample x3))))
      (OpJs.cons (OpJ.loadD tyS3 (by rfl) (by rfl) (ltN hN rfl) (Opd.tmp 15 (.dptr (.int .i64 x3.fPool))))
      (OpJs.cons (OpJ.sub (ltN hN rfl) (Opd.tmp 12 (.d (.int .i64 x2.fPool))) (Opd.tmp 16 (.d (.int .i64 x3.fPool))))
      (OpJs.cons (OpJ.add (ltN hN rfl) (Opd.tmp 17 (.d (.int .i64 (w64 (x2.fPool - x3.fPool))))) (Opd.int .i64 (1)))
      (OpJs.cons (OpJ.assign (ltN hN rfl) (Opd.tmp 18 (.d (.int .i64 (w64 ((w64 (x2.fPool - x3.fPool)) + (1 : Int)))))))
      (OpJs.nil))))))))))))))) (by kernel_rfl) (by rfl) (by rfl) ?_
    refine seqQ_n ?_
    refine AWp.ghost (Mat.pat [] [(2, (.d (.int .i64 (w64 ((w64 (x2.fPool - x3.fPool)) + (1 : Int))))))] [] hB (by rfl) (by rfl) (by rfl)) ?_
    refine AWp.ret ?_
    obtain rfl := Option.some.inj h
    exact ⟨.inl rfl, _, _, (Mat.pat [] [(2, (.d (.int .i64 (w64 ((w64 (x2.fPool - x3.fPool)) + (1 : Int))))))] [] hB (by rfl) (by rfl) (by rfl)), [(.d (.int .i64 (w64 ((w64 (x2.fPool - x3.fPool)) + (1 : Int)))))], (Res.tmp (by rfl) (by rfl) Res.nil), rfl, by rfl, by rfl, by rfl⟩

noncomputable def exchangepointlaw37_awake : Option (Bool) :=
  (sample_Pick (10 : Int) (4 : Int) (1 : Int)).bind fun r1 =>
  jn (fun m10 : Bool =>
  some m10) (fun j11 =>
  (if ((r1.2 == (0 : Int)) && ((r1.1.length : Int) == (3 : Int))) = true then
  (idx r1.1 (2 : Int)).bind fun x13 =>
  (if (x13 == (9 : Int)) = true then
  (sample_Valid ([(api_Sample.mk (0 : Int) (1 : Int) (10 : Int) (1 : Int) (2 : Int) (0 : Int)), (api_Sample.mk (0 : Int) (3 : Int) (30 : Int) (1 : Int) (2 : Int) (0 : Int))] : List api_Sample)).bind fun r15 =>
  (if r15 = true then
  (sample_Lost ([(api_Sample.mk (0 : Int) (1 : Int) (10 : Int) (1 : Int) (2 : Int) (0 : Int)), (api_Sample.mk (0 : Int) (3 : Int) (30 : Int) (1 : Int) (2 : Int) (0 : Int))] : List api_Sample)).bind fun r17 =>
  (if (r17 == (1 : Int)) = true then
  (sample_Span ([(api_Sample.mk (0 : Int) (1 : Int) (10 : Int) (1 : Int) (2 : Int) (0 : Int)), (api_Sample.mk (0 : Int) (3 : Int) (30 : Int) (1 : Int) (2 : Int) (0 : Int))] : List api_Sample)).bind fun r19 =>
  j11 (r19 == (21 : Int))
  else
  j11 false)
  else
  j11 false)
  else
  j11 false)
  else
  j11 false))
set_option maxHeartbeats 4000000 in
set_option maxRecDepth 100000 in
theorem exchangepointlaw37_awake_ac (r : Bool) (h : exchangepointlaw37_awake = some r) : AC Try.prog 11 [] [] (.d (.bool r)) [] := by
  refine AC.of_code2 Try.func11 rfl rfl (Nat.le_of_ble_eq_true (by rfl)) fun B hB hN => ?_
  delta exchangepointlaw37_awake at h
  refine AWp.seq ?_
  refine AWp.region (OpJs.cons (OpJ.assign (ltN hN rfl) (Opd.bool false))
  (OpJs.nil)) (by rfl) (by rfl) ?_
  refine seqQ_n ?_
  refine AWp.ghost (Mat.pat [] [] [] hB (by rfl) (by rfl) (by rfl)) ?_
  refine AWp.seq ?_
  obtain ⟨r1, hr1, h⟩ := bindS h
  refine AWp.region (OpJs.cons (OpJ.callFn hB fnOk8 (sample_Pick_ac (10 : Int) (4 : Int) (1 : Int) r1 hr1) [] (by kernel_rfl) (ltN hN rfl) (by kernel_rfl) (OpdL.cons (Opd.int .i64 (10)) (OpdL.cons (Opd.int .i64 (4)) (OpdL.cons (Opd.int .i64 (1)) OpdL.nil))))
  (OpJs.cons (OpJ.move (ltN hN rfl) (Opd.tmp 5 (.tup [(.d (.list 1 (r1.1.map (eI .i64)))), (.d (.int .i64 r1.2))])))
  (OpJs.cons (OpJ.extract (v := (.d (.list 1 (r1.1.map (eI .i64))))) (by rfl) rfl (ltN hN rfl) (Opd.tmp 4 (.tup [(.d (.list 1 (r1.1.map (eI .i64)))), (.d (.int .i64 r1.2))])))
  (OpJs.cons (OpJ.extract (v := (.d (.int .i64 r1.2))) (by rfl) rfl (ltN hN rfl) (Opd.tmp 4 (.tup [(.d (.list 1 (r1.1.map (eI .i64)))), (.d (.int .i64 r1.2))])))
  (OpJs.cons (OpJ.assign (ltN hN rfl) (Opd.tmp 6 (.d (.list 1 (r1.1.map (eI .i64))))))
  (OpJs.cons (OpJ.assign (ltN hN rfl) (Opd.tmp 7 (.d (.int .i64 r1.2))))
  (OpJs.nil))))))) (by rfl) (by rfl) ?_
  refine seqQ_n ?_
  refine AWp.ghost (Mat.pat [] [(1, (.d (.list 1 (r1.1.map (eI .i64))))), (2, (.d (.int .i64 r1.2)))] [] hB (by rfl) (by rfl) (by rfl)) ?_
  refine AWp.seq ?_
  refine AWp.region (OpJs.cons (OpJ.coe (v := (.st [(.d (.int .i64 (0 : Int))), (.d (.int .i64 (1 : Int))), (.d (.int .i64 (10 : Int))), (.d (.int .i64 (1 : Int))), (.d (.int .i64 (2 : Int))), (.d (.int .i64 (0 : Int)))])) (y := (.st [(.int .i64 (0 : Int)), (.int .i64 (1 : Int)), (.int .i64 (10 : Int)), (.int .i64 (1 : Int)), (.int .i64 (2 : Int)), (.int .i64 (0 : Int))])) (Co.st (CoL.cons (Co.d _) (CoL.cons (Co.d _) (CoL.cons (Co.d _) (CoL.cons (Co.d _) (CoL.cons (Co.d _) (CoL.cons (Co.d _) CoL.nil))))))) rfl (OpJ.build (places := [(0, 1), (1, 1), (2, 1), (3, 1), (4, 1), (5, 1)]) ⟨Try.underlying36, fun w => by kernel_rfl⟩ tyZS36 (Opds.cons (Opd.int .i64 (1)) (Opds.cons (Opd.int .i64 (10)) (Opds.cons (Opd.int .i64 (1)) (Opds.cons (Opd.int .i64 (2)) Opds.nil)))) (by kernel_rfl) (r := (.st [(.d (.int .i64 (0 : Int))), (.d (.int .i64 (1 : Int))), (.d (.int .i64 (10 : Int))), (.d (.int .i64 (1 : Int))), (.d (.int .i64 (2 : Int))), (.d (.int .i64 (0 : Int)))])) (by rfl) (ltN hN rfl)))
  (OpJs.cons (OpJ.coe (v := (.st [(.d (.int .i64 (0 : Int))), (.d (.int .i64 (3 : Int))), (.d (.int .i64 (30 : Int))), (.d (.int .i64 (1 : Int))), (.d (.int .i64 (2 : Int))), (.d (.int .i64 (0 : Int)))])) (y := (.st [(.int .i64 (0 : Int)), (.int .i64 (3 : Int)), (.int .i64 (30 : Int)), (.int .i64 (1 : Int)), (.int .i64 (2 : Int)), (.int .i64 (0 : Int))])) (Co.st (CoL.cons (Co.d _) (CoL.cons (Co.d _) (CoL.cons (Co.d _) (CoL.cons (Co.d _) (CoL.cons (Co.d _) (CoL.cons (Co.d _) CoL.nil))))))) rfl (OpJ.build (places := [(0, 1), (1, 1), (2, 1), (3, 1), (4, 1), (5, 1)]) ⟨Try.underlying36, fun w => by kernel_rfl⟩ tyZS36 (Opds.cons (Opd.int .i64 (3)) (Opds.cons (Opd.int .i64 (30)) (Opds.cons (Opd.int .i64 (1)) (Opds.cons (Opd.int .i64 (2)) Opds.nil)))) (by kernel_rfl) (r := (.st [(.d (.int .i64 (0 : Int))), (.d (.int .i64 (3 : Int))), (.d (.int .i64 (30 : Int))), (.d (.int .i64 (1 : Int))), (.d (.int .i64 (2 : Int))), (.d (.int .i64 (0 : Int)))])) (by rfl) (ltN hN rfl)))
  (OpJs.cons (OpJ.buildSlice Try.underlying31 tyS36 tyZD36 (by rfl) (by decide) (by decide) (Opds.cons (Opd.tmp 8 (.d (.st [(.int .i64 (0 : Int)), (.int .i64 (1 : Int)), (.int .i64 (10 : Int)), (.int .i64 (1 : Int)), (.int .i64 (2 : Int)), (.int .i64 (0 : Int))]))) (Opds.cons (Opd.tmp 9 (.d (.st [(.int .i64 (0 : Int)), (.int .i64 (3 : Int)), (.int .i64 (30 : Int)), (.int .i64 (1 : Int)), (.int .i64 (2 : Int)), (.int .i64 (0 : Int))]))) Opds.nil)) (by kernel_rfl) (es := ([(.st [(.int .i64 (0 : Int)), (.int .i64 (1 : Int)), (.int .i64 (10 : Int)), (.int .i64 (1 : Int)), (.int .i64 (2 : Int)), (.int .i64 (0 : Int))]), (.st [(.int .i64 (0 : Int)), (.int .i64 (3 : Int)), (.int .i64 (30 : Int)), (.int .i64 (1 : Int)), (.int .i64 (2 : Int)), (.int .i64 (0 : Int))])] : List D)) (by rfl) (by rfl) (by kernel_rfl) (by simp) (ltN hN rfl))
  (OpJs.cons (OpJ.assign (ltN hN rfl) (Opd.tmp 10 (.d (.list 6 (([(api_Sample.mk (0 : Int) (1 : Int) (10 : Int) (1 : Int) (2 : Int) (0 : Int)), (api_Sample.mk (0 : Int) (3 : Int) (30 : Int) (1 : Int) (2 : Int) (0 : Int))] : List api_Sample).map e_api_Sample)))))
  (OpJs.nil))))) (by rfl) (by rfl) ?_
  refine seqQ_n ?_
  refine AWp.ghost (Mat.pat [] [(1, (.d (.list 1 (r1.1.map (eI .i64))))), (2, (.d (.int .i64 r1.2))), (3, (.d (.list 6 (([(api_Sample.mk (0 : Int) (1 : Int) (10 : Int) (1 : Int) (2 : Int) (0 : Int)), (api_Sample.mk (0 : Int) (3 : Int) (30 : Int) (1 : Int) (2 : Int) (0 : Int))] : List api_Sample).map e_api_Sample))))] [] hB (by rfl) (by rfl) (by rfl)) ?_
  refine AWp.seq ?_
  refine AWp.cut h (fun m10 : Bool => ([(0, (.d (.bool m10)))] : EL)) (fun m10 : Bool => ([] : OL)) (fun m10 h E' O' hmat => ?_) (fun j11 hjj11 h => ?_)
  · refine seqQ_n ?_
    refine AWp.ghost hmat ?_
    refine AWp.ret ?_
    obtain rfl := Option.some.inj h
    exact ⟨.inl rfl, _, _, (Mat.pat [] [(0, (.d (.bool m10)))] [] hB (by rfl) (by rfl) (by rfl)), [(.d (.bool m10))], (Res.tmp (by rfl) (by rfl) Res.nil), rfl, by rfl, by rfl, by rfl⟩
  · rcases Bool.eq_false_or_eq_true ((r1.2 == (0 : Int)) && ((r1.1.length : Int) == (3 : Int))) with hg12 | hg12
    · replace h := ite_t hg12 h
      obtain ⟨x13, hx13, h⟩ := bindS h
      rcases Bool.eq_false_or_eq_true (x13 == (9 : Int)) with hg14 | hg14
      · replace h := ite_t hg14 h
        obtain ⟨r15, hr15, h⟩ := bindS h
        rcases Bool.eq_false_or_eq_true r15 with hg16 | hg16
        · replace h := ite_t hg16 h
          obtain ⟨r17, hr17, h⟩ := bindS h
          rcases Bool.eq_false_or_eq_true (r17 == (1 : Int)) with hg18 | hg18
          · replace h := ite_t hg18 h
            obtain ⟨r19, hr19, h⟩ := bindS h
            refine AWp.region (OpJs.cons (OpJ.move (ltN hN rfl) (Opd.tmp 2 (.d (.int .i64 r1.2))))
              (OpJs.cons (OpJ.eqlI (ltN hN rfl) (Opd.tmp 11 (.d (.int .i64 r1.2))) (Opd.int .i64 (0)))
              (OpJs.cons (OpJ.move (ltN hN rfl) (Opd.tmp 12 (.d (.bool (r1.2 == (0 : Int))))))
              (OpJs.cons (OpJ.opt' (v := (.d (.list 1 (r1.1.map (eI .i64))))) (OpJ.move (ltN hN rfl) (Opd.tmp 1 (.d (.list 1 (r1.1.map (eI .i64)))))) (by rfl) (GuardV.plain _) (ltN hN rfl) (by rfl) (by rfl) (by rfl) (by rfl) (OptL.keep rfl OptL.nil))
              (OpJs.cons (OpJ.opt' (v := (.d (.int .i64 (r1.1.length : Int)))) (OpJ.val (v' := (.d (.int .i64 (r1.1.length : Int)))) (by simp) (OpJ.lenD Try.underlying23 (ltN hN rfl) (Opd.tmp 14 (.d (.list 1 (r1.1.map (eI .i64))))))) (by rfl) (GuardV.plain _) (ltN hN rfl) (by rfl) (by rfl) (by rfl) (by rfl) (OptL.opt OptL.nil))
              (OpJs.cons (OpJ.opt' (v := (.d (.bool ((r1.1.length : Int) == (3 : Int))))) (OpJ.eqlI (ltN hN rfl) (Opd.tmp 15 (.d (.int .i64 (r1.1.length : Int)))) (Opd.int .i64 (3))) (by rfl) (GuardV.plain _) (ltN hN rfl) (by rfl) (by rfl) (by rfl) (by rfl) (OptL.opt OptL.nil))
              (OpJs.cons (OpJ.pickAnd rfl (ltN hN rfl) (Opd.tmp 13 (.d (.bool (r1.2 == (0 : Int))))) (Opd.tmp 16 (.opt ((r1.2 == (0 : Int)) == true) (.d (.bool ((r1.1.length : Int) == (3 : Int)))))))
              (OpJs.cons (OpJ.val (v' := .d (.bool true)) (by rw [hg12]) (OpJ.move (ltN hN rfl) (Opd.tmp 17 (.d (.bool ((r1.2 == (0 : Int)) && ((r1.1.length : Int) == (3 : Int))))))))
              (OpJs.cons (OpJ.guarded (by rfl) (OpJ.move (ltN hN rfl) (Opd.tmp 1 (.d (.list 1 (r1.1.map (eI .i64)))))))
              (OpJs.cons (OpJ.guarded (by rfl) (OpJ.indexD (el := (.int .i64 x13)) Try.underlying23 tyS3 (idx_some hx13).1 (get_map (eI .i64) (idx_some hx13).2) (ltN hN rfl) (Opd.tmp 19 (.d (.list 1 (r1.1.map (eI .i64))))) (Opd.int .i64 (2))))
              (OpJs.cons (OpJ.guarded (by rfl) (OpJ.loadD tyS3 (by rfl) (by rfl) (ltN hN rfl) (Opd.tmp 20 (.dptr (.int .i64 x13)))))
              (OpJs.cons (OpJ.guarded (by rfl) (OpJ.eqlI (ltN hN rfl) (Opd.tmp 21 (.d (.int .i64 x13))) (Opd.int .i64 (9))))
              (OpJs.cons (OpJ.pickT (ltN hN rfl) (Opd.tmp 18 (.d (.bool true))) (Opd.tmp 22 (.d (.bool (x13 == (9 : Int))))))
              (OpJs.cons (OpJ.val (v' := .d (.bool true)) (by rw [hg14]) (OpJ.move (ltN hN rfl) (Opd.tmp 23 (.d (.bool (x13 == (9 : Int)))))))
              (OpJs.cons (OpJ.guarded (by rfl) (OpJ.move (ltN hN rfl) (Opd.tmp 3 (.d (.list 6 (([(api_Sample.mk (0 : Int) (1 : Int) (10 : Int) (1 : Int) (2 : Int) (0 : Int)), (api_Sample.mk (0 : Int) (3 : Int) (30 : Int) (1 : Int) (2 : Int) (0 : Int))] : List api_Sample).map e_api_Sample))))))
              (OpJs.cons (OpJ.guarded (by rfl) (OpJ.callFn hB fnOk16 (sample_Valid_ac ([(api_Sample.mk (0 : Int) (1 : Int) (10 : Int) (1 : Int) (2 : Int) (0 : Int)), (api_Sample.mk (0 : Int) (3 : Int) (30 : Int) (1 : Int) (2 : Int) (0 : Int))] : List api_Sample) r15 hr15) [] (by kernel_rfl) (ltN hN rfl) (by kernel_rfl) (OpdL.cons (Opd.tmp 25 (.d (.list 6 (([(api_Sample.mk (0 : Int) (1 : Int) (10 : Int) (1 : Int) (2 : Int) (0 : Int)), (api_Sample.mk (0 : Int) (3 : Int) (30 : Int) (1 : Int) (2 : Int) (0 : Int))] : List api_Sample).map e_api_Sample)))) OpdL.nil)))
              (OpJs.cons (OpJ.pickT (ltN hN rfl) (Opd.tmp 24 (.d (.bool true))) (Opd.tmp 26 (.d (.bool r15))))
              (OpJs.cons (OpJ.val (v' := .d (.bool true)) (by rw [hg16]) (OpJ.move (ltN hN rfl) (Opd.tmp 27 (.d (.bool r15)))))
              (OpJs.cons (OpJ.guarded (by rfl) (OpJ.move (ltN hN rfl) (Opd.tmp 3 (.d (.list 6 (([(api_Sample.mk (0 : Int) (1 : Int) (10 : Int) (1 : Int) (2 : Int) (0 : Int)), (api_Sample.mk (0 : Int) (3 : Int) (30 : Int) (1 : Int) (2 : Int) (0 : Int))] : List api_Sample).map e_api_Sample))))))
              (OpJs.cons (OpJ.guarded (by rfl) (OpJ.callFn hB fnOk20 (sample_Lost_ac ([(api_Sample.mk (0 : Int) (1 : Int) (10 : Int) (1 : Int) (2 : Int) (0 : Int)), (api_Sample.mk (0 : Int) (3 : Int) (30 : Int) (1 : Int) (2 : Int) (0 : Int))] : List api_Sample) r17 hr17) [] (by kernel_rfl) (ltN hN rfl) (by kernel_rfl) (OpdL.cons (Opd.tmp 29 (.d (.list 6 (([(api_Sample.mk (0 : Int) (1 : Int) (10 : Int) (1 : Int) (2 : Int) (0 : Int)), (api_Sample.mk (0 : Int) (3 : Int) (30 : Int) (1 : Int) (2 : Int) (0 : Int))] : List api_Sample).map e_api_Sample)))) OpdL.nil)))
              (OpJs.cons (OpJ.guarded (by rfl) (OpJ.eqlI (ltN hN rfl) (Opd.tmp 30 (.d (.int .i64 r17))) (Opd.int .i64 (1))))
              (OpJs.cons (OpJ.pickT (ltN hN rfl) (Opd.tmp 28 (.d (.bool true))) (Opd.tmp 31 (.d (.bool (r17 == (1 : Int))))))
              (OpJs.cons (OpJ.val (v' := .d (.bool true)) (by rw [hg18]) (OpJ.move (ltN hN rfl) (Opd.tmp 32 (.d (.bool (r17 == (1 : Int)))))))
              (OpJs.cons (OpJ.guarded (by rfl) (OpJ.move (ltN hN rfl) (Opd.tmp 3 (.d (.list 6 (([(api_Sample.mk (0 : Int) (1 : Int) (10 : Int) (1 : Int) (2 : Int) (0 : Int)), (api_Sample.mk (0 : Int) (3 : Int) (30 : Int) (1 : Int) (2 : Int) (0 : Int))] : List api_Sample).map e_api_Sample))))))
              (OpJs.cons (OpJ.guarded (by rfl) (OpJ.callFn hB fnOk22 (sample_Span_ac ([(api_Sample.mk (0 : Int) (1 : Int) (10 : Int) (1 : Int) (2 : Int) (0 : Int)), (api_Sample.mk (0 : Int) (3 : Int) (30 : Int) (1 : Int) (2 : Int) (0 : Int))] : List api_Sample) r19 hr19) [] (by kernel_rfl) (ltN hN rfl) (by kernel_rfl) (OpdL.cons (Opd.tmp 34 (.d (.list 6 (([(api_Sample.mk (0 : Int) (1 : Int) (10 : Int) (1 : Int) (2 : Int) (0 : Int)), (api_Sample.mk (0 : Int) (3 : Int) (30 : Int) (1 : Int) (2 : Int) (0 : Int))] : List api_Sample).map e_api_Sample)))) OpdL.nil)))
              (OpJs.cons (OpJ.guarded (by rfl) (OpJ.eqlI (ltN hN rfl) (Opd.tmp 35 (.d (.int .i64 r19))) (Opd.int .i64 (21))))
              (OpJs.cons (OpJ.pickT (ltN hN rfl) (Opd.tmp 33 (.d (.bool true))) (Opd.tmp 36 (.d (.bool (r19 == (21 : Int))))))
              (OpJs.cons (OpJ.assign (ltN hN rfl) (Opd.tmp 37 (.d (.bool (r19 == (21 : Int))))))
              (OpJs.nil))))))))))))))))))))))))))))) (by rfl) (by rfl) ?_
            exact hjj11 _ h _ _ (Mat.trans (Mat.pat [] [(0, (.d (.bool (r19 == (21 : Int)))))] [] hB (by rfl) (by rfl) (by rfl)) (Mat.pat [] ((fun m10 : Bool => ([(0, (.d (.bool m10)))] : EL)) (r19 == (21 : Int))) ((fun m10 : Bool => ([] : OL)) (r19 == (21 : Int))) hB (by rfl) (by rfl) (by rfl)))
          · replace h := ite_f hg18 h
            refine AWp.region (OpJs.cons (OpJ.move (ltN hN rfl) (Opd.tmp 2 (.d (.int .i64 r1.2))))
              (OpJs.cons (OpJ.eqlI (ltN hN rfl) (Opd.tmp 11 (.d (.int .i64 r1.2))) (Opd.int .i64 (0)))
              (OpJs.cons (OpJ.move (ltN hN rfl) (Opd.tmp 12 (.d (.bool (r1.2 == (0 : Int))))))
              (OpJs.cons (OpJ.opt' (v := (.d (.list 1 (r1.1.map (eI .i64))))) (OpJ.move (ltN hN rfl) (Opd.tmp 1 (.d (.list 1 (r1.1.map (eI .i64)))))) (by rfl) (GuardV.plain _) (ltN hN rfl) (by rfl) (by rfl) (by rfl) (by rfl) (OptL.keep rfl OptL.nil))
              (OpJs.cons (OpJ.opt' (v := (.d (.int .i64 (r1.1.length : Int)))) (OpJ.val (v' := (.d (.int .i64 (r1.1.length : Int)))) (by simp) (OpJ.lenD Try.underlying23 (ltN hN rfl) (Opd.tmp 14 (.d (.list 1 (r1.1.map (eI .i64))))))) (by rfl) (GuardV.plain _) (ltN hN rfl) (by rfl) (by rfl) (by rfl) (by rfl) (OptL.opt OptL.nil))
              (OpJs.cons (OpJ.opt' (v := (.d (.bool ((r1.1.length : Int) == (3 : Int))))) (OpJ.eqlI (ltN hN rfl) (Opd.tmp 15 (.d (.int .i64 (r1.1.length : Int)))) (Opd.int .i64 (3))) (by rfl) (GuardV.plain _) (ltN hN rfl) (by rfl) (by rfl) (by rfl) (by rfl) (OptL.opt OptL.nil))
              (OpJs.cons (OpJ.pickAnd rfl (ltN hN rfl) (Opd.tmp 13 (.d (.bool (r1.2 == (0 : Int))))) (Opd.tmp 16 (.opt ((r1.2 == (0 : Int)) == true) (.d (.bool ((r1.1.length : Int) == (3 : Int)))))))
              (OpJs.cons (OpJ.val (v' := .d (.bool true)) (by rw [hg12]) (OpJ.move (ltN hN rfl) (Opd.tmp 17 (.d (.bool ((r1.2 == (0 : Int)) && ((r1.1.length : Int) == (3 : Int))))))))
              (OpJs.cons (OpJ.guarded (by rfl) (OpJ.move (ltN hN rfl) (Opd.tmp 1 (.d (.list 1 (r1.1.map (eI .i64)))))))
              (OpJs.cons (OpJ.guarded (by rfl) (OpJ.indexD (el := (.int .i64 x13)) Try.underlying23 tyS3 (idx_some hx13).1 (get_map (eI .i64) (idx_some hx13).2) (ltN hN rfl) (Opd.tmp 19 (.d (.list 1 (r1.1.map (eI .i64))))) (Opd.int .i64 (2))))
              (OpJs.cons (OpJ.guarded (by rfl) (OpJ.loadD tyS3 (by rfl) (by rfl) (ltN hN rfl) (Opd.tmp 20 (.dptr (.int .i64 x13)))))
              (OpJs.cons (OpJ.guarded (by rfl) (OpJ.eqlI (ltN hN rfl) (Opd.tmp 21 (.d (.int .i64 x13))) (Opd.int .i64 (9))))
              (OpJs.cons (OpJ.pickT (ltN hN rfl) (Opd.tmp 18 (.d (.bool true))) (Opd.tmp 22 (.d (.bool (x13 == (9 : Int))))))
              (OpJs.cons (OpJ.val (v' := .d (.bool true)) (by rw [hg14]) (OpJ.move (ltN hN rfl) (Opd.tmp 23 (.d (.bool (x13 == (9 : Int)))))))
              (OpJs.cons (OpJ.guarded (by rfl) (OpJ.move (ltN hN rfl) (Opd.tmp 3 (.d (.list 6 (([(api_Sample.mk (0 : Int) (1 : Int) (10 : Int) (1 : Int) (2 : Int) (0 : Int)), (api_Sample.mk (0 : Int) (3 : Int) (30 : Int) (1 : Int) (2 : Int) (0 : Int))] : List api_Sample).map e_api_Sample))))))
              (OpJs.cons (OpJ.guarded (by rfl) (OpJ.callFn hB fnOk16 (sample_Valid_ac ([(api_Sample.mk (0 : Int) (1 : Int) (10 : Int) (1 : Int) (2 : Int) (0 : Int)), (api_Sample.mk (0 : Int) (3 : Int) (30 : Int) (1 : Int) (2 : Int) (0 : Int))] : List api_Sample) r15 hr15) [] (by kernel_rfl) (ltN hN rfl) (by kernel_rfl) (OpdL.cons (Opd.tmp 25 (.d (.list 6 (([(api_Sample.mk (0 : Int) (1 : Int) (10 : Int) (1 : Int) (2 : Int) (0 : Int)), (api_Sample.mk (0 : Int) (3 : Int) (30 : Int) (1 : Int) (2 : Int) (0 : Int))] : List api_Sample).map e_api_Sample)))) OpdL.nil)))
              (OpJs.cons (OpJ.pickT (ltN hN rfl) (Opd.tmp 24 (.d (.bool true))) (Opd.tmp 26 (.d (.bool r15))))
              (OpJs.cons (OpJ.val (v' := .d (.bool true)) (by rw [hg16]) (OpJ.move (ltN hN rfl) (Opd.tmp 27 (.d (.bool r15)))))
              (OpJs.cons (OpJ.guarded (by rfl) (OpJ.move (ltN hN rfl) (Opd.tmp 3 (.d (.list 6 (([(api_Sample.mk (0 : Int) (1 : Int) (10 : Int) (1 : Int) (2 : Int) (0 : Int)), (api_Sample.mk (0 : Int) (3 : Int) (30 : Int) (1 : Int) (2 : Int) (0 : Int))] : List api_Sample).map e_api_Sample))))))
              (OpJs.cons (OpJ.guarded (by rfl) (OpJ.callFn hB fnOk20 (sample_Lost_ac ([(api_Sample.mk (0 : Int) (1 : Int) (10 : Int) (1 : Int) (2 : Int) (0 : Int)), (api_Sample.mk (0 : Int) (3 : Int) (30 : Int) (1 : Int) (2 : Int) (0 : Int))] : List api_Sample) r17 hr17) [] (by kernel_rfl) (ltN hN rfl) (by kernel_rfl) (OpdL.cons (Opd.tmp 29 (.d (.list 6 (([(api_Sample.mk (0 : Int) (1 : Int) (10 : Int) (1 : Int) (2 : Int) (0 : Int)), (api_Sample.mk (0 : Int) (3 : Int) (30 : Int) (1 : Int) (2 : Int) (0 : Int))] : List api_Sample).map e_api_Sample)))) OpdL.nil)))
              (OpJs.cons (OpJ.guarded (by rfl) (OpJ.eqlI (ltN hN rfl) (Opd.tmp 30 (.d (.int .i64 r17))) (Opd.int .i64 (1))))
              (OpJs.cons (OpJ.pickT (ltN hN rfl) (Opd.tmp 28 (.d (.bool true))) (Opd.tmp 31 (.d (.bool (r17 == (1 : Int))))))
              (OpJs.cons (OpJ.val (v' := .d (.bool false)) (by rw [hg18]) (OpJ.move (ltN hN rfl) (Opd.tmp 32 (.d (.bool (r17 == (1 : Int)))))))
              (OpJs.cons (OpJ.skipU (ltN hN rfl) (by rfl))
              (OpJs.cons (OpJ.skipU (ltN hN rfl) (by rfl))
              (OpJs.cons (OpJ.skipU (ltN hN rfl) (by rfl))
              (OpJs.cons (OpJ.pickF (ltN hN rfl) (Opd.tmp 33 (.d (.bool false))) (Opd.bool false))
              (OpJs.cons (OpJ.assign (ltN hN rfl) (Opd.tmp 37 (.d (.bool false))))
              (OpJs.nil))))))))))))))))))))))))))))) (by rfl) (by rfl) ?_
            exact hjj11 _ h _ _ (Mat.trans (Mat.pat [] [(0, (.d (.bool false)))] [] hB (by rfl) (by rfl) (by rfl)) (Mat.pat [] ((fun m10 : Bool => ([(0, (.d (.bool m10)))] : EL)) false) ((fun m10 : Bool => ([] : OL)) false) hB (by rfl) (by rfl) (by rfl)))
        · replace h := ite_f hg16 h
          refine AWp.region (OpJs.cons (OpJ.move (ltN hN rfl) (Opd.tmp 2 (.d (.int .i64 r1.2))))
            (OpJs.cons (OpJ.eqlI (ltN hN rfl) (Opd.tmp 11 (.d (.int .i64 r1.2))) (Opd.int .i64 (0)))
            (OpJs.cons (OpJ.move (ltN hN rfl) (Opd.tmp 12 (.d (.bool (r1.2 == (0 : Int))))))
            (OpJs.cons (OpJ.opt' (v := (.d (.list 1 (r1.1.map (eI .i64))))) (OpJ.move (ltN hN rfl) (Opd.tmp 1 (.d (.list 1 (r1.1.map (eI .i64)))))) (by rfl) (GuardV.plain _) (ltN hN rfl) (by rfl) (by rfl) (by rfl) (by rfl) (OptL.keep rfl OptL.nil))
            (OpJs.cons (OpJ.opt' (v := (.d (.int .i64 (r1.1.length : Int)))) (OpJ.val (v' := (.d (.int .i64 (r1.1.length : Int)))) (by simp) (OpJ.lenD Try.underlying23 (ltN hN rfl) (Opd.tmp 14 (.d (.list 1 (r1.1.map (eI .i64))))))) (by rfl) (GuardV.plain _) (ltN hN rfl) (by rfl) (by rfl) (by rfl) (by rfl) (OptL.opt OptL.nil))
            (OpJs.cons (OpJ.opt' (v := (.d (.bool ((r1.1.length : Int) == (3 : Int))))) (OpJ.eqlI (ltN hN rfl) (Opd.tmp 15 (.d (.int .i64 (r1.1.length : Int)))) (Opd.int .i64 (3))) (by rfl) (GuardV.plain _) (ltN hN rfl) (by rfl) (by rfl) (by rfl) (by rfl) (OptL.opt OptL.nil))
            (OpJs.cons (OpJ.pickAnd rfl (ltN hN rfl) (Opd.tmp 13 (.d (.bool (r1.2 == (0 : Int))))) (Opd.tmp 16 (.opt ((r1.2 == (0 : Int)) == true) (.d (.bool ((r1.1.length : Int) == (3 : Int)))))))
            (OpJs.cons (OpJ.val (v' := .d (.bool true)) (by rw [hg12]) (OpJ.move (ltN hN rfl) (Opd.tmp 17 (.d (.bool ((r1.2 == (0 : Int)) && ((r1.1.length : Int) == (3 : Int))))))))
            (OpJs.cons (OpJ.guarded (by rfl) (OpJ.move (ltN hN rfl) (Opd.tmp 1 (.d (.list 1 (r1.1.map (eI .i64)))))))
            (OpJs.cons (OpJ.guarded (by rfl) (OpJ.indexD (el := (.int .i64 x13)) Try.underlying23 tyS3 (idx_some hx13).1 (get_map (eI .i64) (idx_some hx13).2) (ltN hN rfl) (Opd.tmp 19 (.d (.list 1 (r1.1.map (eI .i64))))) (Opd.int .i64 (2))))
            (OpJs.cons (OpJ.guarded (by rfl) (OpJ.loadD tyS3 (by rfl) (by rfl) (ltN hN rfl) (Opd.tmp 20 (.dptr (.int .i64 x13)))))
            (OpJs.cons (OpJ.guarded (by rfl) (OpJ.eqlI (ltN hN rfl) (Opd.tmp 21 (.d (.int .i64 x13))) (Opd.int .i64 (9))))
            (OpJs.cons (OpJ.pickT (ltN hN rfl) (Opd.tmp 18 (.d (.bool true))) (Opd.tmp 22 (.d (.bool (x13 == (9 : Int))))))
            (OpJs.cons (OpJ.val (v' := .d (.bool true)) (by rw [hg14]) (OpJ.move (ltN hN rfl) (Opd.tmp 23 (.d (.bool (x13 == (9 : Int)))))))
            (OpJs.cons (OpJ.guarded (by rfl) (OpJ.move (ltN hN rfl) (Opd.tmp 3 (.d (.list 6 (([(api_Sample.mk (0 : Int) (1 : Int) (10 : Int) (1 : Int) (2 : Int) (0 : Int)), (api_Sample.mk (0 : Int) (3 : Int) (30 : Int) (1 : Int) (2 : Int) (0 : Int))] : List api_Sample).map e_api_Sample))))))
            (OpJs.cons (OpJ.guarded (by rfl) (OpJ.callFn hB fnOk16 (sample_Valid_ac ([(api_Sample.mk (0 : Int) (1 : Int) (10 : Int) (1 : Int) (2 : Int) (0 : Int)), (api_Sample.mk (0 : Int) (3 : Int) (30 : Int) (1 : Int) (2 : Int) (0 : Int))] : List api_Sample) r15 hr15) [] (by kernel_rfl) (ltN hN rfl) (by kernel_rfl) (OpdL.cons (Opd.tmp 25 (.d (.list 6 (([(api_Sample.mk (0 : Int) (1 : Int) (10 : Int) (1 : Int) (2 : Int) (0 : Int)), (api_Sample.mk (0 : Int) (3 : Int) (30 : Int) (1 : Int) (2 : Int) (0 : Int))] : List api_Sample).map e_api_Sample)))) OpdL.nil)))
            (OpJs.cons (OpJ.pickT (ltN hN rfl) (Opd.tmp 24 (.d (.bool true))) (Opd.tmp 26 (.d (.bool r15))))
            (OpJs.cons (OpJ.val (v' := .d (.bool false)) (by rw [hg16]) (OpJ.move (ltN hN rfl) (Opd.tmp 27 (.d (.bool r15)))))
            (OpJs.cons (OpJ.skipU (ltN hN rfl) (by rfl))
            (OpJs.cons (OpJ.skipU (ltN hN rfl) (by rfl))
            (OpJs.cons (OpJ.skipU (ltN hN rfl) (by rfl))
            (OpJs.cons (OpJ.pickF (ltN hN rfl) (Opd.tmp 28 (.d (.bool false))) (Opd.bool false))
            (OpJs.cons (OpJ.move (ltN hN rfl) (Opd.tmp 32 (.d (.bool false))))
            (OpJs.cons (OpJ.skipU (ltN hN rfl) (by rfl))
            (OpJs.cons (OpJ.skipU (ltN hN rfl) (by rfl))
            (OpJs.cons (OpJ.skipU (ltN hN rfl) (by rfl))
            (OpJs.cons (OpJ.pickF (ltN hN rfl) (Opd.tmp 33 (.d (.bool false))) (Opd.bool false))
            (OpJs.cons (OpJ.assign (ltN hN rfl) (Opd.tmp 37 (.d (.bool false))))
            (OpJs.nil))))))))))))))))))))))))))))) (by rfl) (by rfl) ?_
          exact hjj11 _ h _ _ (Mat.trans (Mat.pat [] [(0, (.d (.bool false)))] [] hB (by rfl) (by rfl) (by rfl)) (Mat.pat [] ((fun m10 : Bool => ([(0, (.d (.bool m10)))] : EL)) false) ((fun m10 : Bool => ([] : OL)) false) hB (by rfl) (by rfl) (by rfl)))
      · replace h := ite_f hg14 h
        refine AWp.region (OpJs.cons (OpJ.move (ltN hN rfl) (Opd.tmp 2 (.d (.int .i64 r1.2))))
          (OpJs.cons (OpJ.eqlI (ltN hN rfl) (Opd.tmp 11 (.d (.int .i64 r1.2))) (Opd.int .i64 (0)))
          (OpJs.cons (OpJ.move (ltN hN rfl) (Opd.tmp 12 (.d (.bool (r1.2 == (0 : Int))))))
          (OpJs.cons (OpJ.opt' (v := (.d (.list 1 (r1.1.map (eI .i64))))) (OpJ.move (ltN hN rfl) (Opd.tmp 1 (.d (.list 1 (r1.1.map (eI .i64)))))) (by rfl) (GuardV.plain _) (ltN hN rfl) (by rfl) (by rfl) (by rfl) (by rfl) (OptL.keep rfl OptL.nil))
          (OpJs.cons (OpJ.opt' (v := (.d (.int .i64 (r1.1.length : Int)))) (OpJ.val (v' := (.d (.int .i64 (r1.1.length : Int)))) (by simp) (OpJ.lenD Try.underlying23 (ltN hN rfl) (Opd.tmp 14 (.d (.list 1 (r1.1.map (eI .i64))))))) (by rfl) (GuardV.plain _) (ltN hN rfl) (by rfl) (by rfl) (by rfl) (by rfl) (OptL.opt OptL.nil))
          (OpJs.cons (OpJ.opt' (v := (.d (.bool ((r1.1.length : Int) == (3 : Int))))) (OpJ.eqlI (ltN hN rfl) (Opd.tmp 15 (.d (.int .i64 (r1.1.length : Int)))) (Opd.int .i64 (3))) (by rfl) (GuardV.plain _) (ltN hN rfl) (by rfl) (by rfl) (by rfl) (by rfl) (OptL.opt OptL.nil))
          (OpJs.cons (OpJ.pickAnd rfl (ltN hN rfl) (Opd.tmp 13 (.d (.bool (r1.2 == (0 : Int))))) (Opd.tmp 16 (.opt ((r1.2 == (0 : Int)) == true) (.d (.bool ((r1.1.length : Int) == (3 : Int)))))))
          (OpJs.cons (OpJ.val (v' := .d (.bool true)) (by rw [hg12]) (OpJ.move (ltN hN rfl) (Opd.tmp 17 (.d (.bool ((r1.2 == (0 : Int)) && ((r1.1.length : Int) == (3 : Int))))))))
          (OpJs.cons (OpJ.guarded (by rfl) (OpJ.move (ltN hN rfl) (Opd.tmp 1 (.d (.list 1 (r1.1.map (eI .i64)))))))
          (OpJs.cons (OpJ.guarded (by rfl) (OpJ.indexD (el := (.int .i64 x13)) Try.underlying23 tyS3 (idx_some hx13).1 (get_map (eI .i64) (idx_some hx13).2) (ltN hN rfl) (Opd.tmp 19 (.d (.list 1 (r1.1.map (eI .i64))))) (Opd.int .i64 (2))))
          (OpJs.cons (OpJ.guarded (by rfl) (OpJ.loadD tyS3 (by rfl) (by rfl) (ltN hN rfl) (Opd.tmp 20 (.dptr (.int .i64 x13)))))
          (OpJs.cons (OpJ.guarded (by rfl) (OpJ.eqlI (ltN hN rfl) (Opd.tmp 21 (.d (.int .i64 x13))) (Opd.int .i64 (9))))
          (OpJs.cons (OpJ.pickT (ltN hN rfl) (Opd.tmp 18 (.d (.bool true))) (Opd.tmp 22 (.d (.bool (x13 == (9 : Int))))))
          (OpJs.cons (OpJ.val (v' := .d (.bool false)) (by rw [hg14]) (OpJ.move (ltN hN rfl) (Opd.tmp 23 (.d (.bool (x13 == (9 : Int)))))))
          (OpJs.cons (OpJ.skipU (ltN hN rfl) (by rfl))
          (OpJs.cons (OpJ.skipU (ltN hN rfl) (by rfl))
          (OpJs.cons (OpJ.pickF (ltN hN rfl) (Opd.tmp 24 (.d (.bool false))) (Opd.bool false))
          (OpJs.cons (OpJ.move (ltN hN rfl) (Opd.tmp 27 (.d (.bool false))))
          (OpJs.cons (OpJ.skipU (ltN hN rfl) (by rfl))
          (OpJs.cons (OpJ.skipU (ltN hN rfl) (by rfl))
          (OpJs.cons (OpJ.skipU (ltN hN rfl) (by rfl))
          (OpJs.cons (OpJ.pickF (ltN hN rfl) (Opd.tmp 28 (.d (.bool false))) (Opd.bool false))
          (OpJs.cons (OpJ.move (ltN hN rfl) (Opd.tmp 32 (.d (.bool false))))
          (OpJs.cons (OpJ.skipU (ltN hN rfl) (by rfl))
          (OpJs.cons (OpJ.skipU (ltN hN rfl) (by rfl))
          (OpJs.cons (OpJ.skipU (ltN hN rfl) (by rfl))
          (OpJs.cons (OpJ.pickF (ltN hN rfl) (Opd.tmp 33 (.d (.bool false))) (Opd.bool false))
          (OpJs.cons (OpJ.assign (ltN hN rfl) (Opd.tmp 37 (.d (.bool false))))
          (OpJs.nil))))))))))))))))))))))))))))) (by rfl) (by rfl) ?_
        exact hjj11 _ h _ _ (Mat.trans (Mat.pat [] [(0, (.d (.bool false)))] [] hB (by rfl) (by rfl) (by rfl)) (Mat.pat [] ((fun m10 : Bool => ([(0, (.d (.bool m10)))] : EL)) false) ((fun m10 : Bool => ([] : OL)) false) hB (by rfl) (by rfl) (by rfl)))
    · replace h := ite_f hg12 h
      refine AWp.region (OpJs.cons (OpJ.move (ltN hN rfl) (Opd.tmp 2 (.d (.int .i64 r1.2))))
        (OpJs.cons (OpJ.eqlI (ltN hN rfl) (Opd.tmp 11 (.d (.int .i64 r1.2))) (Opd.int .i64 (0)))
        (OpJs.cons (OpJ.move (ltN hN rfl) (Opd.tmp 12 (.d (.bool (r1.2 == (0 : Int))))))
        (OpJs.cons (OpJ.opt' (v := (.d (.list 1 (r1.1.map (eI .i64))))) (OpJ.move (ltN hN rfl) (Opd.tmp 1 (.d (.list 1 (r1.1.map (eI .i64)))))) (by rfl) (GuardV.plain _) (ltN hN rfl) (by rfl) (by rfl) (by rfl) (by rfl) (OptL.keep rfl OptL.nil))
        (OpJs.cons (OpJ.opt' (v := (.d (.int .i64 (r1.1.length : Int)))) (OpJ.val (v' := (.d (.int .i64 (r1.1.length : Int)))) (by simp) (OpJ.lenD Try.underlying23 (ltN hN rfl) (Opd.tmp 14 (.d (.list 1 (r1.1.map (eI .i64))))))) (by rfl) (GuardV.plain _) (ltN hN rfl) (by rfl) (by rfl) (by rfl) (by rfl) (OptL.opt OptL.nil))
        (OpJs.cons (OpJ.opt' (v := (.d (.bool ((r1.1.length : Int) == (3 : Int))))) (OpJ.eqlI (ltN hN rfl) (Opd.tmp 15 (.d (.int .i64 (r1.1.length : Int)))) (Opd.int .i64 (3))) (by rfl) (GuardV.plain _) (ltN hN rfl) (by rfl) (by rfl) (by rfl) (by rfl) (OptL.opt OptL.nil))
        (OpJs.cons (OpJ.pickAnd rfl (ltN hN rfl) (Opd.tmp 13 (.d (.bool (r1.2 == (0 : Int))))) (Opd.tmp 16 (.opt ((r1.2 == (0 : Int)) == true) (.d (.bool ((r1.1.length : Int) == (3 : Int)))))))
        (OpJs.cons (OpJ.val (v' := .d (.bool false)) (by rw [hg12]) (OpJ.move (ltN hN rfl) (Opd.tmp 17 (.d (.bool ((r1.2 == (0 : Int)) && ((r1.1.length : Int) == (3 : Int))))))))
        (OpJs.cons (OpJ.skipU (ltN hN rfl) (by rfl))
        (OpJs.cons (OpJ.skipU (ltN hN rfl) (by rfl))
        (OpJs.cons (OpJ.skipU (ltN hN rfl) (by rfl))
        (OpJs.cons (OpJ.skipU (ltN hN rfl) (by rfl))
        (OpJs.cons (OpJ.pickF (ltN hN rfl) (Opd.tmp 18 (.d (.bool false))) (Opd.bool false))
        (OpJs.cons (OpJ.move (ltN hN rfl) (Opd.tmp 23 (.d (.bool false))))
        (OpJs.cons (OpJ.skipU (ltN hN rfl) (by rfl))
        (OpJs.cons (OpJ.skipU (ltN hN rfl) (by rfl))
        (OpJs.cons (OpJ.pickF (ltN hN rfl) (Opd.tmp 24 (.d (.bool false))) (Opd.bool false))
        (OpJs.cons (OpJ.move (ltN hN rfl) (Opd.tmp 27 (.d (.bool false))))
        (OpJs.cons (OpJ.skipU (ltN hN rfl) (by rfl))
        (OpJs.cons (OpJ.skipU (ltN hN rfl) (by rfl))
        (OpJs.cons (OpJ.skipU (ltN hN rfl) (by rfl))
        (OpJs.cons (OpJ.pickF (ltN hN rfl) (Opd.tmp 28 (.d (.bool false))) (Opd.bool false))
        (OpJs.cons (OpJ.move (ltN hN rfl) (Opd.tmp 32 (.d (.bool false))))
        (OpJs.cons (OpJ.skipU (ltN hN rfl) (by rfl))
        (OpJs.cons (OpJ.skipU (ltN hN rfl) (by rfl))
        (OpJs.cons (OpJ.skipU (ltN hN rfl) (by rfl))
        (OpJs.cons (OpJ.pickF (ltN hN rfl) (Opd.tmp 33 (.d (.bool false))) (Opd.bool false))
        (OpJs.cons (OpJ.assign (ltN hN rfl) (Opd.tmp 37 (.d (.bool false))))
        (OpJs.nil))))))))))))))))))))))))))))) (by rfl) (by rfl) ?_
      exact hjj11 _ h _ _ (Mat.trans (Mat.pat [] [(0, (.d (.bool false)))] [] hB (by rfl) (by rfl) (by rfl)) (Mat.pat [] ((fun m10 : Bool => ([(0, (.d (.bool m10)))] : EL)) false) ((fun m10 : Bool => ([] : OL)) false) hB (by rfl) (by rfl) (by rfl)))

noncomputable def exchangepointlaw37_SamplePicks_L0 (a0 : Int) (a1 : Int) (a2 : Int) (r1 : Int) (r2 : Int) (r3 : Int) (r4 : Int) (r5 : Int) (s6 : Int) : Option (((Unit) ⊕ (Unit)) ⊕ (Int)) :=
  (if (decide (s6 < (([([a0, a1, a2] : List Int), ([r2, (w64 ((1 : Int) + r1)), (w64 (r3 - (1 : Int)))] : List Int), ([r4, (1048576 : Int), r5] : List Int)] : List (List Int)).length : Int))) = true then
  (idx ([([a0, a1, a2] : List Int), ([r2, (w64 ((1 : Int) + r1)), (w64 (r3 - (1 : Int)))] : List Int), ([r4, (1048576 : Int), r5] : List Int)] : List (List Int)) s6).bind fun x44 =>
  (idx x44 (0 : Int)).bind fun x45 =>
  (idx x44 (1 : Int)).bind fun x46 =>
  (idx x44 (2 : Int)).bind fun x47 =>
  (sample_Pick x45 x46 x47).bind fun r48 =>
  (idx x44 (0 : Int)).bind fun x49 =>
  (idx x44 (1 : Int)).bind fun x50 =>
  (idx x44 (2 : Int)).bind fun x51 =>
  (exchangepointref37_Pick x49 x50 x51).bind fun r52 =>
  jn (fun m55 : Bool =>
  (if m55 = true then
  some (.inl (.inl ()))
  else
  some (.inr (w64 (s6 + (1 : Int)))))) (fun j56 =>
  (if (r48.2 != r52.2) = true then
  j56 true
  else
  (exchangepointref23_SameInts r48.1 r52.1).bind fun r59 =>
  j56 (!r59)))
  else
  some (.inl (.inr ())))
noncomputable def exchangepointlaw37_SamplePicks (a0 : Int) (a1 : Int) (a2 : Int) : Option (Bool) :=
  (exchangepointmill_Mod a1 (50 : Int)).bind fun r1 =>
  (exchangepointmill_Mod a0 (300 : Int)).bind fun r2 =>
  (exchangepointmill_Mod a2 (w64 ((w64 ((1 : Int) + r1)) + (2 : Int)))).bind fun r3 =>
  (exchangepointmill_Mod a0 (1073741824 : Int)).bind fun r4 =>
  (exchangepointmill_Mod a2 (1048576 : Int)).bind fun r5 =>
  (loop (exchangepointlaw37_SamplePicks_L0 a0 a1 a2 r1 r2 r3 r4 r5) (0 : Int)).bind fun x60 => match x60 with
  | (.inl _) =>
    some false
  | (.inr _) =>
    (exchangepointlaw37_awake).bind fun r62 =>
    some r62
set_option maxHeartbeats 4000000 in
set_option maxRecDepth 100000 in
theorem exchangepointlaw37_SamplePicks_ac (a0 : Int) (a1 : Int) (a2 : Int) (r : Bool) (h : exchangepointlaw37_SamplePicks a0 a1 a2 = some r) : AC Try.prog 3 [(.d (.int .i64 a0)), (.d (.int .i64 a1)), (.d (.int .i64 a2))] [] (.d (.bool r)) [] := by
  refine AC.of_code2 Try.func3 rfl rfl (Nat.le_of_ble_eq_true (by rfl)) fun B hB hN => ?_
  delta exchangepointlaw37_SamplePicks at h
  refine AWp.seq ?_
  refine AWp.region (OpJs.cons (OpJ.assign (ltN hN rfl) (Opd.bool false))
  (OpJs.nil)) (by rfl) (by rfl) ?_
  refine seqQ_n ?_
  refine AWp.ghost (Mat.pat [] [(0, (.d (.int .i64 a0))), (1, (.d (.int .i64 a1))), (2, (.d (.int .i64 a2)))] [] hB (by rfl) (by rfl) (by rfl)) ?_
  refine AWp.seq ?_
  obtain ⟨r1, hr1, h⟩ := bindS h
  refine AWp.region (OpJs.cons (OpJ.move (ltN hN rfl) (Opd.tmp 1 (.d (.int .i64 a1))))
  (OpJs.cons (OpJ.callFn hB fnOk7 (exchangepointmill_Mod_ac a1 (50 : Int) r1 hr1) [] (by kernel_rfl) (ltN hN rfl) (by kernel_rfl) (OpdL.cons (Opd.tmp 14 (.d (.int .i64 a1))) (OpdL.cons (Opd.int .i64 (50)) OpdL.nil)))
  (OpJs.cons (OpJ.add (ltN hN rfl) (Opd.int .i64 (1)) (Opd.tmp 15 (.d (.int .i64 r1))))
  (OpJs.cons (OpJ.assign (ltN hN rfl) (Opd.tmp 16 (.d (.int .i64 (w64 ((1 : Int) + r1))))))
  (OpJs.nil))))) (by rfl) (by rfl) ?_
  refine seqQ_n ?_
  refine AWp.ghost (Mat.pat [] [(0, (.d (.int .i64 a0))), (1, (.d (.int .i64 a1))), (2, (.d (.int .i64 a2))), (7, (.d (.int .i64 (w64 ((1 : Int) + r1)))))] [] hB (by rfl) (by rfl) (by rfl)) ?_
  refine AWp.seq ?_
  refine AWp.seq ?_
  obtain ⟨r2, hr2, h⟩ := bindS h
  obtain ⟨r3, hr3, h⟩ := bindS h
  obtain ⟨r4, hr4, h⟩ := bindS h
  obtain ⟨r5, hr5, h⟩ := bindS h
  refine AWp.region (OpJs.cons (OpJ.move (ltN hN rfl) (Opd.tmp 0 (.d (.int .i64 a0))))
  (OpJs.cons (OpJ.move (ltN hN rfl) (Opd.tmp 1 (.d (.int .i64 a1))))
  (OpJs.cons (OpJ.move (ltN hN rfl) (Opd.tmp 2 (.d (.int .i64 a2))))
  (OpJs.cons (OpJ.buildSlice Try.underlying23 tyS3 tyZD3 (by rfl) (by decide) (by decide) (Opds.cons (Opd.tmp 17 (.d (.int .i64 a0))) (Opds.cons (Opd.tmp 18 (.d (.int .i64 a1))) (Opds.cons (Opd.tmp 19 (.d (.int .i64 a2))) Opds.nil))) (by kernel_rfl) (es := ([(.int .i64 a0), (.int .i64 a1), (.int .i64 a2)] : List D)) (by rfl) (by rfl) (by kernel_rfl) (by simp) (ltN hN rfl))
  (OpJs.cons (OpJ.move (ltN hN rfl) (Opd.tmp 0 (.d (.int .i64 a0))))
  (OpJs.cons (OpJ.callFn hB fnOk7 (exchangepointmill_Mod_ac a0 (300 : Int) r2 hr2) [] (by kernel_rfl) (ltN hN rfl) (by kernel_rfl) (OpdL.cons (Opd.tmp 21 (.d (.int .i64 a0))) (OpdL.cons (Opd.int .i64 (300)) OpdL.nil)))
  (OpJs.cons (OpJ.move (ltN hN rfl) (Opd.tmp 7 (.d (.int .i64 (w64 ((1 : Int) + r1))))))
  (OpJs.cons (OpJ.move (ltN hN rfl) (Opd.tmp 2 (.d (.int .i64 a2))))
  (OpJs.cons (OpJ.move (ltN hN rfl) (Opd.tmp 7 (.d (.int .i64 (w64 ((1 : Int) + r1))))))
  (OpJs.cons (OpJ.add (ltN hN rfl) (Opd.tmp 25 (.d (.int .i64 (w64 ((1 : Int) + r1))))) (Opd.int .i64 (2)))
  (OpJs.cons (OpJ.callFn hB fnOk7 (exchangepointmill_Mod_ac a2 (w64 ((w64 ((1 : Int) + r1)) + (2 : Int))) r3 hr3) [] (by kernel_rfl) (ltN hN rfl) (by kernel_rfl) (OpdL.cons (Opd.tmp 24 (.d (.int .i64 a2))) (OpdL.cons (Opd.tmp 26 (.d (.int .i64 (w64 ((w64 ((1 : Int) + r1)) + (2 : Int)))))) OpdL.nil)))
  (OpJs.cons (OpJ.sub (ltN hN rfl) (Opd.tmp 27 (.d (.int .i64 r3))) (Opd.int .i64 (1)))
  (OpJs.cons (OpJ.buildSlice Try.underlying23 tyS3 tyZD3 (by rfl) (by decide) (by decide) (Opds.cons (Opd.tmp 22 (.d (.int .i64 r2))) (Opds.cons (Opd.tmp 23 (.d (.int .i64 (w64 ((1 : Int) + r1))))) (Opds.cons (Opd.tmp 28 (.d (.int .i64 (w64 (r3 - (1 : Int)))))) Opds.nil))) (by kernel_rfl) (es := ([(.int .i64 r2), (.int .i64 (w64 ((1 : Int) + r1))), (.int .i64 (w64 (r3 - (1 : Int))))] : List D)) (by rfl) (by rfl) (by kernel_rfl) (by simp) (ltN hN rfl))
  (OpJs.cons (OpJ.move (ltN hN rfl) (Opd.tmp 0 (.d (.int .i64 a0))))
  (OpJs.cons (OpJ.callFn hB fnOk7 (exchangepointmill_Mod_ac a0 (1073741824 : Int) r4 hr4) [] (by kernel_rfl) (ltN hN rfl) (by kernel_rfl) (OpdL.cons (Opd.tmp 30 (.d (.int .i64 a0))) (OpdL.cons (Opd.int .i64 (1073741824)) OpdL.nil)))
  (OpJs.cons (OpJ.move (ltN hN rfl) (Opd.tmp 2 (.d (.int .i64 a2))))
  (OpJs.cons (OpJ.callFn hB fnOk7 (exchangepointmill_Mod_ac a2 (1048576 : Int) r5 hr5) [] (by kernel_rfl) (ltN hN rfl) (by kernel_rfl) (OpdL.cons (Opd.tmp 32 (.d (.int .i64 a2))) (OpdL.cons (Opd.int .i64 (1048576)) OpdL.nil)))
  (OpJs.cons (OpJ.buildSlice Try.underlying23 tyS3 tyZD3 (by rfl) (by decide) (by decide) (Opds.cons (Opd.tmp 31 (.d (.int .i64 r4))) (Opds.cons (Opd.int .i64 (1048576)) (Opds.cons (Opd.tmp 33 (.d (.int .i64 r5))) Opds.nil))) (by kernel_rfl) (es := ([(.int .i64 r4), (.int .i64 (1048576 : Int)), (.int .i64 r5)] : List D)) (by rfl) (by rfl) (by kernel_rfl) (by simp) (ltN hN rfl))
  (OpJs.cons (OpJ.buildSlice Try.underlying24 tyS23 tyZD23 (by rfl) (by decide) (by decide) (Opds.cons (Opd.tmp 20 (.d (.list 1 (([a0, a1, a2] : List Int).map (eI .i64))))) (Opds.cons (Opd.tmp 29 (.d (.list 1 (([r2, (w64 ((1 : Int) + r1)), (w64 (r3 - (1 : Int)))] : List Int).map (eI .i64))))) (Opds.cons (Opd.tmp 34 (.d (.list 1 (([r4, (1048576 : Int), r5] : List Int).map (eI .i64))))) Opds.nil))) (by kernel_rfl) (es := ([(.list 1 (([a0, a1, a2] : List Int).map (eI .i64))), (.list 1 (([r2, (w64 ((1 : Int) + r1)), (w64 (r3 - (1 : Int)))] : List Int).map (eI .i64))), (.list 1 (([r4, (1048576 : Int), r5] : List Int).map (eI .i64)))] : List D)) (by rfl) (by rfl) (by kernel_rfl) (by simp) (ltN hN rfl))
  (OpJs.cons (OpJ.val (v' := (.d (.int .i64 (([([a0, a1, a2] : List Int), ([r2, (w64 ((1 : Int) + r1)), (w64 (r3 - (1 : Int)))] : List Int), ([r4, (1048576 : Int), r5] : List Int)] : List (List Int)).length : Int)))) (by simp) (OpJ.lenD Try.underlying24 (ltN hN rfl) (Opd.tmp 35 (.d (.list 1 (([([a0, a1, a2] : List Int), ([r2, (w64 ((1 : Int) + r1)), (w64 (r3 - (1 : Int)))] : List Int), ([r4, (1048576 : Int), r5] : List Int)] : List (List Int)).map e_LeIi64))))))
  (OpJs.cons (OpJ.move (ltN hN rfl) (Opd.int .i64 (0)))
  (OpJs.nil)))))))))))))))))))))) (by rfl) (by rfl) ?_
  refine seqQ_n ?_
  refine AWp.ghost (Mat.pat [] [(35, (.d (.list 1 (([([a0, a1, a2] : List Int), ([r2, (w64 ((1 : Int) + r1)), (w64 (r3 - (1 : Int)))] : List Int), ([r4, (1048576 : Int), r5] : List Int)] : List (List Int)).map e_LeIi64)))), (36, (.d (.int .i64 (([([a0, a1, a2] : List Int), ([r2, (w64 ((1 : Int) + r1)), (w64 (r3 - (1 : Int)))] : List Int), ([r4, (1048576 : Int), r5] : List Int)] : List (List Int)).length : Int)))), (37, (.d (.int .i64 (0 : Int))))] [] hB (by rfl) (by rfl) (by rfl)) ?_
  refine AWp.block ?_
  obtain ⟨x60, hx61, h⟩ := bindS h
  refine AWp.ghost (Mat.pat [] ((fun s6 : Int => ([(35, (.d (.list 1 (([([a0, a1, a2] : List Int), ([r2, (w64 ((1 : Int) + r1)), (w64 (r3 - (1 : Int)))] : List Int), ([r4, (1048576 : Int), r5] : List Int)] : List (List Int)).map e_LeIi64)))), (36, (.d (.int .i64 (([([a0, a1, a2] : List Int), ([r2, (w64 ((1 : Int) + r1)), (w64 (r3 - (1 : Int)))] : List Int), ([r4, (1048576 : Int), r5] : List Int)] : List (List Int)).length : Int)))), (37, (.d (.int .i64 s6)))] : EL)) (0 : Int)) ((fun s6 : Int => ([] : OL)) (0 : Int)) hB (by rfl) (by rfl) (by rfl)) ?_
  refine AWp.loopS (exchangepointlaw37_SamplePicks_L0 a0 a1 a2 r1 r2 r3 r4 r5) (fun s6 : Int => ([(35, (.d (.list 1 (([([a0, a1, a2] : List Int), ([r2, (w64 ((1 : Int) + r1)), (w64 (r3 - (1 : Int)))] : List Int), ([r4, (1048576 : Int), r5] : List Int)] : List (List Int)).map e_LeIi64)))), (36, (.d (.int .i64 (([([a0, a1, a2] : List Int), ([r2, (w64 ((1 : Int) + r1)), (w64 (r3 - (1 : Int)))] : List Int), ([r4, (1048576 : Int), r5] : List Int)] : List (List Int)).length : Int)))), (37, (.d (.int .i64 s6)))] : EL)) (fun s6 : Int => ([] : OL)) (fun (x : (Unit) ⊕ (Unit)) e E' O' => match x with | (.inl _p) => e = .ret ∧ Mat B E' O' ([(6, (.d (.bool false)))] : EL) ([] : OL) | (.inr _p) => e = .exit 0 ∧ Mat B E' O' ([] : EL) ([] : OL)) hx61 (fun s6 y h => ?_) (fun e E' O' hR => ?_)
  · unfold exchangepointlaw37_SamplePicks_L0 at h
    show AWp _ _ _ _ ([(35, (.d (.list 1 (([([a0, a1, a2] : List Int), ([r2, (w64 ((1 : Int) + r1)), (w64 (r3 - (1 : Int)))] : List Int), ([r4, (1048576 : Int), r5] : List Int)] : List (List Int)).map e_LeIi64)))), (36, (.d (.int .i64 (([([a0, a1, a2] : List Int), ([r2, (w64 ((1 : Int) + r1)), (w64 (r3 - (1 : Int)))] : List Int), ([r4, (1048576 : Int), r5] : List Int)] : List (List Int)).length : Int)))), (37, (.d (.int .i64 s6)))] : EL) ([] : OL)
    refine AWp.seq ?_
    refine AWp.region (OpJs.cons (OpJ.lss (ltN hN rfl) (Opd.tmp 37 (.d (.int .i64 s6))) (Opd.tmp 36 (.d (.int .i64 (([([a0, a1, a2] : List Int), ([r2, (w64 ((1 : Int) + r1)), (w64 (r3 - (1 : Int)))] : List Int), ([r4, (1048576 : Int), r5] : List Int)] : List (List Int)).length : Int)))))
      (OpJs.nil)) (by rfl) (by rfl) ?_
    refine seqQ_n ?_
    refine AWp.ghost (Mat.pat [] [(35, (.d (.list 1 (([([a0, a1, a2] : List Int), ([r2, (w64 ((1 : Int) + r1)), (w64 (r3 - (1 : Int)))] : List Int), ([r4, (1048576 : Int), r5] : List Int)] : List (List Int)).map e_LeIi64)))), (36, (.d (.int .i64 (([([a0, a1, a2] : List Int), ([r2, (w64 ((1 : Int) + r1)), (w64 (r3 - (1 : Int)))] : List Int), ([r4, (1048576 : Int), r5] : List Int)] : List (List Int)).length : Int)))), (37, (.d (.int .i64 s6))), (38, (.d (.bool (decide (s6 < (([([a0, a1, a2] : List Int), ([r2, (w64 ((1 : Int) + r1)), (w64 (r3 - (1 : Int)))] : List Int), ([r4, (1048576 : Int), r5] : List Int)] : List (List Int)).length : Int))))))] [] hB (by rfl) (by rfl) (by rfl)) ?_
    refine AWp.seq ?_
    refine AWp.cond (b := (decide (s6 < (([([a0, a1, a2] : List Int), ([r2, (w64 ((1 : Int) + r1)), (w64 (r3 - (1 : Int)))] : List Int), ([r4, (1048576 : Int), r5] : List Int)] : List (List Int)).length : Int)))) (by rfl) (fun hg43 => ?_) (fun hg43 => ?_)
    · replace h := ite_t hg43 h
      refine AWp.skip ?_
      refine seqQ_n ?_
      refine AWp.seq ?_
      refine AWp.block ?_
      refine AWp.seq ?_
      obtain ⟨x44, hx44, h⟩ := bindS h
      refine AWp.region (OpJs.cons (OpJ.indexD (el := (.list 1 (x44.map (eI .i64)))) Try.underlying24 tyS23 (idx_some hx44).1 (get_map e_LeIi64 (idx_some hx44).2) (ltN hN rfl) (Opd.tmp 35 (.d (.list 1 (([([a0, a1, a2] : List Int), ([r2, (w64 ((1 : Int) + r1)), (w64 (r3 - (1 : Int)))] : List Int), ([r4, (1048576 : Int), r5] : List Int)] : List (List Int)).map e_LeIi64)))) (Opd.tmp 37 (.d (.int .i64 s6))))
        (OpJs.cons (OpJ.loadD tyS23 (by rfl) (by rfl) (ltN hN rfl) (Opd.tmp 39 (.dptr (.list 1 (x44.map (eI .i64))))))
        (OpJs.cons (OpJ.assign (ltN hN rfl) (Opd.tmp 40 (.d (.list 1 (x44.map (eI .i64))))))
        (OpJs.nil)))) (by rfl) (by rfl) ?_
      refine seqQ_n ?_
      refine AWp.ghost (Mat.pat [] [(9, (.d (.list 1 (x44.map (eI .i64))))), (35, (.d (.list 1 (([([a0, a1, a2] : List Int), ([r2, (w64 ((1 : Int) + r1)), (w64 (r3 - (1 : Int)))] : List Int), ([r4, (1048576 : Int), r5] : List Int)] : List (List Int)).map e_LeIi64)))), (36, (.d (.int .i64 (([([a0, a1, a2] : List Int), ([r2, (w64 ((1 : Int) + r1)), (w64 (r3 - (1 : Int)))] : List Int), ([r4, (1048576 : Int), r5] : List Int)] : List (List Int)).length : Int)))), (37, (.d (.int .i64 s6)))] [] hB (by rfl) (by rfl) (by rfl)) ?_
      refine AWp.seq ?_
      obtain ⟨x45, hx45, h⟩ := bindS h
      obtain ⟨x46, hx46, h⟩ := bindS h
      obtain ⟨x47, hx47, h⟩ := bindS h
      obtain ⟨r48, hr48, h⟩ := bindS h
      refine AWp.draws (by kernel_rfl) (OpJs.cons (OpJ.move (ltN hN rfl) (Opd.tmp 9 (.d (.list 1 (x44.map (eI .i64))))))
        (OpJs.cons (OpJ.indexD (el := (.int .i64 x45)) Try.underlying23 tyS3 (idx_some hx45).1 (get_map (eI .i64) (idx_some hx45).2) (ltN hN rfl) (Opd.tmp 42 (.d (.list 1 (x44.map (eI .i64))))) (Opd.int .i64 (0)))
        (OpJs.cons (OpJ.loadD tyS3 (by rfl) (by rfl) (ltN hN rfl) (Opd.tmp 43 (.dptr (.int .i64 x45))))
        (OpJs.cons (OpJ.move (ltN hN rfl) (Opd.tmp 9 (.d (.list 1 (x44.map (eI .i64))))))
        (OpJs.cons (OpJ.indexD (el := (.int .i64 x46)) Try.underlying23 tyS3 (idx_some hx46).1 (get_map (eI .i64) (idx_some hx46).2) (ltN hN rfl) (Opd.tmp 45 (.d (.list 1 (x44.map (eI .i64))))) (Opd.int .i64 (1)))
        (OpJs.cons (OpJ.loadD tyS3 (by rfl) (by rfl) (ltN hN rfl) (Opd.tmp 46 (.dptr (.int .i64 x46))))
        (OpJs.cons (OpJ.move (ltN hN rfl) (Opd.tmp 9 (.d (.list 1 (x44.map (eI .i64))))))
        (OpJs.cons (OpJ.indexD (el := (.int .i64 x47)) Try.underlying23 tyS3 (idx_some hx47).1 (get_map (eI .i64) (idx_some hx47).2) (ltN hN rfl) (Opd.tmp 48 (.d (.list 1 (x44.map (eI .i64))))) (Opd.int .i64 (2)))
        (OpJs.cons (OpJ.loadD tyS3 (by rfl) (by rfl) (ltN hN rfl) (Opd.tmp 49 (.dptr (.int .i64 x47))))
        (OpJs.cons (OpJ.callFn hB fnOk8 (sample_Pick_ac x45 x46 x47 r48 hr48) [] (by kernel_rfl) (ltN hN rfl) (by kernel_rfl) (OpdL.cons (Opd.tmp 44 (.d (.int .i64 x45))) (OpdL.cons (Opd.tmp 47 (.d (.int .i64 x46))) (OpdL.cons (Opd.tmp 50 (.d (.int .i64 x47))) OpdL.nil))))
        (OpJs.cons (OpJ.move (ltN hN rfl) (Opd.tmp 51 (.tup [(.d (.list 1 (r48.1.map (eI .i64)))), (.d (.int .i64 r48.2))])))
        (OpJs.cons (OpJ.extract (v := (.d (.list 1 (r48.1.map (eI .i64))))) (by rfl) rfl (ltN hN rfl) (Opd.tmp 41 (.tup [(.d (.list 1 (r48.1.map (eI .i64)))), (.d (.int .i64 r48.2))])))
        (OpJs.cons (OpJ.extract (v := (.d (.int .i64 r48.2))) (by rfl) rfl (ltN hN rfl) (Opd.tmp 41 (.tup [(.d (.list 1 (r48.1.map (eI .i64)))), (.d (.int .i64 r48.2))])))
        (OpJs.cons (OpJ.assign (ltN hN rfl) (Opd.tmp 52 (.d (.list 1 (r48.1.map (eI .i64))))))
        (OpJs.cons (OpJ.assign (ltN hN rfl) (Opd.tmp 53 (.d (.int .i64 r48.2))))
        (OpJs.nil)))))))))))))))) (by kernel_rfl) (by rfl) (by rfl) ?_
      refine seqQ_n ?_
      refine AWp.ghost (Mat.pat [] [(9, (.d (.list 1 (x44.map (eI .i64))))), (10, (.d (.list 1 (r48.1.map (eI .i64))))), (11, (.d (.int .i64 r48.2))), (35, (.d (.list 1 (([([a0, a1, a2] : List Int), ([r2, (w64 ((1 : Int) + r1)), (w64 (r3 - (1 : Int)))] : List Int), ([r4, (1048576 : Int), r5] : List Int)] : List (List Int)).map e_LeIi64)))), (36, (.d (.int .i64 (([([a0, a1, a2] : List Int), ([r2, (w64 ((1 : Int) + r1)), (w64 (r3 - (1 : Int)))] : List Int), ([r4, (1048576 : Int), r5] : List Int)] : List (List Int)).length : Int)))), (37, (.d (.int .i64 s6)))] [] hB (by rfl) (by rfl) (by rfl)) ?_
      refine AWp.seq ?_
      obtain ⟨x49, hx49, h⟩ := bindS h
      obtain ⟨x50, hx50, h⟩ := bindS h
      obtain ⟨x51, hx51, h⟩ := bindS h
      obtain ⟨r52, hr52, h⟩ := bindS h
      refine AWp.draws (by kernel_rfl) (OpJs.cons (OpJ.move (ltN hN rfl) (Opd.tmp 9 (.d (.list 1 (x44.map (eI .i64))))))
        (OpJs.cons (OpJ.indexD (el := (.int .i64 x49)) Try.underlying23 tyS3 (idx_some hx49).1 (get_map (eI .i64) (idx_some hx49).2) (ltN hN rfl) (Opd.tmp 55 (.d (.list 1 (x44.map (eI .i64))))) (Opd.int .i64 (0)))
        (OpJs.cons (OpJ.loadD tyS3 (by rfl) (by rfl) (ltN hN rfl) (Opd.tmp 56 (.dptr (.int .i64 x49))))
        (OpJs.cons (OpJ.move (ltN hN rfl) (Opd.tmp 9 (.d (.list 1 (x44.map (eI .i64))))))
        (OpJs.cons (OpJ.indexD (el := (.int .i64 x50)) Try.underlying23 tyS3 (idx_some hx50).1 (get_map (eI .i64) (idx_some hx50).2) (ltN hN rfl) (Opd.tmp 58 (.d (.list 1 (x44.map (eI .i64))))) (Opd.int .i64 (1)))
        (OpJs.cons (OpJ.loadD tyS3 (by rfl) (by rfl) (ltN hN rfl) (Opd.tmp 59 (.dptr (.int .i64 x50))))
        (OpJs.cons (OpJ.move (ltN hN rfl) (Opd.tmp 9 (.d (.list 1 (x44.map (eI .i64))))))
        (OpJs.cons (OpJ.indexD (el := (.int .i64 x51)) Try.underlying23 tyS3 (idx_some hx51).1 (get_map (eI .i64) (idx_some hx51).2) (ltN hN rfl) (Opd.tmp 61 (.d (.list 1 (x44.map (eI .i64))))) (Opd.int .i64 (2)))
        (OpJs.cons (OpJ.loadD tyS3 (by rfl) (by rfl) (ltN hN rfl) (Opd.tmp 62 (.dptr (.int .i64 x51))))
        (OpJs.cons (OpJ.callFn hB fnOk9 (exchangepointref37_Pick_ac x49 x50 x51 r52 hr52) [] (by kernel_rfl) (ltN hN rfl) (by kernel_rfl) (OpdL.cons (Opd.tmp 57 (.d (.int .i64 x49))) (OpdL.cons (Opd.tmp 60 (.d (.int .i64 x50))) (OpdL.cons (Opd.tmp 63 (.d (.int .i64 x51))) OpdL.nil))))
        (OpJs.cons (OpJ.move (ltN hN rfl) (Opd.tmp 64 (.tup [(.d (.list 1 (r52.1.map (eI .i64)))), (.d (.int .i64 r52.2))])))
        (OpJs.cons (OpJ.extract (v := (.d (.list 1 (r52.1.map (eI .i64))))) (by rfl) rfl (ltN hN rfl) (Opd.tmp 54 (.tup [(.d (.list 1 (r52.1.map (eI .i64)))), (.d (.int .i64 r52.2))])))
        (OpJs.cons (OpJ.extract (v := (.d (.int .i64 r52.2))) (by rfl) rfl (ltN hN rfl) (Opd.tmp 54 (.tup [(.d (.list 1 (r52.1.map (eI .i64)))), (.d (.int .i64 r52.2))])))
        (OpJs.cons (OpJ.assign (ltN hN rfl) (Opd.tmp 65 (.d (.list 1 (r52.1.map (eI .i64))))))
        (OpJs.cons (OpJ.assign (ltN hN rfl) (Opd.tmp 66 (.d (.int .i64 r52.2))))
        (OpJs.nil)))))))))))))))) (by kernel_rfl) (by rfl) (by rfl) ?_
      refine seqQ_n ?_
      refine AWp.ghost (Mat.pat [] [(10, (.d (.list 1 (r48.1.map (eI .i64))))), (11, (.d (.int .i64 r48.2))), (12, (.d (.list 1 (r52.1.map (eI .i64))))), (13, (.d (.int .i64 r52.2))), (35, (.d (.list 1 (([([a0, a1, a2] : List Int), ([r2, (w64 ((1 : Int) + r1)), (w64 (r3 - (1 : Int)))] : List Int), ([r4, (1048576 : Int), r5] : List Int)] : List (List Int)).map e_LeIi64)))), (36, (.d (.int .i64 (([([a0, a1, a2] : List Int), ([r2, (w64 ((1 : Int) + r1)), (w64 (r3 - (1 : Int)))] : List Int), ([r4, (1048576 : Int), r5] : List Int)] : List (List Int)).length : Int)))), (37, (.d (.int .i64 s6)))] [] hB (by rfl) (by rfl) (by rfl)) ?_
      refine AWp.seq ?_
      refine AWp.cut h (fun m55 : Bool => ([(35, (.d (.list 1 (([([a0, a1, a2] : List Int), ([r2, (w64 ((1 : Int) + r1)), (w64 (r3 - (1 : Int)))] : List Int), ([r4, (1048576 : Int), r5] : List Int)] : List (List Int)).map e_LeIi64)))), (36, (.d (.int .i64 (([([a0, a1, a2] : List Int), ([r2, (w64 ((1 : Int) + r1)), (w64 (r3 - (1 : Int)))] : List Int), ([r4, (1048576 : Int), r5] : List Int)] : List (List Int)).length : Int)))), (37, (.d (.int .i64 s6))), (75, (.d (.bool m55)))] : EL)) (fun m55 : Bool => ([] : OL)) (fun m55 h E' O' hmat => ?_) (fun j56 hjj56 h => ?_)
      · refine seqQ_n ?_
        refine AWp.ghost hmat ?_
        refine AWp.cond (b := m55) (by rfl) (fun hg57 => ?_) (fun hg57 => ?_)
        · replace h := ite_t hg57 h
          refine AWp.seq ?_
          refine AWp.region (OpJs.cons (OpJ.assign (ltN hN rfl) (Opd.bool false))
            (OpJs.nil)) (by rfl) (by rfl) ?_
          refine seqQ_n ?_
          refine AWp.ghost (Mat.pat [] [(6, (.d (.bool false)))] [] hB (by rfl) (by rfl) (by rfl)) ?_
          refine AWp.ret ?_
          refine blkQ_r ?_
          refine seqQ_r ?_
          obtain rfl := Option.some.inj h
          exact ⟨(fun hc => by cases hc), rfl, (Mat.pat [] ((fun _ : Unit => ([(6, (.d (.bool false)))] : EL)) ()) ((fun _ : Unit => ([] : OL)) ()) hB (by rfl) (by rfl) (by rfl))⟩
        · replace h := ite_f hg57 h
          refine AWp.skip ?_
          refine blkQ_n ?_
          refine seqQ_n ?_
          refine AWp.region (OpJs.cons (OpJ.add (ltN hN rfl) (Opd.tmp 37 (.d (.int .i64 s6))) (Opd.int .i64 (1)))
            (OpJs.cons (OpJ.move (ltN hN rfl) (Opd.tmp 76 (.d (.int .i64 (w64 (s6 + (1 : Int)))))))
            (OpJs.nil))) (by rfl) (by rfl) ?_
          obtain rfl := Option.some.inj h
          exact ⟨rfl, (Mat.trans (Mat.pat [] [(35, (.d (.list 1 (([([a0, a1, a2] : List Int), ([r2, (w64 ((1 : Int) + r1)), (w64 (r3 - (1 : Int)))] : List Int), ([r4, (1048576 : Int), r5] : List Int)] : List (List Int)).map e_LeIi64)))), (36, (.d (.int .i64 (([([a0, a1, a2] : List Int), ([r2, (w64 ((1 : Int) + r1)), (w64 (r3 - (1 : Int)))] : List Int), ([r4, (1048576 : Int), r5] : List Int)] : List (List Int)).length : Int)))), (37, (.d (.int .i64 (w64 (s6 + (1 : Int))))))] [] hB (by rfl) (by rfl) (by rfl)) (Mat.pat [] ((fun s6 : Int => ([(35, (.d (.list 1 (([([a0, a1, a2] : List Int), ([r2, (w64 ((1 : Int) + r1)), (w64 (r3 - (1 : Int)))] : List Int), ([r4, (1048576 : Int), r5] : List Int)] : List (List Int)).map e_LeIi64)))), (36, (.d (.int .i64 (([([a0, a1, a2] : List Int), ([r2, (w64 ((1 : Int) + r1)), (w64 (r3 - (1 : Int)))] : List Int), ([r4, (1048576 : Int), r5] : List Int)] : List (List Int)).length : Int)))), (37, (.d (.int .i64 s6)))] : EL)) (w64 (s6 + (1 : Int)))) ((fun s6 : Int => ([] : OL)) (w64 (s6 + (1 : Int)))) hB (by rfl) (by rfl) (by rfl)))⟩
      · rcases Bool.eq_false_or_eq_true (r48.2 != r52.2) with hg58 | hg58
        · replace h := ite_t hg58 h
          refine AWp.region (OpJs.cons (OpJ.move (ltN hN rfl) (Opd.tmp 11 (.d (.int .i64 r48.2))))
            (OpJs.cons (OpJ.move (ltN hN rfl) (Opd.tmp 13 (.d (.int .i64 r52.2))))
            (OpJs.cons (OpJ.neqI (ltN hN rfl) (Opd.tmp 67 (.d (.int .i64 r48.2))) (Opd.tmp 68 (.d (.int .i64 r52.2))))
            (OpJs.cons (OpJ.val (v' := .d (.bool true)) (by rw [hg58]) (OpJ.move (ltN hN rfl) (Opd.tmp 69 (.d (.bool (r48.2 != r52.2))))))
            (OpJs.cons (OpJ.skipU (ltN hN rfl) (by rfl))
            (OpJs.cons (OpJ.skipU (ltN hN rfl) (by rfl))
            (OpJs.cons (OpJ.skipU (ltN hN rfl) (by rfl))
            (OpJs.cons (OpJ.skipU (ltN hN rfl) (by rfl))
            (OpJs.cons (OpJ.pickT (ltN hN rfl) (Opd.tmp 70 (.d (.bool true))) (Opd.bool true))
            (OpJs.nil)))))))))) (by rfl) (by rfl) ?_
          exact hjj56 _ h _ _ (Mat.trans (Mat.pat [] [(35, (.d (.list 1 (([([a0, a1, a2] : List Int), ([r2, (w64 ((1 : Int) + r1)), (w64 (r3 - (1 : Int)))] : List Int), ([r4, (1048576 : Int), r5] : List Int)] : List (List Int)).map e_LeIi64)))), (36, (.d (.int .i64 (([([a0, a1, a2] : List Int), ([r2, (w64 ((1 : Int) + r1)), (w64 (r3 - (1 : Int)))] : List Int), ([r4, (1048576 : Int), r5] : List Int)] : List (List Int)).length : Int)))), (37, (.d (.int .i64 s6))), (75, (.d (.bool true)))] [] hB (by rfl) (by rfl) (by rfl)) (Mat.pat [] ((fun m55 : Bool => ([(35, (.d (.list 1 (([([a0, a1, a2] : List Int), ([r2, (w64 ((1 : Int) + r1)), (w64 (r3 - (1 : Int)))] : List Int), ([r4, (1048576 : Int), r5] : List Int)] : List (List Int)).map e_LeIi64)))), (36, (.d (.int .i64 (([([a0, a1, a2] : List Int), ([r2, (w64 ((1 : Int) + r1)), (w64 (r3 - (1 : Int)))] : List Int), ([r4, (1048576 : Int), r5] : List Int)] : List (List Int)).length : Int)))), (37, (.d (.int .i64 s6))), (75, (.d (.bool m55)))] : EL)) true) ((fun m55 : Bool => ([] : OL)) true) hB (by rfl) (by rfl) (by rfl)))
        · replace h := ite_f hg58 h
          obtain ⟨r59, hr59, h⟩ := bindS h
          refine AWp.region (OpJs.cons (OpJ.move (ltN hN rfl) (Opd.tmp 11 (.d (.int .i64 r48.2))))
            (OpJs.cons (OpJ.move (ltN hN rfl) (Opd.tmp 13 (.d (.int .i64 r52.2))))
            (OpJs.cons (OpJ.neqI (ltN hN rfl) (Opd.tmp 67 (.d (.int .i64 r48.2))) (Opd.tmp 68 (.d (.int .i64 r52.2))))
            (OpJs.cons (OpJ.val (v' := .d (.bool false)) (by rw [hg58]) (OpJ.move (ltN hN rfl) (Opd.tmp 69 (.d (.bool (r48.2 != r52.2))))))
            (OpJs.cons (OpJ.guarded (by rfl) (OpJ.move (ltN hN rfl) (Opd.tmp 10 (.d (.list 1 (r48.1.map (eI .i64)))))))
            (OpJs.cons (OpJ.guarded (by rfl) (OpJ.move (ltN hN rfl) (Opd.tmp 12 (.d (.list 1 (r52.1.map (eI .i64)))))))
            (OpJs.cons (OpJ.guarded (by rfl) (OpJ.callFn hB fnOk10 (exchangepointref23_SameInts_ac r48.1 r52.1 r59 hr59) [] (by kernel_rfl) (ltN hN rfl) (by kernel_rfl) (OpdL.cons (Opd.tmp 71 (.d (.list 1 (r48.1.map (eI .i64))))) (OpdL.cons (Opd.tmp 72 (.d (.list 1 (r52.1.map (eI .i64))))) OpdL.nil))))
            (OpJs.cons (OpJ.guarded (by rfl) (OpJ.not (ltN hN rfl) (Opd.tmp 73 (.d (.bool r59)))))
            (OpJs.cons (OpJ.pickF (ltN hN rfl) (Opd.tmp 70 (.d (.bool false))) (Opd.tmp 74 (.d (.bool (!r59)))))
            (OpJs.nil)))))))))) (by rfl) (by rfl) ?_
          exact hjj56 _ h _ _ (Mat.trans (Mat.pat [] [(35, (.d (.list 1 (([([a0, a1, a2] : List Int), ([r2, (w64 ((1 : Int) + r1)), (w64 (r3 - (1 : Int)))] : List Int), ([r4, (1048576 : Int), r5] : List Int)] : List (List Int)).map e_LeIi64)))), (36, (.d (.int .i64 (([([a0, a1, a2] : List Int), ([r2, (w64 ((1 : Int) + r1)), (w64 (r3 - (1 : Int)))] : List Int), ([r4, (1048576 : Int), r5] : List Int)] : List (List Int)).length : Int)))), (37, (.d (.int .i64 s6))), (75, (.d (.bool (!r59))))] [] hB (by rfl) (by rfl) (by rfl)) (Mat.pat [] ((fun m55 : Bool => ([(35, (.d (.list 1 (([([a0, a1, a2] : List Int), ([r2, (w64 ((1 : Int) + r1)), (w64 (r3 - (1 : Int)))] : List Int), ([r4, (1048576 : Int), r5] : List Int)] : List (List Int)).map e_LeIi64)))), (36, (.d (.int .i64 (([([a0, a1, a2] : List Int), ([r2, (w64 ((1 : Int) + r1)), (w64 (r3 - (1 : Int)))] : List Int), ([r4, (1048576 : Int), r5] : List Int)] : List (List Int)).length : Int)))), (37, (.d (.int .i64 s6))), (75, (.d (.bool m55)))] : EL)) (!r59)) ((fun m55 : Bool => ([] : OL)) (!r59)) hB (by rfl) (by rfl) (by rfl)))
    · replace h := ite_f hg43 h
      refine AWp.exit ?_
      refine seqQ_e ?_
      obtain rfl := Option.some.inj h
      exact ⟨(fun hc => by cases hc), rfl, (Mat.pat [] ((fun _ : Unit => ([] : EL)) ()) ((fun _ : Unit => ([] : OL)) ()) hB (by rfl) (by rfl) (by rfl))⟩
  · rcases x60 with _ | _
    · obtain ⟨rfl, hmat⟩ := hR
      refine blkQ_r ?_
      refine seqQ_r ?_
      obtain rfl := Option.some.inj h
      exact ⟨.inl rfl, _, _, (Mat.trans hmat (Mat.pat [] [(6, (.d (.bool false)))] [] hB (by rfl) (by rfl) (by rfl))), [(.d (.bool false))], (Res.tmp (by rfl) (by rfl) Res.nil), rfl, by rfl, by rfl, by rfl⟩
    · obtain ⟨rfl, hmat⟩ := hR
      refine blkQ_hit ?_
      refine seqQ_n ?_
      refine AWp.ghost hmat ?_
      refine AWp.seq ?_
      obtain ⟨r62, hr62, h⟩ := bindS h
      refine AWp.region (OpJs.cons (OpJ.callFn hB fnOk11 (exchangepointlaw37_awake_ac  r62 hr62) [] (by kernel_rfl) (ltN hN rfl) (by kernel_rfl) OpdL.nil)
        (OpJs.cons (OpJ.assign (ltN hN rfl) (Opd.tmp 77 (.d (.bool r62))))
        (OpJs.nil))) (by rfl) (by rfl) ?_
      refine seqQ_n ?_
      refine AWp.ghost (Mat.pat [] [(6, (.d (.bool r62)))] [] hB (by rfl) (by rfl) (by rfl)) ?_
      refine AWp.ret ?_
      obtain rfl := Option.some.inj h
      exact ⟨.inl rfl, _, _, (Mat.pat [] [(6, (.d (.bool r62)))] [] hB (by rfl) (by rfl) (by rfl)), [(.d (.bool r62))], (Res.tmp (by rfl) (by rfl) Res.nil), rfl, by rfl, by rfl, by rfl⟩

noncomputable def exchangepointlaw37_SampleRatio_L0 (r1 : Int) (r2 : Int) (r4 : (List Int) × Int) (s6 : Int) : Option (((Unit) ⊕ (Unit)) ⊕ (Int)) :=
  (if (decide (s6 < (r4.1.length : Int))) = true then
  (idx r4.1 s6).bind fun x32 =>
  jn (fun m36 : Bool =>
  (if m36 = true then
  some (.inl (.inl ()))
  else
  some (.inr (w64 (s6 + (1 : Int)))))) (fun j37 =>
  (if ((decide (x32 < (0 : Int))) || (decide (r2 ≤ x32))) = true then
  j37 true
  else
  (if (decide ((0 : Int) < s6)) = true then
  (idx r4.1 (w64 (s6 - (1 : Int)))).bind fun x41 =>
  j37 ((w64 (x32 - x41)) != (w64 ((1 : Int) + r1)))
  else
  j37 false)))
  else
  some (.inl (.inr ())))
noncomputable def exchangepointlaw37_SampleRatio (a0 : Int) (a1 : Int) (a2 : Int) : Option (Bool) :=
  (exchangepointmill_Mod a1 (60 : Int)).bind fun r1 =>
  (exchangepointmill_Mod a0 (900 : Int)).bind fun r2 =>
  (exchangepointmill_Mod a2 (w64 ((1 : Int) + r1))).bind fun r3 =>
  (sample_Pick r2 (w64 ((1 : Int) + r1)) r3).bind fun r4 =>
  (if (r4.2 != (0 : Int)) = true then
  some false
  else
  (loop (exchangepointlaw37_SampleRatio_L0 r1 r2 r4) (0 : Int)).bind fun x42 => match x42 with
  | (.inl _) =>
    some false
  | (.inr _) =>
    jn (fun m46 : Bool =>
    some m46) (fun j47 =>
    (if ((decide ((w64 (0 - (w64 ((1 : Int) + r1)))) < (w64 ((w64 ((r4.1.length : Int) * (w64 ((1 : Int) + r1)))) - r2)))) && (decide ((w64 ((w64 ((r4.1.length : Int) * (w64 ((1 : Int) + r1)))) - r2)) < (w64 ((1 : Int) + r1))))) = true then
    (exchangepointlaw37_awake).bind fun r49 =>
    j47 r49
    else
    j47 false)))
set_option maxHeartbeats 4000000 in
set_option maxRecDepth 100000 in
theorem exchangepointlaw37_SampleRatio_ac (a0 : Int) (a1 : Int) (a2 : Int) (r : Bool) (h : exchangepointlaw37_SampleRatio a0 a1 a2 = some r) : AC Try.prog 4 [(.d (.int .i64 a0)), (.d (.int .i64 a1)), (.d (.int .i64 a2))] [] (.d (.bool r)) [] := by
  refine AC.of_code2 Try.func4 rfl rfl (Nat.le_of_ble_eq_true (by rfl)) fun B hB hN => ?_
  delta exchangepointlaw37_SampleRatio at h
  refine AWp.seq ?_
  refine AWp.region (OpJs.cons (OpJ.assign (ltN hN rfl) (Opd.bool false))
  (OpJs.nil)) (by rfl) (by rfl) ?_
  refine seqQ_n ?_
  refine AWp.ghost (Mat.pat [] [(0, (.d (.int .i64 a0))), (1, (.d (.int .i64 a1))), (2, (.d (.int .i64 a2)))] [] hB (by rfl) (by rfl) (by rfl)) ?_
  refine AWp.seq ?_
  obtain ⟨r1, hr1, h⟩ := bindS h
  refine AWp.region (OpJs.cons (OpJ.move (ltN hN rfl) (Opd.tmp 1 (.d (.int .i64 a1))))
  (OpJs.cons (OpJ.callFn hB fnOk7 (exchangepointmill_Mod_ac a1 (60 : Int) r1 hr1) [] (by kernel_rfl) (ltN hN rfl) (by kernel_rfl) (OpdL.cons (Opd.tmp 14 (.d (.int .i64 a1))) (OpdL.cons (Opd.int .i64 (60)) OpdL.nil)))
  (OpJs.cons (OpJ.add (ltN hN rfl) (Opd.int .i64 (1)) (Opd.tmp 15 (.d (.int .i64 r1))))
  (OpJs.cons (OpJ.assign (ltN hN rfl) (Opd.tmp 16 (.d (.int .i64 (w64 ((1 : Int) + r1))))))
  (OpJs.nil))))) (by rfl) (by rfl) ?_
  refine seqQ_n ?_
  refine AWp.ghost (Mat.pat [] [(0, (.d (.int .i64 a0))), (2, (.d (.int .i64 a2))), (7, (.d (.int .i64 (w64 ((1 : Int) + r1)))))] [] hB (by rfl) (by rfl) (by rfl)) ?_
  refine AWp.seq ?_
  obtain ⟨r2, hr2, h⟩ := bindS h
  refine AWp.region (OpJs.cons (OpJ.move (ltN hN rfl) (Opd.tmp 0 (.d (.int .i64 a0))))
  (OpJs.cons (OpJ.callFn hB fnOk7 (exchangepointmill_Mod_ac a0 (900 : Int) r2 hr2) [] (by kernel_rfl) (ltN hN rfl) (by kernel_rfl) (OpdL.cons (Opd.tmp 17 (.d (.int .i64 a0))) (OpdL.cons (Opd.int .i64 (900)) OpdL.nil)))
  (OpJs.cons (OpJ.assign (ltN hN rfl) (Opd.tmp 18 (.d (.int .i64 r2))))
  (OpJs.nil)))) (by rfl) (by rfl) ?_
  refine seqQ_n ?_
  refine AWp.ghost (Mat.pat [] [(2, (.d (.int .i64 a2))), (7, (.d (.int .i64 (w64 ((1 : Int) + r1))))), (8, (.d (.int .i64 r2)))] [] hB (by rfl) (by rfl) (by rfl)) ?_
  refine AWp.seq ?_
  obtain ⟨r3, hr3, h⟩ := bindS h
  obtain ⟨r4, hr4, h⟩ := bindS h
  refine AWp.region (OpJs.cons (OpJ.move (ltN hN rfl) (Opd.tmp 8 (.d (.int .i64 r2))))
  (OpJs.cons (OpJ.move (ltN hN rfl) (Opd.tmp 7 (.d (.int .i64 (w64 ((1 : Int) + r1))))))
  (OpJs.cons (OpJ.move (ltN hN rfl) (Opd.tmp 2 (.d (.int .i64 a2))))
  (OpJs.cons (OpJ.move (ltN hN rfl) (Opd.tmp 7 (.d (.int .i64 (w64 ((1 : Int) + r1))))))
  (OpJs.cons (OpJ.callFn hB fnOk7 (exchangepointmill_Mod_ac a2 (w64 ((1 : Int) + r1)) r3 hr3) [] (by kernel_rfl) (ltN hN rfl) (by kernel_rfl) (OpdL.cons (Opd.tmp 22 (.d (.int .i64 a2))) (OpdL.cons (Opd.tmp 23 (.d (.int .i64 (w64 ((1 : Int) + r1))))) OpdL.nil)))
  (OpJs.cons (OpJ.callFn hB fnOk8 (sample_Pick_ac r2 (w64 ((1 : Int) + r1)) r3 r4 hr4) [] (by kernel_rfl) (ltN hN rfl) (by kernel_rfl) (OpdL.cons (Opd.tmp 20 (.d (.int .i64 r2))) (OpdL.cons (Opd.tmp 21 (.d (.int .i64 (w64 ((1 : Int) + r1))))) (OpdL.cons (Opd.tmp 24 (.d (.int .i64 r3))) OpdL.nil))))
  (OpJs.cons (OpJ.move (ltN hN rfl) (Opd.tmp 25 (.tup [(.d (.list 1 (r4.1.map (eI .i64)))), (.d (.int .i64 r4.2))])))
  (OpJs.cons (OpJ.extract (v := (.d (.list 1 (r4.1.map (eI .i64))))) (by rfl) rfl (ltN hN rfl) (Opd.tmp 19 (.tup [(.d (.list 1 (r4.1.map (eI .i64)))), (.d (.int .i64 r4.2))])))
  (OpJs.cons (OpJ.extract (v := (.d (.int .i64 r4.2))) (by rfl) rfl (ltN hN rfl) (Opd.tmp 19 (.tup [(.d (.list 1 (r4.1.map (eI .i64)))), (.d (.int .i64 r4.2))])))
  (OpJs.cons (OpJ.assign (ltN hN rfl) (Opd.tmp 26 (.d (.list 1 (r4.1.map (eI .i64))))))
  (OpJs.cons (OpJ.assign (ltN hN rfl) (Opd.tmp 27 (.d (.int .i64 r4.2))))
  (OpJs.nil)))))))))))) (by rfl) (by rfl) ?_
  refine seqQ_n ?_
  refine AWp.ghost (Mat.pat [] [(7, (.d (.int .i64 (w64 ((1 : Int) + r1))))), (8, (.d (.int .i64 r2))), (9, (.d (.list 1 (r4.1.map (eI .i64))))), (10, (.d (.int .i64 r4.2)))] [] hB (by rfl) (by rfl) (by rfl)) ?_
  refine AWp.seq ?_
  refine AWp.seq ?_
  refine AWp.region (OpJs.cons (OpJ.move (ltN hN rfl) (Opd.tmp 10 (.d (.int .i64 r4.2))))
  (OpJs.cons (OpJ.neqI (ltN hN rfl) (Opd.tmp 28 (.d (.int .i64 r4.2))) (Opd.int .i64 (0)))
  (OpJs.nil))) (by rfl) (by rfl) ?_
  refine seqQ_n ?_
  refine AWp.ghost (Mat.pat [] [(7, (.d (.int .i64 (w64 ((1 : Int) + r1))))), (8, (.d (.int .i64 r2))), (9, (.d (.list 1 (r4.1.map (eI .i64))))), (29, (.d (.bool (r4.2 != (0 : Int)))))] [] hB (by rfl) (by rfl) (by rfl)) ?_
  refine AWp.cond (b := (r4.2 != (0 : Int))) (by rfl) (fun hg5 => ?_) (fun hg5 => ?_)
  · replace h := ite_t hg5 h
    refine AWp.seq ?_
    refine AWp.region (OpJs.cons (OpJ.assign (ltN hN rfl) (Opd.bool false))
      (OpJs.nil)) (by rfl) (by rfl) ?_
    refine seqQ_n ?_
    refine AWp.ghost (Mat.pat [] [(6, (.d (.bool false)))] [] hB (by rfl) (by rfl) (by rfl)) ?_
    refine AWp.ret ?_
    refine seqQ_r ?_
    obtain rfl := Option.some.inj h
    exact ⟨.inl rfl, _, _, (Mat.pat [] [(6, (.d (.bool false)))] [] hB (by rfl) (by rfl) (by rfl)), [(.d (.bool false))], (Res.tmp (by rfl) (by rfl) Res.nil), rfl, by rfl, by rfl, by rfl⟩
  · replace h := ite_f hg5 h
    refine AWp.skip ?_
    refine seqQ_n ?_
    refine AWp.seq ?_
    refine AWp.seq ?_
    refine AWp.region (OpJs.cons (OpJ.move (ltN hN rfl) (Opd.tmp 9 (.d (.list 1 (r4.1.map (eI .i64))))))
      (OpJs.cons (OpJ.val (v' := (.d (.int .i64 (r4.1.length : Int)))) (by simp) (OpJ.lenD Try.underlying23 (ltN hN rfl) (Opd.tmp 30 (.d (.list 1 (r4.1.map (eI .i64)))))))
      (OpJs.cons (OpJ.move (ltN hN rfl) (Opd.int .i64 (0)))
      (OpJs.nil)))) (by rfl) (by rfl) ?_
    refine seqQ_n ?_
    refine AWp.ghost (Mat.pat [] [(7, (.d (.int .i64 (w64 ((1 : Int) + r1))))), (8, (.d (.int .i64 r2))), (9, (.d (.list 1 (r4.1.map (eI .i64))))), (30, (.d (.list 1 (r4.1.map (eI .i64))))), (31, (.d (.int .i64 (r4.1.length : Int)))), (32, (.d (.int .i64 (0 : Int))))] [] hB (by rfl) (by rfl) (by rfl)) ?_
    refine AWp.block ?_
    obtain ⟨x42, hx43, h⟩ := bindS h
    refine AWp.ghost (Mat.pat [] ((fun s6 : Int => ([(7, (.d (.int .i64 (w64 ((1 : Int) + r1))))), (8, (.d (.int .i64 r2))), (9, (.d (.list 1 (r4.1.map (eI .i64))))), (30, (.d (.list 1 (r4.1.map (eI .i64))))), (31, (.d (.int .i64 (r4.1.length : Int)))), (32, (.d (.int .i64 s6)))] : EL)) (0 : Int)) ((fun s6 : Int => ([] : OL)) (0 : Int)) hB (by rfl) (by rfl) (by rfl)) ?_
    refine AWp.loopS (exchangepointlaw37_SampleRatio_L0 r1 r2 r4) (fun s6 : Int => ([(7, (.d (.int .i64 (w64 ((1 : Int) + r1))))), (8, (.d (.int .i64 r2))), (9, (.d (.list 1 (r4.1.map (eI .i64))))), (30, (.d (.list 1 (r4.1.map (eI .i64))))), (31, (.d (.int .i64 (r4.1.length : Int)))), (32, (.d (.int .i64 s6)))] : EL)) (fun s6 : Int => ([] : OL)) (fun (x : (Unit) ⊕ (Unit)) e E' O' => match x with | (.inl _p) => e = .ret ∧ Mat B E' O' ([(6, (.d (.bool false)))] : EL) ([] : OL) | (.inr _p) => e = .exit 0 ∧ Mat B E' O' ([(7, (.d (.int .i64 (w64 ((1 : Int) + r1))))), (8, (.d (.int .i64 r2))), (9, (.d (.list 1 (r4.1.map (eI .i64)))))] : EL) ([] : OL)) hx43 (fun s6 y h => ?_) (fun e E' O' hR => ?_)
    · unfold exchangepointlaw37_SampleRatio_L0 at h
      show AWp _ _ _ _ ([(7, (.d (.int .i64 (w64 ((1 : Int) + r1))))), (8, (.d (.int .i64 r2))), (9, (.d (.list 1 (r4.1.map (eI .i64))))), (30, (.d (.list 1 (r4.1.map (eI .i64))))), (31, (.d (.int .i64 (r4.1.length : Int)))), (32, (.d (.int .i64 s6)))] : EL) ([] : OL)
      refine AWp.seq ?_
      refine AWp.region (OpJs.cons (OpJ.lss (ltN hN rfl) (Opd.tmp 32 (.d (.int .i64 s6))) (Opd.tmp 31 (.d (.int .i64 (r4.1.length : Int)))))
        (OpJs.nil)) (by rfl) (by rfl) ?_
      refine seqQ_n ?_
      refine AWp.ghost (Mat.pat [] [(7, (.d (.int .i64 (w64 ((1 : Int) + r1))))), (8, (.d (.int .i64 r2))), (9, (.d (.list 1 (r4.1.map (eI .i64))))), (30, (.d (.list 1 (r4.1.map (eI .i64))))), (31, (.d (.int .i64 (r4.1.length : Int)))), (32, (.d (.int .i64 s6))), (33, (.d (.bool (decide (s6 < (r4.1.length : Int))))))] [] hB (by rfl) (by rfl) (by rfl)) ?_
      refine AWp.seq ?_
      refine AWp.cond (b := (decide (s6 < (r4.1.length : Int)))) (by rfl) (fun hg31 => ?_) (fun hg31 => ?_)
      · replace h := ite_t hg31 h
        refine AWp.skip ?_
        refine seqQ_n ?_
        refine AWp.seq ?_
        refine AWp.block ?_
        refine AWp.seq ?_
        obtain ⟨x32, hx32, h⟩ := bindS h
        refine AWp.region (OpJs.cons (OpJ.move (ltN hN rfl) (Opd.tmp 32 (.d (.int .i64 s6))))
          (OpJs.cons (OpJ.indexD (el := (.int .i64 x32)) Try.underlying23 tyS3 (idx_some hx32).1 (get_map (eI .i64) (idx_some hx32).2) (ltN hN rfl) (Opd.tmp 30 (.d (.list 1 (r4.1.map (eI .i64))))) (Opd.tmp 32 (.d (.int .i64 s6))))
          (OpJs.cons (OpJ.loadD tyS3 (by rfl) (by rfl) (ltN hN rfl) (Opd.tmp 35 (.dptr (.int .i64 x32))))
          (OpJs.cons (OpJ.assign (ltN hN rfl) (Opd.tmp 34 (.d (.int .i64 s6))))
          (OpJs.cons (OpJ.assign (ltN hN rfl) (Opd.tmp 36 (.d (.int .i64 x32))))
          (OpJs.nil)))))) (by rfl) (by rfl) ?_
        refine seqQ_n ?_
        refine AWp.ghost (Mat.pat [] [(7, (.d (.int .i64 (w64 ((1 : Int) + r1))))), (8, (.d (.int .i64 r2))), (9, (.d (.list 1 (r4.1.map (eI .i64))))), (11, (.d (.int .i64 s6))), (12, (.d (.int .i64 x32))), (30, (.d (.list 1 (r4.1.map (eI .i64))))), (31, (.d (.int .i64 (r4.1.length : Int)))), (32, (.d (.int .i64 s6)))] [] hB (by rfl) (by rfl) (by rfl)) ?_
        refine AWp.seq ?_
        refine AWp.cut h (fun m36 : Bool => ([(7, (.d (.int .i64 (w64 ((1 : Int) + r1))))), (8, (.d (.int .i64 r2))), (9, (.d (.list 1 (r4.1.map (eI .i64))))), (30, (.d (.list 1 (r4.1.map (eI .i64))))), (31, (.d (.int .i64 (r4.1.length : Int)))), (32, (.d (.int .i64 s6))), (58, (.d (.bool m36)))] : EL)) (fun m36 : Bool => ([] : OL)) (fun m36 h E' O' hmat => ?_) (fun j37 hjj37 h => ?_)
        · refine seqQ_n ?_
          refine AWp.ghost hmat ?_
          refine AWp.cond (b := m36) (by rfl) (fun hg38 => ?_) (fun hg38 => ?_)
          · replace h := ite_t hg38 h
            refine AWp.seq ?_
            refine AWp.region (OpJs.cons (OpJ.assign (ltN hN rfl) (Opd.bool false))
              (OpJs.nil)) (by rfl) (by rfl) ?_
            refine seqQ_n ?_
            refine AWp.ghost (Mat.pat [] [(6, (.d (.bool false)))] [] hB (by rfl) (by rfl) (by rfl)) ?_
            refine AWp.ret ?_
            refine blkQ_r ?_
            refine seqQ_r ?_
            obtain rfl := Option.some.inj h
            exact ⟨(fun hc => by cases hc), rfl, (Mat.pat [] ((fun _ : Unit => ([(6, (.d (.bool false)))] : EL)) ()) ((fun _ : Unit => ([] : OL)) ()) hB (by rfl) (by rfl) (by rfl))⟩
          · replace h := ite_f hg38 h
            refine AWp.skip ?_
            refine blkQ_n ?_
            refine seqQ_n ?_
            refine AWp.region (OpJs.cons (OpJ.add (ltN hN rfl) (Opd.tmp 32 (.d (.int .i64 s6))) (Opd.int .i64 (1)))
              (OpJs.cons (OpJ.move (ltN hN rfl) (Opd.tmp 59 (.d (.int .i64 (w64 (s6 + (1 : Int)))))))
              (OpJs.nil))) (by rfl) (by rfl) ?_
            obtain rfl := Option.some.inj h
            exact ⟨rfl, (Mat.trans (Mat.pat [] [(7, (.d (.int .i64 (w64 ((1 : Int) + r1))))), (8, (.d (.int .i64 r2))), (9, (.d (.list 1 (r4.1.map (eI .i64))))), (30, (.d (.list 1 (r4.1.map (eI .i64))))), (31, (.d (.int .i64 (r4.1.length : Int)))), (32, (.d (.int .i64 (w64 (s6 + (1 : Int))))))] [] hB (by rfl) (by rfl) (by rfl)) (Mat.pat [] ((fun s6 : Int => ([(7, (.d (.int .i64 (w64 ((1 : Int) + r1))))), (8, (.d (.int .i64 r2))), (9, (.d (.list 1 (r4.1.map (eI .i64))))), (30, (.d (.list 1 (r4.1.map (eI .i64))))), (31, (.d (.int .i64 (r4.1.length : Int)))), (32, (.d (.int .i64 s6)))] : EL)) (w64 (s6 + (1 : Int)))) ((fun s6 : Int => ([] : OL)) (w64 (s6 + (1 : Int)))) hB (by rfl) (by rfl) (by rfl)))⟩
        · rcases Bool.eq_false_or_eq_true ((decide (x32 < (0 : Int))) || (decide (r2 ≤ x32))) with hg39 | hg39
          · replace h := ite_t hg39 h
            refine AWp.region (OpJs.cons (OpJ.move (ltN hN rfl) (Opd.tmp 12 (.d (.int .i64 x32))))
              (OpJs.cons (OpJ.lss (ltN hN rfl) (Opd.tmp 37 (.d (.int .i64 x32))) (Opd.int .i64 (0)))
              (OpJs.cons (OpJ.move (ltN hN rfl) (Opd.tmp 38 (.d (.bool (decide (x32 < (0 : Int)))))))
              (OpJs.cons (OpJ.opt' (v := (.d (.int .i64 x32))) (OpJ.move (ltN hN rfl) (Opd.tmp 12 (.d (.int .i64 x32)))) (by rfl) (GuardV.plain _) (ltN hN rfl) (by rfl) (by rfl) (by rfl) (by rfl) (OptL.keep rfl OptL.nil))
              (OpJs.cons (OpJ.opt' (v := (.d (.int .i64 r2))) (OpJ.move (ltN hN rfl) (Opd.tmp 8 (.d (.int .i64 r2)))) (by rfl) (GuardV.plain _) (ltN hN rfl) (by rfl) (by rfl) (by rfl) (by rfl) (OptL.keep rfl OptL.nil))
              (OpJs.cons (OpJ.opt' (v := (.d (.bool (decide (r2 ≤ x32))))) (OpJ.geq (ltN hN rfl) (Opd.tmp 40 (.d (.int .i64 x32))) (Opd.tmp 41 (.d (.int .i64 r2)))) (by rfl) (GuardV.plain _) (ltN hN rfl) (by rfl) (by rfl) (by rfl) (by rfl) (OptL.opt (OptL.opt OptL.nil)))
              (OpJs.cons (OpJ.pickOr rfl (ltN hN rfl) (Opd.tmp 39 (.d (.bool (decide (x32 < (0 : Int)))))) (Opd.tmp 42 (.opt ((decide (x32 < (0 : Int))) == false) (.d (.bool (decide (r2 ≤ x32)))))))
              (OpJs.cons (OpJ.val (v' := .d (.bool true)) (by rw [hg39]) (OpJ.move (ltN hN rfl) (Opd.tmp 43 (.d (.bool ((decide (x32 < (0 : Int))) || (decide (r2 ≤ x32))))))))
              (OpJs.cons (OpJ.skipU (ltN hN rfl) (by rfl))
              (OpJs.cons (OpJ.skipU (ltN hN rfl) (by rfl))
              (OpJs.cons (OpJ.skipU (ltN hN rfl) (by rfl))
              (OpJs.cons (OpJ.skipV (ltN hN rfl) (by rfl))
              (OpJs.cons (OpJ.skipV (ltN hN rfl) (by rfl))
              (OpJs.cons (OpJ.skipV (ltN hN rfl) (by rfl))
              (OpJs.cons (OpJ.skipV (ltN hN rfl) (by rfl))
              (OpJs.cons (OpJ.skipV (ltN hN rfl) (by rfl))
              (OpJs.cons (OpJ.skipV (ltN hN rfl) (by rfl))
              (OpJs.cons (OpJ.skipV (ltN hN rfl) (by rfl))
              (OpJs.cons (OpJ.skipV (ltN hN rfl) (by rfl))
              (OpJs.cons (OpJ.skipV (ltN hN rfl) (by rfl))
              (OpJs.cons (OpJ.skipU (ltN hN rfl) (by rfl))
              (OpJs.cons (OpJ.pickT (ltN hN rfl) (Opd.tmp 44 (.d (.bool true))) (Opd.bool true))
              (OpJs.nil))))))))))))))))))))))) (by rfl) (by rfl) ?_
            exact hjj37 _ h _ _ (Mat.trans (Mat.pat [] [(7, (.d (.int .i64 (w64 ((1 : Int) + r1))))), (8, (.d (.int .i64 r2))), (9, (.d (.list 1 (r4.1.map (eI .i64))))), (30, (.d (.list 1 (r4.1.map (eI .i64))))), (31, (.d (.int .i64 (r4.1.length : Int)))), (32, (.d (.int .i64 s6))), (58, (.d (.bool true)))] [] hB (by rfl) (by rfl) (by rfl)) (Mat.pat [] ((fun m36 : Bool => ([(7, (.d (.int .i64 (w64 ((1 : Int) + r1))))), (8, (.d (.int .i64 r2))), (9, (.d (.list 1 (r4.1.map (eI .i64))))), (30, (.d (.list 1 (r4.1.map (eI .i64))))), (31, (.d (.int .i64 (r4.1.length : Int)))), (32, (.d (.int .i64 s6))), (58, (.d (.bool m36)))] : EL)) true) ((fun m36 : Bool => ([] : OL)) true) hB (by rfl) (by rfl) (by rfl)))
          · replace h := ite_f hg39 h
            rcases Bool.eq_false_or_eq_true (decide ((0 : Int) < s6)) with hg40 | hg40
            · replace h := ite_t hg40 h
              obtain ⟨x41, hx41, h⟩ := bindS h
              refine AWp.region (OpJs.cons (OpJ.move (ltN hN rfl) (Opd.tmp 12 (.d (.int .i64 x32))))
                (OpJs.cons (OpJ.lss (ltN hN rfl) (Opd.tmp 37 (.d (.int .i64 x32))) (Opd.int .i64 (0)))
                (OpJs.cons (OpJ.move (ltN hN rfl) (Opd.tmp 38 (.d (.bool (decide (x32 < (0 : Int)))))))
                (OpJs.cons (OpJ.opt' (v := (.d (.int .i64 x32))) (OpJ.move (ltN hN rfl) (Opd.tmp 12 (.d (.int .i64 x32)))) (by rfl) (GuardV.plain _) (ltN hN rfl) (by rfl) (by rfl) (by rfl) (by rfl) (OptL.keep rfl OptL.nil))
                (OpJs.cons (OpJ.opt' (v := (.d (.int .i64 r2))) (OpJ.move (ltN hN rfl) (Opd.tmp 8 (.d (.int .i64 r2)))) (by rfl) (GuardV.plain _) (ltN hN rfl) (by rfl) (by rfl) (by rfl) (by rfl) (OptL.keep rfl OptL.nil))
                (OpJs.cons (OpJ.opt' (v := (.d (.bool (decide (r2 ≤ x32))))) (OpJ.geq (ltN hN rfl) (Opd.tmp 40 (.d (.int .i64 x32))) (Opd.tmp 41 (.d (.int .i64 r2)))) (by rfl) (GuardV.plain _) (ltN hN rfl) (by rfl) (by rfl) (by rfl) (by rfl) (OptL.opt (OptL.opt OptL.nil)))
                (OpJs.cons (OpJ.pickOr rfl (ltN hN rfl) (Opd.tmp 39 (.d (.bool (decide (x32 < (0 : Int)))))) (Opd.tmp 42 (.opt ((decide (x32 < (0 : Int))) == false) (.d (.bool (decide (r2 ≤ x32)))))))
                (OpJs.cons (OpJ.val (v' := .d (.bool false)) (by rw [hg39]) (OpJ.move (ltN hN rfl) (Opd.tmp 43 (.d (.bool ((decide (x32 < (0 : Int))) || (decide (r2 ≤ x32))))))))
                (OpJs.cons (OpJ.guarded (by rfl) (OpJ.move (ltN hN rfl) (Opd.tmp 11 (.d (.int .i64 s6)))))
                (OpJs.cons (OpJ.guarded (by rfl) (OpJ.gtr (ltN hN rfl) (Opd.tmp 45 (.d (.int .i64 s6))) (Opd.int .i64 (0))))
                (OpJs.cons (OpJ.guarded (by rfl) (OpJ.val (v' := .d (.bool true)) (by rw [hg40]) (OpJ.move (ltN hN rfl) (Opd.tmp 46 (.d (.bool (decide ((0 : Int) < s6))))))))
                (OpJs.cons (OpJ.guarded (by rfl) (OpJ.move (ltN hN rfl) (Opd.tmp 12 (.d (.int .i64 x32)))))
                (OpJs.cons (OpJ.guarded (by rfl) (OpJ.move (ltN hN rfl) (Opd.tmp 9 (.d (.list 1 (r4.1.map (eI .i64)))))))
                (OpJs.cons (OpJ.guarded (by rfl) (OpJ.move (ltN hN rfl) (Opd.tmp 11 (.d (.int .i64 s6)))))
                (OpJs.cons (OpJ.guarded (by rfl) (OpJ.sub (ltN hN rfl) (Opd.tmp 50 (.d (.int .i64 s6))) (Opd.int .i64 (1))))
                (OpJs.cons (OpJ.guarded (by rfl) (OpJ.indexD (el := (.int .i64 x41)) Try.underlying23 tyS3 (idx_some hx41).1 (get_map (eI .i64) (idx_some hx41).2) (ltN hN rfl) (Opd.tmp 49 (.d (.list 1 (r4.1.map (eI .i64))))) (Opd.tmp 51 (.d (.int .i64 (w64 (s6 - (1 : Int))))))))
                (OpJs.cons (OpJ.guarded (by rfl) (OpJ.loadD tyS3 (by rfl) (by rfl) (ltN hN rfl) (Opd.tmp 52 (.dptr (.int .i64 x41)))))
                (OpJs.cons (OpJ.guarded (by rfl) (OpJ.sub (ltN hN rfl) (Opd.tmp 48 (.d (.int .i64 x32))) (Opd.tmp 53 (.d (.int .i64 x41)))))
                (OpJs.cons (OpJ.guarded (by rfl) (OpJ.move (ltN hN rfl) (Opd.tmp 7 (.d (.int .i64 (w64 ((1 : Int) + r1)))))))
                (OpJs.cons (OpJ.guarded (by rfl) (OpJ.neqI (ltN hN rfl) (Opd.tmp 54 (.d (.int .i64 (w64 (x32 - x41))))) (Opd.tmp 55 (.d (.int .i64 (w64 ((1 : Int) + r1)))))))
                (OpJs.cons (OpJ.guarded (by rfl) (OpJ.pickT (ltN hN rfl) (Opd.tmp 47 (.d (.bool true))) (Opd.tmp 56 (.d (.bool ((w64 (x32 - x41)) != (w64 ((1 : Int) + r1))))))))
                (OpJs.cons (OpJ.pickF (ltN hN rfl) (Opd.tmp 44 (.d (.bool false))) (Opd.tmp 57 (.d (.bool ((w64 (x32 - x41)) != (w64 ((1 : Int) + r1)))))))
                (OpJs.nil))))))))))))))))))))))) (by rfl) (by rfl) ?_
              exact hjj37 _ h _ _ (Mat.trans (Mat.pat [] [(7, (.d (.int .i64 (w64 ((1 : Int) + r1))))), (8, (.d (.int .i64 r2))), (9, (.d (.list 1 (r4.1.map (eI .i64))))), (30, (.d (.list 1 (r4.1.map (eI .i64))))), (31, (.d (.int .i64 (r4.1.length : Int)))), (32, (.d (.int .i64 s6))), (58, (.d (.bool ((w64 (x32 - x41)) != (w64 ((1 : Int) + r1))))))] [] hB (by rfl) (by rfl) (by rfl)) (Mat.pat [] ((fun m36 : Bool => ([(7, (.d (.int .i64 (w64 ((1 : Int) + r1))))), (8, (.d (.int .i64 r2))), (9, (.d (.list 1 (r4.1.map (eI .i64))))), (30, (.d (.list 1 (r4.1.map (eI .i64))))), (31, (.d (.int .i64 (r4.1.length : Int)))), (32, (.d (.int .i64 s6))), (58, (.d (.bool m36)))] : EL)) ((w64 (x32 - x41)) != (w64 ((1 : Int) + r1)))) ((fun m36 : Bool => ([] : OL)) ((w64 (x32 - x41)) != (w64 ((1 : Int) + r1)))) hB (by rfl) (by rfl) (by rfl)))
            · replace h := ite_f hg40 h
              refine AWp.region (OpJs.cons (OpJ.move (ltN hN rfl) (Opd.tmp 12 (.d (.int .i64 x32))))
                (OpJs.cons (OpJ.lss (ltN hN rfl) (Opd.tmp 37 (.d (.int .i64 x32))) (Opd.int .i64 (0)))
                (OpJs.cons (OpJ.move (ltN hN rfl) (Opd.tmp 38 (.d (.bool (decide (x32 < (0 : Int)))))))
                (OpJs.cons (OpJ.opt' (v := (.d (.int .i64 x32))) (OpJ.move (ltN hN rfl) (Opd.tmp 12 (.d (.int .i64 x32)))) (by rfl) (GuardV.plain _) (ltN hN rfl) (by rfl) (by rfl) (by rfl) (by rfl) (OptL.keep rfl OptL.nil))
                (OpJs.cons (OpJ.opt' (v := (.d (.int .i64 r2))) (OpJ.move (ltN hN rfl) (Opd.tmp 8 (.d (.int .i64 r2)))) (by rfl) (GuardV.plain _) (ltN hN rfl) (by rfl) (by rfl) (by rfl) (by rfl) (OptL.keep rfl OptL.nil))
                (OpJs.cons (OpJ.opt' (v := (.d (.bool (decide (r2 ≤ x32))))) (OpJ.geq (ltN hN rfl) (Opd.tmp 40 (.d (.int .i64 x32))) (Opd.tmp 41 (.d (.int .i64 r2)))) (by rfl) (GuardV.plain _) (ltN hN rfl) (by rfl) (by rfl) (by rfl) (by rfl) (OptL.opt (OptL.opt OptL.nil)))
                (OpJs.cons (OpJ.pickOr rfl (ltN hN rfl) (Opd.tmp 39 (.d (.bool (decide (x32 < (0 : Int)))))) (Opd.tmp 42 (.opt ((decide (x32 < (0 : Int))) == false) (.d (.bool (decide (r2 ≤ x32)))))))
                (OpJs.cons (OpJ.val (v' := .d (.bool false)) (by rw [hg39]) (OpJ.move (ltN hN rfl) (Opd.tmp 43 (.d (.bool ((decide (x32 < (0 : Int))) || (decide (r2 ≤ x32))))))))
                (OpJs.cons (OpJ.guarded (by rfl) (OpJ.move (ltN hN rfl) (Opd.tmp 11 (.d (.int .i64 s6)))))
                (OpJs.cons (OpJ.guarded (by rfl) (OpJ.gtr (ltN hN rfl) (Opd.tmp 45 (.d (.int .i64 s6))) (Opd.int .i64 (0))))
                (OpJs.cons (OpJ.guarded (by rfl) (OpJ.val (v' := .d (.bool false)) (by rw [hg40]) (OpJ.move (ltN hN rfl) (Opd.tmp 46 (.d (.bool (decide ((0 : Int) < s6))))))))
                (OpJs.cons (OpJ.skipU (ltN hN rfl) (by rfl))
                (OpJs.cons (OpJ.skipU (ltN hN rfl) (by rfl))
                (OpJs.cons (OpJ.skipU (ltN hN rfl) (by rfl))
                (OpJs.cons (OpJ.skipU (ltN hN rfl) (by rfl))
                (OpJs.cons (OpJ.skipU (ltN hN rfl) (by rfl))
                (OpJs.cons (OpJ.skipU (ltN hN rfl) (by rfl))
                (OpJs.cons (OpJ.skipU (ltN hN rfl) (by rfl))
                (OpJs.cons (OpJ.skipU (ltN hN rfl) (by rfl))
                (OpJs.cons (OpJ.skipU (ltN hN rfl) (by rfl))
                (OpJs.cons (OpJ.guarded (by rfl) (OpJ.pickF (ltN hN rfl) (Opd.tmp 47 (.d (.bool false))) (Opd.bool false)))
                (OpJs.cons (OpJ.pickF (ltN hN rfl) (Opd.tmp 44 (.d (.bool false))) (Opd.tmp 57 (.d (.bool false))))
                (OpJs.nil))))))))))))))))))))))) (by rfl) (by rfl) ?_
              exact hjj37 _ h _ _ (Mat.trans (Mat.pat [] [(7, (.d (.int .i64 (w64 ((1 : Int) + r1))))), (8, (.d (.int .i64 r2))), (9, (.d (.list 1 (r4.1.map (eI .i64))))), (30, (.d (.list 1 (r4.1.map (eI .i64))))), (31, (.d (.int .i64 (r4.1.length : Int)))), (32, (.d (.int .i64 s6))), (58, (.d (.bool false)))] [] hB (by rfl) (by rfl) (by rfl)) (Mat.pat [] ((fun m36 : Bool => ([(7, (.d (.int .i64 (w64 ((1 : Int) + r1))))), (8, (.d (.int .i64 r2))), (9, (.d (.list 1 (r4.1.map (eI .i64))))), (30, (.d (.list 1 (r4.1.map (eI .i64))))), (31, (.d (.int .i64 (r4.1.length : Int)))), (32, (.d (.int .i64 s6))), (58, (.d (.bool m36)))] : EL)) false) ((fun m36 : Bool => ([] : OL)) false) hB (by rfl) (by rfl) (by rfl)))
      · replace h := ite_f hg31 h
        refine AWp.exit ?_
        refine seqQ_e ?_
        obtain rfl := Option.some.inj h
        exact ⟨(fun hc => by cases hc), rfl, (Mat.pat [] ((fun _ : Unit => ([(7, (.d (.int .i64 (w64 ((1 : Int) + r1))))), (8, (.d (.int .i64 r2))), (9, (.d (.list 1 (r4.1.map (eI .i64)))))] : EL)) ()) ((fun _ : Unit => ([] : OL)) ()) hB (by rfl) (by rfl) (by rfl))⟩
    · rcases x42 with _ | _
      · obtain ⟨rfl, hmat⟩ := hR
        refine blkQ_r ?_
        refine seqQ_r ?_
        obtain rfl := Option.some.inj h
        exact ⟨.inl rfl, _, _, (Mat.trans hmat (Mat.pat [] [(6, (.d (.bool false)))] [] hB (by rfl) (by rfl) (by rfl))), [(.d (.bool false))], (Res.tmp (by rfl) (by rfl) Res.nil), rfl, by rfl, by rfl, by rfl⟩
      · obtain ⟨rfl, hmat⟩ := hR
        refine blkQ_hit ?_
        refine seqQ_n ?_
        refine AWp.ghost hmat ?_
        refine AWp.seq ?_
        refine AWp.region (OpJs.cons (OpJ.move (ltN hN rfl) (Opd.tmp 9 (.d (.list 1 (r4.1.map (eI .i64))))))
          (OpJs.cons (OpJ.val (v' := (.d (.int .i64 (r4.1.length : Int)))) (by simp) (OpJ.lenD Try.underlying23 (ltN hN rfl) (Opd.tmp 60 (.d (.list 1 (r4.1.map (eI .i64)))))))
          (OpJs.cons (OpJ.move (ltN hN rfl) (Opd.tmp 7 (.d (.int .i64 (w64 ((1 : Int) + r1))))))
          (OpJs.cons (OpJ.mul (ltN hN rfl) (Opd.tmp 61 (.d (.int .i64 (r4.1.length : Int)))) (Opd.tmp 62 (.d (.int .i64 (w64 ((1 : Int) + r1))))))
          (OpJs.cons (OpJ.move (ltN hN rfl) (Opd.tmp 8 (.d (.int .i64 r2))))
          (OpJs.cons (OpJ.sub (ltN hN rfl) (Opd.tmp 63 (.d (.int .i64 (w64 ((r4.1.length : Int) * (w64 ((1 : Int) + r1))))))) (Opd.tmp 64 (.d (.int .i64 r2))))
          (OpJs.cons (OpJ.assign (ltN hN rfl) (Opd.tmp 65 (.d (.int .i64 (w64 ((w64 ((r4.1.length : Int) * (w64 ((1 : Int) + r1)))) - r2))))))
          (OpJs.nil)))))))) (by rfl) (by rfl) ?_
        refine seqQ_n ?_
        refine AWp.ghost (Mat.pat [] [(7, (.d (.int .i64 (w64 ((1 : Int) + r1))))), (13, (.d (.int .i64 (w64 ((w64 ((r4.1.length : Int) * (w64 ((1 : Int) + r1)))) - r2)))))] [] hB (by rfl) (by rfl) (by rfl)) ?_
        refine AWp.seq ?_
        refine AWp.cut h (fun m46 : Bool => ([(6, (.d (.bool m46)))] : EL)) (fun m46 : Bool => ([] : OL)) (fun m46 h E' O' hmat => ?_) (fun j47 hjj47 h => ?_)
        · refine seqQ_n ?_
          refine AWp.ghost hmat ?_
          refine AWp.ret ?_
          obtain rfl := Option.some.inj h
          exact ⟨.inl rfl, _, _, (Mat.pat [] [(6, (.d (.bool m46)))] [] hB (by rfl) (by rfl) (by rfl)), [(.d (.bool m46))], (Res.tmp (by rfl) (by rfl) Res.nil), rfl, by rfl, by rfl, by rfl⟩
        · rcases Bool.eq_false_or_eq_true ((decide ((w64 (0 - (w64 ((1 : Int) + r1)))) < (w64 ((w64 ((r4.1.length : Int) * (w64 ((1 : Int) + r1)))) - r2)))) && (decide ((w64 ((w64 ((r4.1.length : Int) * (w64 ((1 : Int) + r1)))) - r2)) < (w64 ((1 : Int) + r1))))) with hg48 | hg48
          · replace h := ite_t hg48 h
            obtain ⟨r49, hr49, h⟩ := bindS h
            refine AWp.region (OpJs.cons (OpJ.move (ltN hN rfl) (Opd.tmp 13 (.d (.int .i64 (w64 ((w64 ((r4.1.length : Int) * (w64 ((1 : Int) + r1)))) - r2))))))
              (OpJs.cons (OpJ.move (ltN hN rfl) (Opd.tmp 7 (.d (.int .i64 (w64 ((1 : Int) + r1))))))
              (OpJs.cons (OpJ.neg (ltN hN rfl) (Opd.tmp 67 (.d (.int .i64 (w64 ((1 : Int) + r1))))))
              (OpJs.cons (OpJ.gtr (ltN hN rfl) (Opd.tmp 66 (.d (.int .i64 (w64 ((w64 ((r4.1.length : Int) * (w64 ((1 : Int) + r1)))) - r2))))) (Opd.tmp 68 (.d (.int .i64 (w64 (0 - (w64 ((1 : Int) + r1))))))))
              (OpJs.cons (OpJ.move (ltN hN rfl) (Opd.tmp 69 (.d (.bool (decide ((w64 (0 - (w64 ((1 : Int) + r1)))) < (w64 ((w64 ((r4.1.length : Int) * (w64 ((1 : Int) + r1)))) - r2))))))))
              (OpJs.cons (OpJ.opt' (v := (.d (.int .i64 (w64 ((w64 ((r4.1.length : Int) * (w64 ((1 : Int) + r1)))) - r2))))) (OpJ.move (ltN hN rfl) (Opd.tmp 13 (.d (.int .i64 (w64 ((w64 ((r4.1.length : Int) * (w64 ((1 : Int) + r1)))) - r2)))))) (by rfl) (GuardV.plain _) (ltN hN rfl) (by rfl) (by rfl) (by rfl) (by rfl) (OptL.keep rfl OptL.nil))
              (OpJs.cons (OpJ.opt' (v := (.d (.int .i64 (w64 ((1 : Int) + r1))))) (OpJ.move (ltN hN rfl) (Opd.tmp 7 (.d (.int .i64 (w64 ((1 : Int) + r1)))))) (by rfl) (GuardV.plain _) (ltN hN rfl) (by rfl) (by rfl) (by rfl) (by rfl) (OptL.keep rfl OptL.nil))
              (OpJs.cons (OpJ.opt' (v := (.d (.bool (decide ((w64 ((w64 ((r4.1.length : Int) * (w64 ((1 : Int) + r1)))) - r2)) < (w64 ((1 : Int) + r1))))))) (OpJ.lss (ltN hN rfl) (Opd.tmp 71 (.d (.int .i64 (w64 ((w64 ((r4.1.length : Int) * (w64 ((1 : Int) + r1)))) - r2))))) (Opd.tmp 72 (.d (.int .i64 (w64 ((1 : Int) + r1)))))) (by rfl) (GuardV.plain _) (ltN hN rfl) (by rfl) (by rfl) (by rfl) (by rfl) (OptL.opt (OptL.opt OptL.nil)))
              (OpJs.cons (OpJ.pickAnd rfl (ltN hN rfl) (Opd.tmp 70 (.d (.bool (decide ((w64 (0 - (w64 ((1 : Int) + r1)))) < (w64 ((w64 ((r4.1.length : Int) * (w64 ((1 : Int) + r1)))) - r2))))))) (Opd.tmp 73 (.opt ((decide ((w64 (0 - (w64 ((1 : Int) + r1)))) < (w64 ((w64 ((r4.1.length : Int) * (w64 ((1 : Int) + r1)))) - r2)))) == true) (.d (.bool (decide ((w64 ((w64 ((r4.1.length : Int) * (w64 ((1 : Int) + r1)))) - r2)) < (w64 ((1 : Int) + r1)))))))))
              (OpJs.cons (OpJ.val (v' := .d (.bool true)) (by rw [hg48]) (OpJ.move (ltN hN rfl) (Opd.tmp 74 (.d (.bool ((decide ((w64 (0 - (w64 ((1 : Int) + r1)))) < (w64 ((w64 ((r4.1.length : Int) * (w64 ((1 : Int) + r1)))) - r2)))) && (decide ((w64 ((w64 ((r4.1.length : Int) * (w64 ((1 : Int) + r1)))) - r2)) < (w64 ((1 : Int) + r1))))))))))
              (OpJs.cons (OpJ.guarded (by rfl) (OpJ.callFn hB fnOk11 (exchangepointlaw37_awake_ac  r49 hr49) [] (by kernel_rfl) (ltN hN rfl) (by kernel_rfl) OpdL.nil))
              (OpJs.cons (OpJ.pickT (ltN hN rfl) (Opd.tmp 75 (.d (.bool true))) (Opd.tmp 76 (.d (.bool r49))))
              (OpJs.cons (OpJ.assign (ltN hN rfl) (Opd.tmp 77 (.d (.bool r49))))
              (OpJs.nil)))))))))))))) (by rfl) (by rfl) ?_
            exact hjj47 _ h _ _ (Mat.trans (Mat.pat [] [(6, (.d (.bool r49)))] [] hB (by rfl) (by rfl) (by rfl)) (Mat.pat [] ((fun m46 : Bool => ([(6, (.d (.bool m46)))] : EL)) r49) ((fun m46 : Bool => ([] : OL)) r49) hB (by rfl) (by rfl) (by rfl)))
          · replace h := ite_f hg48 h
            refine AWp.region (OpJs.cons (OpJ.move (ltN hN rfl) (Opd.tmp 13 (.d (.int .i64 (w64 ((w64 ((r4.1.length : Int) * (w64 ((1 : Int) + r1)))) - r2))))))
              (OpJs.cons (OpJ.move (ltN hN rfl) (Opd.tmp 7 (.d (.int .i64 (w64 ((1 : Int) + r1))))))
              (OpJs.cons (OpJ.neg (ltN hN rfl) (Opd.tmp 67 (.d (.int .i64 (w64 ((1 : Int) + r1))))))
              (OpJs.cons (OpJ.gtr (ltN hN rfl) (Opd.tmp 66 (.d (.int .i64 (w64 ((w64 ((r4.1.length : Int) * (w64 ((1 : Int) + r1)))) - r2))))) (Opd.tmp 68 (.d (.int .i64 (w64 (0 - (w64 ((1 : Int) + r1))))))))
              (OpJs.cons (OpJ.move (ltN hN rfl) (Opd.tmp 69 (.d (.bool (decide ((w64 (0 - (w64 ((1 : Int) + r1)))) < (w64 ((w64 ((r4.1.length : Int) * (w64 ((1 : Int) + r1)))) - r2))))))))
              (OpJs.cons (OpJ.opt' (v := (.d (.int .i64 (w64 ((w64 ((r4.1.length : Int) * (w64 ((1 : Int) + r1)))) - r2))))) (OpJ.move (ltN hN rfl) (Opd.tmp 13 (.d (.int .i64 (w64 ((w64 ((r4.1.length : Int) * (w64 ((1 : Int) + r1)))) - r2)))))) (by rfl) (GuardV.plain _) (ltN hN rfl) (by rfl) (by rfl) (by rfl) (by rfl) (OptL.keep rfl OptL.nil))
              (OpJs.cons (OpJ.opt' (v := (.d (.int .i64 (w64 ((1 : Int) + r1))))) (OpJ.move (ltN hN rfl) (Opd.tmp 7 (.d (.int .i64 (w64 ((1 : Int) + r1)))))) (by rfl) (GuardV.plain _) (ltN hN rfl) (by rfl) (by rfl) (by rfl) (by rfl) (OptL.keep rfl OptL.nil))
              (OpJs.cons (OpJ.opt' (v := (.d (.bool (decide ((w64 ((w64 ((r4.1.length : Int) * (w64 ((1 : Int) + r1)))) - r2)) < (w64 ((1 : Int) + r1))))))) (OpJ.lss (ltN hN rfl) (Opd.tmp 71 (.d (.int .i64 (w64 ((w64 ((r4.1.length : Int) * (w64 ((1 : Int) + r1)))) - r2))))) (Opd.tmp 72 (.d (.int .i64 (w64 ((1 : Int) + r1)))))) (by rfl) (GuardV.plain _) (ltN hN rfl) (by rfl) (by rfl) (by rfl) (by rfl) (OptL.opt (OptL.opt OptL.nil)))
              (OpJs.cons (OpJ.pickAnd rfl (ltN hN rfl) (Opd.tmp 70 (.d (.bool (decide ((w64 (0 - (w64 ((1 : Int) + r1)))) < (w64 ((w64 ((r4.1.length : Int) * (w64 ((1 : Int) + r1)))) - r2))))))) (Opd.tmp 73 (.opt ((decide ((w64 (0 - (w64 ((1 : Int) + r1)))) < (w64 ((w64 ((r4.1.length : Int) * (w64 ((1 : Int) + r1)))) - r2)))) == true) (.d (.bool (decide ((w64 ((w64 ((r4.1.length : Int) * (w64 ((1 : Int) + r1)))) - r2)) < (w64 ((1 : Int) + r1)))))))))
              (OpJs.cons (OpJ.val (v' := .d (.bool false)) (by rw [hg48]) (OpJ.move (ltN hN rfl) (Opd.tmp 74 (.d (.bool ((decide ((w64 (0 - (w64 ((1 : Int) + r1)))) < (w64 ((w64 ((r4.1.length : Int) * (w64 ((1 : Int) + r1)))) - r2)))) && (decide ((w64 ((w64 ((r4.1.length : Int) * (w64 ((1 : Int) + r1)))) - r2)) < (w64 ((1 : Int) + r1))))))))))
              (OpJs.cons (OpJ.skipU (ltN hN rfl) (by rfl))
              (OpJs.cons (OpJ.pickF (ltN hN rfl) (Opd.tmp 75 (.d (.bool false))) (Opd.bool false))
              (OpJs.cons (OpJ.assign (ltN hN rfl) (Opd.tmp 77 (.d (.bool false))))
              (OpJs.nil)))))))))))))) (by rfl) (by rfl) ?_
            exact hjj47 _ h _ _ (Mat.trans (Mat.pat [] [(6, (.d (.bool false)))] [] hB (by rfl) (by rfl) (by rfl)) (Mat.pat [] ((fun m46 : Bool => ([(6, (.d (.bool m46)))] : EL)) false) ((fun m46 : Bool => ([] : OL)) false) hB (by rfl) (by rfl) (by rfl)))

noncomputable def exchangepointmill_New (a0 : (List Int)) : Option (exchangepointmill_Deck) :=
  some (exchangepointmill_Deck.mk a0 (0 : Int))
set_option maxHeartbeats 4000000 in
set_option maxRecDepth 100000 in
theorem exchangepointmill_New_ac (a0 : (List Int)) (r : exchangepointmill_Deck) (h : exchangepointmill_New a0 = some r) : AC Try.prog 12 [(.d (.list 1 (a0.map (eI .i64))))] [] (.ptr 1005 0 []) [(1005, some (.box 49 (.d (e_exchangepointmill_Deck r))))] := by
  refine AC.of_code2 Try.func12 rfl rfl (Nat.le_of_ble_eq_true (by rfl)) fun B hB hN => ?_
  delta exchangepointmill_New at h
  refine AWp.seq ?_
  refine AWp.region (OpJs.cons (OpJ.assign (v := .junk) (ltN hN rfl) (Opd.junk _))
  (OpJs.nil)) (by rfl) (by rfl) ?_
  refine seqQ_n ?_
  refine AWp.ghost (Mat.pat [] [(0, (.d (.list 1 (a0.map (eI .i64)))))] [] hB (by rfl) (by rfl) (by rfl)) ?_
  refine AWp.seq ?_
  refine AWp.region (OpJs.cons (OpJ.move (ltN hN rfl) (Opd.tmp 0 (.d (.list 1 (a0.map (eI .i64))))))
  (OpJs.cons (OpJ.coe (v := (.st [(.d (.list 1 (a0.map (eI .i64)))), (.d (.int .i64 (0 : Int)))])) (y := (.st [(.list 1 (a0.map (eI .i64))), (.int .i64 (0 : Int))])) (Co.st (CoL.cons (Co.d _) (CoL.cons (Co.d _) CoL.nil))) rfl (OpJ.build (places := [(0, 1), (1, 1)]) ⟨Try.underlying49, fun w => by kernel_rfl⟩ tyZS49 (Opds.cons (Opd.tmp 3 (.d (.list 1 (a0.map (eI .i64))))) Opds.nil) (by kernel_rfl) (r := (.st [(.d (.list 1 (a0.map (eI .i64)))), (.d (.int .i64 (0 : Int)))])) (by rfl) (ltN hN rfl)))
  (OpJs.cons (OpJ.box hB (nm := 1005) (by decide) (by simp) rfl (ltN hN rfl) (Opd.tmp 4 (.d (.st [(.list 1 (a0.map (eI .i64))), (.int .i64 (0 : Int))]))))
  (OpJs.cons (OpJ.assign (ltN hN rfl) (Opd.tmp 5 (.ptr 1005 0 [])))
  (OpJs.nil))))) (by rfl) (by rfl) ?_
  refine seqQ_n ?_
  refine AWp.ghost (Mat.pat [] [(2, (.ptr 1005 0 []))] [(1005, some (.box 49 (.d (.st [(.list 1 (a0.map (eI .i64))), (.int .i64 (0 : Int))]))))] hB (by rfl) (by rfl) (by rfl)) ?_
  refine AWp.ret ?_
  obtain rfl := Option.some.inj h
  exact ⟨.inl rfl, _, _, (Mat.pat [] [(2, (.ptr 1005 0 []))] [(1005, some (.box 49 (.d (.st [(.list 1 (a0.map (eI .i64))), (.int .i64 (0 : Int))]))))] hB (by rfl) (by rfl) (by rfl)), [(.ptr 1005 0 [])], (Res.tmp (by rfl) (by rfl) Res.nil), rfl, by rfl, by rfl, by rfl⟩


end Go.Proofs.Ytdjdoeengjdmmaa
