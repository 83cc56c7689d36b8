/- Printed by gen.py: the Go functions as plain functions, and that the code does what they say. -/
import Derived.Test.YtpdfmjkfplgkfaaChecked
import Derived.Test.YtpdfmjkfplgkfaaVcYB
import Derived.Test.YtpdfmjkfplgkfaaVcZ
import Derived.KernelRfl
import Derived.Test.YtpdfmjkfplgkfaaVcMD
import Derived.Test.YtpdfmjkfplgkfaaVcME
import Derived.Test.YtpdfmjkfplgkfaaVcSG
import Derived.Test.YtpdfmjkfplgkfaaExt
namespace Go.Proofs.Ytpdfmjkfplgkfaa
open Go Go.Vc
structure api_Cell where
  fFrom : Int
  fTo : Int
  fSamples : Int
  fBytes : Int
def e_api_Cell (x : api_Cell) : D := .st [(.int .i64 x.fFrom), (.int .i64 x.fTo), (.int .i64 x.fSamples), (.int .i64 x.fBytes)]

def e_LeIi64 (x : (List Int)) : D := (.list 1 (x.map (eI .i64)))

structure api_Sample where
  fTick : Int
  fSeq : Int
  fPool : Int
  fIn : Int
  fOut : Int
  fBytes : Int
def e_api_Sample (x : api_Sample) : D := .st [(.int .i64 x.fTick), (.int .i64 x.fSeq), (.int .i64 x.fPool), (.int .i64 x.fIn), (.int .i64 x.fOut), (.int .i64 x.fBytes)]

structure api_Addr where
  fV6 : Bool
  fHi : Int
  fLo : Int
def e_api_Addr (x : api_Addr) : D := .st [(.bool x.fV6), (.int .u64 x.fHi), (.int .u64 x.fLo)]

def e_A6eIu8 (x : (List Int)) : D := (.arr 6 1 (x.map (eI .u8)))

def e_LeA6eIu8 (x : (List (List Int))) : D := (.list 6 (x.map e_A6eIu8))

def e_LeapiAddr (x : (List api_Addr)) : D := (.list 3 (x.map e_api_Addr))

structure api_Rule where
  fPort : Int
  fASN : Int
  fSwitch : Int
  fMACs : (List (List Int))
  fV4 : (List api_Addr)
  fV6 : (List api_Addr)
  fRate : Int
  fBurst : Int
def e_api_Rule (x : api_Rule) : D := .st [(.int .i64 x.fPort), (.int .i64 x.fASN), (.int .i64 x.fSwitch), (.list 6 (x.fMACs.map e_A6eIu8)), (.list 3 (x.fV4.map e_api_Addr)), (.list 3 (x.fV6.map e_api_Addr)), (.int .i64 x.fRate), (.int .i64 x.fBurst)]

def keq3 (a b : Int) : Bool := (a == b)

structure matrix_pair where
  ffrom : Int
  fto : Int
def e_matrix_pair (x : matrix_pair) : D := .st [(.int .i64 x.ffrom), (.int .i64 x.fto)]

def keq85 (a b : matrix_pair) : Bool := ((a.ffrom == b.ffrom) && ((a.fto == b.fto) && true))

structure exchangepointmill_Deck where
  fL : (List Int)
  fAt : Int
def e_exchangepointmill_Deck (x : exchangepointmill_Deck) : D := .st [(.list 1 (x.fL.map (eI .i64))), (.int .i64 x.fAt)]

def e_LeapiSample (x : (List api_Sample)) : D := (.list 6 (x.map e_api_Sample))

def e_LeapiRule (x : (List api_Rule)) : D := (.list 8 (x.map e_api_Rule))

def e_LeapiCell (x : (List api_Cell)) : D := (.list 4 (x.map e_api_Cell))

@[reducible] noncomputable def we_api_Rule_70_8 (x : List api_Rule) : Ob := .row 70 8 (x.map e_api_Rule)
@[reducible] noncomputable def qe_api_Rule_8 (x : List api_Rule) : V := .d (.list 8 (x.map e_api_Rule))
@[reducible] noncomputable def qe_api_Sample_6 (x : List api_Sample) : V := .d (.list 6 (x.map e_api_Sample))
@[reducible] noncomputable def we_api_Cell_23_4 (x : List api_Cell) : Ob := .row 23 4 (x.map e_api_Cell)
@[reducible] noncomputable def qe_api_Cell_4 (x : List api_Cell) : V := .d (.list 4 (x.map e_api_Cell))
@[reducible] noncomputable def qI_1 (x : List Int) : V := .d (.list 1 (x.map (eI .i64)))
@[reducible] noncomputable def we_api_Sample_54_6 (x : List api_Sample) : Ob := .row 54 6 (x.map e_api_Sample)
theorem tyS3 : TyS Try.prog 3 1 false := ⟨by kernel_rfl, by kernel_rfl⟩

theorem fnOk7 : FnOk Try.prog 7 := ⟨by kernel_rfl⟩

theorem tyZS23 : TyZ Try.prog 23 (.st [(.d (.int .i64 (0 : Int))), (.d (.int .i64 (0 : Int))), (.d (.int .i64 (0 : Int))), (.d (.int .i64 (0 : Int)))]) := ⟨by kernel_rfl, fun w => by kernel_rfl⟩

theorem tyZ23 : TyZ Try.prog 23 (.d (.st [(.int .i64 (0 : Int)), (.int .i64 (0 : Int)), (.int .i64 (0 : Int)), (.int .i64 (0 : Int))])) := ⟨by kernel_rfl, fun w => by kernel_rfl⟩

theorem tyS23 : TyS Try.prog 23 4 true := ⟨by kernel_rfl, by kernel_rfl⟩

theorem tyZD3 : TyZ Try.prog 3 (.d (.int .i64 (0 : Int))) := ⟨by kernel_rfl, fun w => by kernel_rfl⟩

theorem tyS25 : TyS Try.prog 25 1 false := ⟨by kernel_rfl, by kernel_rfl⟩

theorem tyZD25 : TyZ Try.prog 25 (.d (.list 1 (([] : List Int).map (eI .i64)))) := ⟨by kernel_rfl, fun w => by kernel_rfl⟩

theorem tyZD23 : TyZ Try.prog 23 (.d (.st [(.int .i64 (0 : Int)), (.int .i64 (0 : Int)), (.int .i64 (0 : Int)), (.int .i64 (0 : Int))])) := ⟨by kernel_rfl, fun w => by kernel_rfl⟩

theorem fnOk28 : FnOk Try.prog 28 := ⟨by kernel_rfl⟩

theorem fnOk48 : FnOk Try.prog 48 := ⟨by kernel_rfl⟩

theorem fnOk45 : FnOk Try.prog 45 := ⟨by kernel_rfl⟩

theorem fnOk29 : FnOk Try.prog 29 := ⟨by kernel_rfl⟩

theorem fnOk8 : FnOk Try.prog 8 := ⟨by kernel_rfl⟩

theorem fnOk9 : FnOk Try.prog 9 := ⟨by kernel_rfl⟩

theorem tyZS54 : TyZ Try.prog 54 (.st [(.d (.int .i64 (0 : Int))), (.d (.int .i64 (0 : Int))), (.d (.int .i64 (0 : Int))), (.d (.int .i64 (0 : Int))), (.d (.int .i64 (0 : Int))), (.d (.int .i64 (0 : Int)))]) := ⟨by kernel_rfl, fun w => by kernel_rfl⟩

theorem tyS54 : TyS Try.prog 54 6 true := ⟨by kernel_rfl, by kernel_rfl⟩

theorem tyZD54 : TyZ Try.prog 54 (.d (.st [(.int .i64 (0 : Int)), (.int .i64 (0 : Int)), (.int .i64 (0 : Int)), (.int .i64 (0 : Int)), (.int .i64 (0 : Int)), (.int .i64 (0 : Int))])) := ⟨by kernel_rfl, fun w => by kernel_rfl⟩

theorem tyZS70 : TyZ Try.prog 70 (.st [(.d (.int .i64 (0 : Int))), (.d (.int .i64 (0 : Int))), (.d (.int .i64 (0 : Int))), .nils, .nils, .nils, (.d (.int .i64 (0 : Int))), (.d (.int .i64 (0 : Int)))]) := ⟨by kernel_rfl, fun w => by kernel_rfl⟩

theorem tyS70 : TyS Try.prog 70 8 true := ⟨by kernel_rfl, by kernel_rfl⟩

theorem tyZD70 : TyZ Try.prog 70 (.d (.st [(.int .i64 (0 : Int)), (.int .i64 (0 : Int)), (.int .i64 (0 : Int)), (.list 6 (([] : List (List Int)).map e_A6eIu8)), (.list 3 (([] : List api_Addr).map e_api_Addr)), (.list 3 (([] : List api_Addr).map e_api_Addr)), (.int .i64 (0 : Int)), (.int .i64 (0 : Int))])) := ⟨by kernel_rfl, fun w => by kernel_rfl⟩

theorem tyE70 : TyE Try.prog 70 8 112 := ⟨by kernel_rfl, by decide⟩

theorem fnOk14 : FnOk Try.prog 14 := ⟨by kernel_rfl⟩

theorem tyZ54 : TyZ Try.prog 54 (.d (.st [(.int .i64 (0 : Int)), (.int .i64 (0 : Int)), (.int .i64 (0 : Int)), (.int .i64 (0 : Int)), (.int .i64 (0 : Int)), (.int .i64 (0 : Int))])) := ⟨by kernel_rfl, fun w => by kernel_rfl⟩

theorem fnOk49 : FnOk Try.prog 49 := ⟨by kernel_rfl⟩

theorem fnOk46 : FnOk Try.prog 46 := ⟨by kernel_rfl⟩

theorem fnOk35 : FnOk Try.prog 35 := ⟨by kernel_rfl⟩

theorem keyEq3 : KeyEq Try.prog 3 (eI .i64) keq3 := ⟨⟨1, by decide, fun a b => (FitE.int (h := 0) a b Try.underlying3)⟩, fun a b h => by
  unfold keq3 at h
  simp at h
  simp [eI, h]⟩

theorem tyU71 : Try.prog.underlying 71 = some (.map 3 3) := by kernel_rfl

theorem fnOk36 : FnOk Try.prog 36 := ⟨by kernel_rfl⟩

theorem tyZS85 : TyZ Try.prog 85 (.st [(.d (.int .i64 (0 : Int))), (.d (.int .i64 (0 : Int)))]) := ⟨by kernel_rfl, fun w => by kernel_rfl⟩

theorem tyZ85 : TyZ Try.prog 85 (.d (.st [(.int .i64 (0 : Int)), (.int .i64 (0 : Int))])) := ⟨by kernel_rfl, fun w => by kernel_rfl⟩

theorem tyS85 : TyS Try.prog 85 2 true := ⟨by kernel_rfl, by kernel_rfl⟩

theorem held85 : Program.stoodInHeld Try.prog 85 = false := by kernel_rfl

theorem keyEq85 : KeyEq Try.prog 85 e_matrix_pair keq85 := ⟨⟨2, by decide, fun a b => (FitE.st Try.underlying85 rfl held85 (FitF.cons (x := (.int .i64 a.ffrom)) (y := (.int .i64 b.ffrom)) (by decide) rfl tyS3 ⟨rfl, rfl⟩ ⟨rfl, rfl⟩ (FitE.int (h := 0) a.ffrom b.ffrom Try.underlying3) (FitF.cons (x := (.int .i64 a.fto)) (y := (.int .i64 b.fto)) (by decide) rfl tyS3 ⟨rfl, rfl⟩ ⟨rfl, rfl⟩ (FitE.int (h := 0) a.fto b.fto Try.underlying3) FitF.nil)))⟩, fun a b h => by
  unfold keq85 at h
  simp at h
  simp [eI, e_matrix_pair, h]⟩

theorem tyU72 : Try.prog.underlying 72 = some (.map 85 23) := by kernel_rfl

theorem fnOk37 : FnOk Try.prog 37 := ⟨by kernel_rfl⟩

theorem tyE23 : TyE Try.prog 23 4 32 := ⟨by kernel_rfl, by decide⟩

theorem fnOk39 : FnOk Try.prog 39 := ⟨by kernel_rfl⟩

theorem fnOk47 : FnOk Try.prog 47 := ⟨by kernel_rfl⟩

theorem fnOk38 : FnOk Try.prog 38 := ⟨by kernel_rfl⟩

theorem fnOk15 : FnOk Try.prog 15 := ⟨by kernel_rfl⟩

theorem held23 : Program.stoodInHeld Try.prog 23 = false := by kernel_rfl

theorem eqg23 : Program.eqGuardType Try.prog (Program.depth Try.prog) 23 = false := by kernel_rfl

theorem fnOk10 : FnOk Try.prog 10 := ⟨by kernel_rfl⟩

theorem tyZS60 : TyZ Try.prog 60 (.st [.nils, (.d (.int .i64 (0 : Int)))]) := ⟨by kernel_rfl, fun w => by kernel_rfl⟩

theorem fnOk11 : FnOk Try.prog 11 := ⟨by kernel_rfl⟩

theorem fnOk30 : FnOk Try.prog 30 := ⟨by kernel_rfl⟩

theorem tyE54 : TyE Try.prog 54 6 48 := ⟨by kernel_rfl, by decide⟩

theorem fnOk12 : FnOk Try.prog 12 := ⟨by kernel_rfl⟩

theorem fnOk31 : FnOk Try.prog 31 := ⟨by kernel_rfl⟩

theorem tyZ70 : TyZ Try.prog 70 (.st [(.d (.int .i64 (0 : Int))), (.d (.int .i64 (0 : Int))), (.d (.int .i64 (0 : Int))), .nils, .nils, .nils, (.d (.int .i64 (0 : Int))), (.d (.int .i64 (0 : Int)))]) := ⟨by kernel_rfl, fun w => by kernel_rfl⟩

theorem fnOk32 : FnOk Try.prog 32 := ⟨by kernel_rfl⟩

theorem fnOk33 : FnOk Try.prog 33 := ⟨by kernel_rfl⟩

theorem fnOk40 : FnOk Try.prog 40 := ⟨by kernel_rfl⟩

theorem fnOk34 : FnOk Try.prog 34 := ⟨by kernel_rfl⟩

theorem fnOk16 : FnOk Try.prog 16 := ⟨by kernel_rfl⟩

theorem tyS27 : TyS Try.prog 27 1 false := ⟨by kernel_rfl, by kernel_rfl⟩

theorem tyZD27 : TyZ Try.prog 27 (.d (.list 4 (([] : List api_Cell).map e_api_Cell))) := ⟨by kernel_rfl, fun w => by kernel_rfl⟩

theorem fnOk17 : FnOk Try.prog 17 := ⟨by kernel_rfl⟩

theorem fnOk18 : FnOk Try.prog 18 := ⟨by kernel_rfl⟩

theorem fnOk19 : FnOk Try.prog 19 := ⟨by kernel_rfl⟩

theorem fnOk42 : FnOk Try.prog 42 := ⟨by kernel_rfl⟩

theorem fnOk41 : FnOk Try.prog 41 := ⟨by kernel_rfl⟩

theorem fnOk21 : FnOk Try.prog 21 := ⟨by kernel_rfl⟩

theorem fnOk22 : FnOk Try.prog 22 := ⟨by kernel_rfl⟩

theorem fnOk43 : FnOk Try.prog 43 := ⟨by kernel_rfl⟩

theorem fnOk23 : FnOk Try.prog 23 := ⟨by kernel_rfl⟩

theorem fnOk44 : FnOk Try.prog 44 := ⟨by kernel_rfl⟩

theorem fnOk25 : FnOk Try.prog 25 := ⟨by kernel_rfl⟩

theorem fnOk27 : FnOk Try.prog 27 := ⟨by kernel_rfl⟩

noncomputable def exchangepointmill_Mod (a0 : Int) (a1 : Int) : Option (Int) :=
  chk (decide (a1 ≠ 0)) <|
  jn (fun m3 : Int =>
  some m3) (fun j4 =>
  (if (decide ((Int.tmod a0 a1) < (0 : Int))) = true then
  j4 (w64 ((Int.tmod a0 a1) + a1))
  else
  j4 (Int.tmod a0 a1)))
set_option maxHeartbeats 4000000 in
set_option maxRecDepth 100000 in
theorem exchangepointmill_Mod_ac (a0 : Int) (a1 : Int) (r : Int) (h : exchangepointmill_Mod a0 a1 = some r) : AC Try.prog 7 [(.d (.int .i64 a0)), (.d (.int .i64 a1))] [] (.d (.int .i64 r)) [] := by
  refine AC.of_code2 Try.func7 rfl rfl (Nat.le_of_ble_eq_true (by rfl)) fun B hB hN => ?_
  delta exchangepointmill_Mod at h
  refine sr (c (OpJ.assign (ltN hN rfl) (Opd.int .i64 (0))) rfl cn) ?_
  refine gh [(0, _), (1, _)] [] hB rfl rfl (by rfl) ?_
  obtain ⟨hc1, h⟩ := chk_some h
  refine sr (c (mv hN (q 0)) rfl (c (mv hN (q 1)) rfl (c (OpJ.rem (ltN hN rfl) (q 6) (q 7) (of_decide_eq_true hc1)) rfl (c (OpJ.assign (ltN hN rfl) (q 8)) rfl cn)))) ?_
  refine gh [(1, _), (5, _)] [] hB rfl rfl (by rfl) ?_
  refine AWp.seq ?_
  refine sr (c (mv hN (q 5)) rfl (c (OpJ.lss (ltN hN rfl) (q 9) (Opd.int .i64 (0))) rfl cn)) ?_
  refine gh [(1, _), (5, _), (10, _)] [] hB rfl rfl (by rfl) ?_
  refine AWp.cut h (fun m3 : Int => ([(5, (i6 m3))] : EL)) (fun m3 : Int => ([] : OL)) (fun m3 h E' O' hmat => ?_) (fun j4 hjj4 h => ?_)
  · refine seqQ_n ?_
    refine AWp.ghost hmat ?_
    refine sr (c (mv hN (q 5)) rfl (c (OpJ.assign (ltN hN rfl) (q 14)) rfl cn)) ?_
    refine gh [(4, _)] [] hB rfl rfl (by rfl) ?_
    refine AWp.ret ?_
    obtain rfl := Option.some.inj h
    exact ⟨.inl rfl, _, _, (kp [(4, _)] [] hB rfl rfl (by rfl)), [(i6 m3)], (Res.tmp (by rfl) (by rfl) Res.nil), rfl, by rfl, by rfl, by rfl⟩
  · refine AWp.cond rfl (fun hg5 => ?_) (fun hg5 => ?_)
    · replace h := ite_t hg5 h
      refine rg (c (mv hN (q 5)) rfl (c (mv hN (q 1)) rfl (c (add6 (ltN hN rfl) (q 11) (q 12)) rfl (c (OpJ.assign (ltN hN rfl) (q 13)) rfl cn)))) ?_
      exact hjj4 _ h _ _ (Mat.trans (mp [] [(5, (i6 (w64 ((Int.tmod a0 a1) + a1))))] [] hB) (mp [] _ _ hB))
    · replace h := ite_f hg5 h
      refine AWp.skip ?_
      exact hjj4 _ h _ _ (mp [] _ _ hB)

noncomputable def bits_Mul64 (a0 : Int) (a1 : Int) : Option (Int × Int) :=
  some ((IntKind.u64.wrap ((IntKind.u64.wrap ((IntKind.u64.wrap ((shrI .u64 a0 (32 : Int)) * (shrI .u64 a1 (32 : Int)))) + (shrI .u64 (IntKind.u64.wrap ((IntKind.u64.wrap ((shrI .u64 a0 (32 : Int)) * (bitI .and .u64 a1 (4294967295 : Int)))) + (shrI .u64 (IntKind.u64.wrap ((bitI .and .u64 a0 (4294967295 : Int)) * (bitI .and .u64 a1 (4294967295 : Int)))) (32 : Int)))) (32 : Int)))) + (shrI .u64 (IntKind.u64.wrap ((bitI .and .u64 (IntKind.u64.wrap ((IntKind.u64.wrap ((shrI .u64 a0 (32 : Int)) * (bitI .and .u64 a1 (4294967295 : Int)))) + (shrI .u64 (IntKind.u64.wrap ((bitI .and .u64 a0 (4294967295 : Int)) * (bitI .and .u64 a1 (4294967295 : Int)))) (32 : Int)))) (4294967295 : Int)) + (IntKind.u64.wrap ((bitI .and .u64 a0 (4294967295 : Int)) * (shrI .u64 a1 (32 : Int)))))) (32 : Int)))), (IntKind.u64.wrap (a0 * a1)))
set_option maxHeartbeats 4000000 in
set_option maxRecDepth 100000 in
theorem bits_Mul64_ac (a0 : Int) (a1 : Int) (r : Int × Int) (h : bits_Mul64 a0 a1 = some r) : AC Try.prog 28 [(.d (.int .u64 a0)), (.d (.int .u64 a1))] [] (.tup [(.d (.int .u64 r.1)), (.d (.int .u64 r.2))]) [] := by
  refine AC.of_code2 Try.func28 rfl rfl (Nat.le_of_ble_eq_true (by rfl)) fun B hB hN => ?_
  have L {d : Nat} (h : Nat.blt d Try.f28.ntmps = true) : d < B.N := ltN hN h
  delta bits_Mul64 at h
  refine sr (c (OpJ.assign (L rfl) (Opd.int .u64 (0))) rfl (c (OpJ.assign (L rfl) (Opd.int .u64 (0))) rfl cn)) ?_
  refine gh [(0, _), (1, _)] [] hB rfl rfl (by rfl) ?_
  refine sr (c (mv hN (q 0)) rfl (c (OpJ.bits (.inl rfl) (L rfl) (q 14) (Opd.int .u64 (4294967295))) rfl (c (OpJ.assign (L rfl) (q 15)) rfl cn))) ?_
  refine gh [(0, _), (1, _), (6, _)] [] hB rfl rfl (by rfl) ?_
  refine sr (c (mv hN (q 0)) rfl (c (OpJ.shr (L rfl) (q 16) (Opd.int .u64 (32)) (by decide)) rfl (c (OpJ.assign (L rfl) (q 17)) rfl cn))) ?_
  refine gh [(0, _), (1, _), (6, _), (7, _)] [] hB rfl rfl (by rfl) ?_
  refine sr (c (mv hN (q 1)) rfl (c (OpJ.bits (.inl rfl) (L rfl) (q 18) (Opd.int .u64 (4294967295))) rfl (c (OpJ.assign (L rfl) (q 19)) rfl cn))) ?_
  refine gh [(0, _), (1, _), (6, _), (7, _), (8, _)] [] hB rfl rfl (by rfl) ?_
  refine sr (c (mv hN (q 1)) rfl (c (OpJ.shr (L rfl) (q 20) (Opd.int .u64 (32)) (by decide)) rfl (c (OpJ.assign (L rfl) (q 21)) rfl cn))) ?_
  refine gh [(0, _), (1, _), (6, _), (7, _), (8, _), (9, _)] [] hB rfl rfl (by rfl) ?_
  refine sr (c (mv hN (q 6)) rfl (c (mv hN (q 8)) rfl (c (OpJ.mul (L rfl) (q 22) (q 23)) rfl (c (OpJ.assign (L rfl) (q 24)) rfl cn)))) ?_
  refine gh [(0, _), (1, _), (6, _), (7, _), (8, _), (9, _), (10, _)] [] hB rfl rfl (by rfl) ?_
  refine sr (c (mv hN (q 7)) rfl (c (mv hN (q 8)) rfl (c (OpJ.mul (L rfl) (q 25) (q 26)) rfl (c (mv hN (q 10)) rfl (c (OpJ.shr (L rfl) (q 28) (Opd.int .u64 (32)) (by decide)) rfl (c (OpJ.add (L rfl) (q 27) (q 29)) rfl (c (OpJ.assign (L rfl) (q 30)) rfl cn))))))) ?_
  refine gh [(0, _), (1, _), (6, _), (7, _), (9, _), (11, _)] [] hB rfl rfl (by rfl) ?_
  refine sr (c (mv hN (q 11)) rfl (c (OpJ.bits (.inl rfl) (L rfl) (q 31) (Opd.int .u64 (4294967295))) rfl (c (OpJ.assign (L rfl) (q 32)) rfl cn))) ?_
  refine gh [(0, _), (1, _), (6, _), (7, _), (9, _), (11, _), (12, _)] [] hB rfl rfl (by rfl) ?_
  refine sr (c (mv hN (q 11)) rfl (c (OpJ.shr (L rfl) (q 33) (Opd.int .u64 (32)) (by decide)) rfl (c (OpJ.assign (L rfl) (q 34)) rfl cn))) ?_
  refine gh [(0, _), (1, _), (6, _), (7, _), (9, _), (12, _), (13, _)] [] hB rfl rfl (by rfl) ?_
  refine sr (c (mv hN (q 12)) rfl (c (mv hN (q 6)) rfl (c (mv hN (q 9)) rfl (c (OpJ.mul (L rfl) (q 36) (q 37)) rfl (c (OpJ.add (L rfl) (q 35) (q 38)) rfl (c (OpJ.assign (L rfl) (q 39)) rfl cn)))))) ?_
  refine gh [(0, _), (1, _), (7, _), (9, _), (12, _), (13, _)] [] hB rfl rfl (by rfl) ?_
  refine sr (c (mv hN (q 7)) rfl (c (mv hN (q 9)) rfl (c (OpJ.mul (L rfl) (q 40) (q 41)) rfl (c (mv hN (q 13)) rfl (c (OpJ.add (L rfl) (q 42) (q 43)) rfl (c (mv hN (q 12)) rfl (c (OpJ.shr (L rfl) (q 45) (Opd.int .u64 (32)) (by decide)) rfl (c (OpJ.add (L rfl) (q 44) (q 46)) rfl (c (OpJ.assign (L rfl) (q 47)) rfl cn))))))))) ?_
  refine gh [(0, _), (1, _), (4, _)] [] hB rfl rfl (by rfl) ?_
  refine sr (c (mv hN (q 0)) rfl (c (mv hN (q 1)) rfl (c (OpJ.mul (L rfl) (q 48) (q 49)) rfl (c (OpJ.assign (L rfl) (q 50)) rfl cn)))) ?_
  refine gh [(4, _), (5, _)] [] hB rfl rfl (by rfl) ?_
  refine AWp.ret ?_
  obtain rfl := Option.some.inj h
  exact ⟨.inl rfl, _, _, (kp [(4, _), (5, _)] [] hB rfl rfl (by rfl)), [(.d (.int .u64 (IntKind.u64.wrap ((IntKind.u64.wrap ((IntKind.u64.wrap ((shrI .u64 a0 (32 : Int)) * (shrI .u64 a1 (32 : Int)))) + (shrI .u64 (IntKind.u64.wrap ((IntKind.u64.wrap ((shrI .u64 a0 (32 : Int)) * (bitI .and .u64 a1 (4294967295 : Int)))) + (shrI .u64 (IntKind.u64.wrap ((bitI .and .u64 a0 (4294967295 : Int)) * (bitI .and .u64 a1 (4294967295 : Int)))) (32 : Int)))) (32 : Int)))) + (shrI .u64 (IntKind.u64.wrap ((bitI .and .u64 (IntKind.u64.wrap ((IntKind.u64.wrap ((shrI .u64 a0 (32 : Int)) * (bitI .and .u64 a1 (4294967295 : Int)))) + (shrI .u64 (IntKind.u64.wrap ((bitI .and .u64 a0 (4294967295 : Int)) * (bitI .and .u64 a1 (4294967295 : Int)))) (32 : Int)))) (4294967295 : Int)) + (IntKind.u64.wrap ((bitI .and .u64 a0 (4294967295 : Int)) * (shrI .u64 a1 (32 : Int)))))) (32 : Int)))))), (.d (.int .u64 (IntKind.u64.wrap (a0 * a1))))], (Res.tmp (by rfl) (by rfl) (Res.tmp (by rfl) (by rfl) Res.nil)), rfl, by rfl, by rfl, by rfl⟩

noncomputable def bits_Len64 (a0 : Int) : Option (Int) :=
  jn (fun m2 : Int × Int =>
  jn (fun m5 : Int × Int =>
  jn (fun m8 : Int × Int =>
  (idx ([0, 1, 2, 2, 3, 3, 3, 3, 4, 4, 4, 4, 4, 4, 4, 4, 5, 5, 5, 5, 5, 5, 5, 5, 5, 5, 5, 5, 5, 5, 5, 5, 6, 6, 6, 6, 6, 6, 6, 6, 6, 6, 6, 6, 6, 6, 6, 6, 6, 6, 6, 6, 6, 6, 6, 6, 6, 6, 6, 6, 6, 6, 6, 6, 7, 7, 7, 7, 7, 7, 7, 7, 7, 7, 7, 7, 7, 7, 7, 7, 7, 7, 7, 7, 7, 7, 7, 7, 7, 7, 7, 7, 7, 7, 7, 7, 7, 7, 7, 7, 7, 7, 7, 7, 7, 7, 7, 7, 7, 7, 7, 7, 7, 7, 7, 7, 7, 7, 7, 7, 7, 7, 7, 7, 7, 7, 7, 7, 8, 8, 8, 8, 8, 8, 8, 8, 8, 8, 8, 8, 8, 8, 8, 8, 8, 8, 8, 8, 8, 8, 8, 8, 8, 8, 8, 8, 8, 8, 8, 8, 8, 8, 8, 8, 8, 8, 8, 8, 8, 8, 8, 8, 8, 8, 8, 8, 8, 8, 8, 8, 8, 8, 8, 8, 8, 8, 8, 8, 8, 8, 8, 8, 8, 8, 8, 8, 8, 8, 8, 8, 8, 8, 8, 8, 8, 8, 8, 8, 8, 8, 8, 8, 8, 8, 8, 8, 8, 8, 8, 8, 8, 8, 8, 8, 8, 8, 8, 8, 8, 8, 8, 8, 8, 8, 8, 8, 8, 8, 8, 8, 8, 8, 8, 8, 8, 8, 8, 8, 8, 8, 8, 8, 8, 8, 8, 8] : List UInt8) (IntKind.u8.wrap m8.1)).bind fun x10 =>
  some (w64 (m8.2 + (w64 (x10.toNat : Int))))) (fun j9 =>
  (if (decide ((256 : Int) ≤ m5.1)) = true then
  j9 ((shrI .u64 m5.1 (8 : Int)), (w64 (m5.2 + (8 : Int))))
  else
  j9 (m5.1, m5.2)))) (fun j6 =>
  (if (decide ((65536 : Int) ≤ m2.1)) = true then
  j6 ((shrI .u64 m2.1 (16 : Int)), (w64 (m2.2 + (16 : Int))))
  else
  j6 (m2.1, m2.2)))) (fun j3 =>
  (if (decide ((4294967296 : Int) ≤ a0)) = true then
  j3 ((shrI .u64 a0 (32 : Int)), (32 : Int))
  else
  j3 (a0, (0 : Int))))
set_option maxHeartbeats 4000000 in
set_option maxRecDepth 100000 in
theorem bits_Len64_ac (a0 : Int) (r : Int) (h : bits_Len64 a0 = some r) : AC Try.prog 48 [(.d (.int .u64 a0))] [] (.d (.int .i64 r)) [] := by
  refine AC.of_code2 Try.func48 rfl rfl (Nat.le_of_ble_eq_true (by rfl)) fun B hB hN => ?_
  have L {d : Nat} (h : Nat.blt d Try.f48.ntmps = true) : d < B.N := ltN hN h
  delta bits_Len64 at h
  refine sr (c (OpJ.assign (L rfl) (Opd.int .i64 (0))) rfl cn) ?_
  refine gh [(0, _), (2, _)] [] hB rfl rfl (by rfl) ?_
  refine AWp.seq ?_
  refine sr (c (mv hN (q 0)) rfl (c (OpJ.geq (L rfl) (q 3) (Opd.int .u64 (4294967296))) rfl cn)) ?_
  refine gh [(0, _), (2, _), (4, _)] [] hB rfl rfl (by rfl) ?_
  refine AWp.cut h (fun m2 : Int × Int => ([(0, (.d (.int .u64 m2.1))), (2, (i6 m2.2))] : EL)) (fun m2 : Int × Int => ([] : OL)) (fun m2 h E' O' hmat => ?_) (fun j3 hjj3 h => ?_)
  · refine seqQ_n ?_
    refine AWp.ghost hmat ?_
    refine AWp.seq ?_
    refine sr (c (mv hN (q 0)) rfl (c (OpJ.geq (L rfl) (q 7) (Opd.int .u64 (65536))) rfl cn)) ?_
    refine gh [(0, _), (2, _), (8, _)] [] hB rfl rfl (by rfl) ?_
    refine AWp.cut h (fun m5 : Int × Int => ([(0, (.d (.int .u64 m5.1))), (2, (i6 m5.2))] : EL)) (fun m5 : Int × Int => ([] : OL)) (fun m5 h E' O' hmat => ?_) (fun j6 hjj6 h => ?_)
    · refine seqQ_n ?_
      refine AWp.ghost hmat ?_
      refine AWp.seq ?_
      refine sr (c (mv hN (q 0)) rfl (c (OpJ.geq (L rfl) (q 13) (Opd.int .u64 (256))) rfl cn)) ?_
      refine gh [(0, _), (2, _), (14, _)] [] hB rfl rfl (by rfl) ?_
      refine AWp.cut h (fun m8 : Int × Int => ([(0, (.d (.int .u64 m8.1))), (2, (i6 m8.2))] : EL)) (fun m8 : Int × Int => ([] : OL)) (fun m8 h E' O' hmat => ?_) (fun j9 hjj9 h => ?_)
      · refine seqQ_n ?_
        refine AWp.ghost hmat ?_
        obtain ⟨x10, hx10, h⟩ := bindS h
        refine sr (c (mv hN (q 2)) rfl (c (mv hN (q 0)) rfl (c (OpJ.conv Try.underlying55 Try.underlying5 (L rfl) (q 20)) rfl (cg (OpJ.indexStr Try.underlying9 (idx_some hx10).1 (idx_some hx10).2 (L rfl) (Opd.str ([0, 1, 2, 2, 3, 3, 3, 3, 4, 4, 4, 4, 4, 4, 4, 4, 5, 5, 5, 5, 5, 5, 5, 5, 5, 5, 5, 5, 5, 5, 5, 5, 6, 6, 6, 6, 6, 6, 6, 6, 6, 6, 6, 6, 6, 6, 6, 6, 6, 6, 6, 6, 6, 6, 6, 6, 6, 6, 6, 6, 6, 6, 6, 6, 7, 7, 7, 7, 7, 7, 7, 7, 7, 7, 7, 7, 7, 7, 7, 7, 7, 7, 7, 7, 7, 7, 7, 7, 7, 7, 7, 7, 7, 7, 7, 7, 7, 7, 7, 7, 7, 7, 7, 7, 7, 7, 7, 7, 7, 7, 7, 7, 7, 7, 7, 7, 7, 7, 7, 7, 7, 7, 7, 7, 7, 7, 7, 7, 8, 8, 8, 8, 8, 8, 8, 8, 8, 8, 8, 8, 8, 8, 8, 8, 8, 8, 8, 8, 8, 8, 8, 8, 8, 8, 8, 8, 8, 8, 8, 8, 8, 8, 8, 8, 8, 8, 8, 8, 8, 8, 8, 8, 8, 8, 8, 8, 8, 8, 8, 8, 8, 8, 8, 8, 8, 8, 8, 8, 8, 8, 8, 8, 8, 8, 8, 8, 8, 8, 8, 8, 8, 8, 8, 8, 8, 8, 8, 8, 8, 8, 8, 8, 8, 8, 8, 8, 8, 8, 8, 8, 8, 8, 8, 8, 8, 8, 8, 8, 8, 8, 8, 8, 8, 8, 8, 8, 8, 8, 8, 8, 8, 8, 8, 8, 8, 8, 8, 8, 8, 8, 8, 8, 8, 8, 8, 8] : List UInt8) _ rfl) (q 21)) rfl (c (conv6 Try.underlying5 Try.underlying3 (L rfl) (q 22)) rfl (c (add6 (L rfl) (q 19) (q 23)) rfl (c (OpJ.assign (L rfl) (q 24)) rfl cn))))))) ?_
        refine gh [(2, _)] [] hB rfl rfl (by rfl) ?_
        refine AWp.ret ?_
        obtain rfl := Option.some.inj h
        exact ⟨.inl rfl, _, _, (kp [(2, _)] [] hB rfl rfl (by rfl)), [(i6 (w64 (m8.2 + (w64 (x10.toNat : Int)))))], (Res.tmp (by rfl) (by rfl) Res.nil), rfl, by rfl, by rfl, by rfl⟩
      · refine AWp.cond rfl (fun hg11 => ?_) (fun hg11 => ?_)
        · replace h := ite_t hg11 h
          refine sr (c (mv hN (q 0)) rfl (c (OpJ.shr (L rfl) (q 15) (Opd.int .u64 (8)) (by decide)) rfl (c (OpJ.assign (L rfl) (q 16)) rfl cn))) ?_
          refine gh [(0, _), (2, _)] [] hB rfl rfl (by rfl) ?_
          refine rg (c (mv hN (q 2)) rfl (c (add6 (L rfl) (q 17) (Opd.int .i64 (8))) rfl (c (OpJ.assign (L rfl) (q 18)) rfl cn))) ?_
          exact hjj9 _ h _ _ (Mat.trans (mp [] [(0, (.d (.int .u64 (shrI .u64 m5.1 (8 : Int))))), (2, (i6 (w64 (m5.2 + (8 : Int)))))] [] hB) (mp [] _ _ hB))
        · replace h := ite_f hg11 h
          refine AWp.skip ?_
          exact hjj9 _ h _ _ (mp [] _ _ hB)
    · refine AWp.cond rfl (fun hg12 => ?_) (fun hg12 => ?_)
      · replace h := ite_t hg12 h
        refine sr (c (mv hN (q 0)) rfl (c (OpJ.shr (L rfl) (q 9) (Opd.int .u64 (16)) (by decide)) rfl (c (OpJ.assign (L rfl) (q 10)) rfl cn))) ?_
        refine gh [(0, _), (2, _)] [] hB rfl rfl (by rfl) ?_
        refine rg (c (mv hN (q 2)) rfl (c (add6 (L rfl) (q 11) (Opd.int .i64 (16))) rfl (c (OpJ.assign (L rfl) (q 12)) rfl cn))) ?_
        exact hjj6 _ h _ _ (Mat.trans (mp [] [(0, (.d (.int .u64 (shrI .u64 m2.1 (16 : Int))))), (2, (i6 (w64 (m2.2 + (16 : Int)))))] [] hB) (mp [] _ _ hB))
      · replace h := ite_f hg12 h
        refine AWp.skip ?_
        exact hjj6 _ h _ _ (mp [] _ _ hB)
  · refine AWp.cond rfl (fun hg13 => ?_) (fun hg13 => ?_)
    · replace h := ite_t hg13 h
      refine sr (c (mv hN (q 0)) rfl (c (OpJ.shr (L rfl) (q 5) (Opd.int .u64 (32)) (by decide)) rfl (c (OpJ.assign (L rfl) (q 6)) rfl cn))) ?_
      refine gh [(0, _)] [] hB rfl rfl (by rfl) ?_
      refine rg (c (OpJ.assign (L rfl) (Opd.int .i64 (32))) rfl cn) ?_
      exact hjj3 _ h _ _ (Mat.trans (mp [] [(0, (.d (.int .u64 (shrI .u64 a0 (32 : Int))))), (2, (i6 (32 : Int)))] [] hB) (mp [] _ _ hB))
    · replace h := ite_f hg13 h
      refine AWp.skip ?_
      exact hjj3 _ h _ _ (mp [] _ _ hB)

noncomputable def bits_LeadingZeros64 (a0 : Int) : Option (Int) :=
  (bits_Len64 a0).bind fun r1 =>
  some (w64 ((64 : Int) - r1))
set_option maxHeartbeats 4000000 in
set_option maxRecDepth 100000 in
theorem bits_LeadingZeros64_ac (a0 : Int) (r : Int) (h : bits_LeadingZeros64 a0 = some r) : AC Try.prog 45 [(.d (.int .u64 a0))] [] (.d (.int .i64 r)) [] := by
  refine AC.of_code2 Try.func45 rfl rfl (Nat.le_of_ble_eq_true (by rfl)) fun B hB hN => ?_
  delta bits_LeadingZeros64 at h
  refine sr (c (OpJ.assign (ltN hN rfl) (Opd.int .i64 (0))) rfl cn) ?_
  refine gh [(0, _)] [] hB rfl rfl (by rfl) ?_
  obtain ⟨r1, hr1, h⟩ := bindS h
  refine sr (c (mv hN (q 0)) rfl (cg (OpJ.callFn hB fnOk48 (bits_Len64_ac a0 r1 hr1) [] (by kernel_rfl) (ltN hN rfl) (by kernel_rfl) (OpdL.cons (q 3) OpdL.nil)) rfl (c (sub6 (ltN hN rfl) (Opd.int .i64 (64)) (q 4)) rfl (c (OpJ.assign (ltN hN rfl) (q 5)) rfl cn)))) ?_
  refine gh [(2, _)] [] hB rfl rfl (by rfl) ?_
  refine AWp.ret ?_
  obtain rfl := Option.some.inj h
  exact ⟨.inl rfl, _, _, (kp [(2, _)] [] hB rfl rfl (by rfl)), [(i6 (w64 ((64 : Int) - r1)))], (Res.tmp (by rfl) (by rfl) Res.nil), rfl, by rfl, by rfl, by rfl⟩

noncomputable def bits_Div64_L0 (a1 : Int) (a2 : Int) (r8 : Int) (s10 : Int × Int) : Option (((Int)) ⊕ (Int × Int)) :=
  (if ((decide ((4294967296 : Int) ≤ s10.1)) || (decide ((IntKind.u64.wrap ((IntKind.u64.wrap ((4294967296 : Int) * s10.2)) + (shrI .u64 (shlI .u64 a1 (IntKind.u64.wrap r8)) (32 : Int)))) < (IntKind.u64.wrap (s10.1 * (bitI .and .u64 (shlI .u64 a2 (IntKind.u64.wrap r8)) (4294967295 : Int))))))) = true then
  (if (decide ((4294967296 : Int) ≤ (IntKind.u64.wrap (s10.2 + (shrI .u64 (shlI .u64 a2 (IntKind.u64.wrap r8)) (32 : Int)))))) = true then
  some (.inl (IntKind.u64.wrap (s10.1 - (1 : Int))))
  else
  some (.inr ((IntKind.u64.wrap (s10.1 - (1 : Int))), (IntKind.u64.wrap (s10.2 + (shrI .u64 (shlI .u64 a2 (IntKind.u64.wrap r8)) (32 : Int)))))))
  else
  some (.inl s10.1))
noncomputable def bits_Div64_L1 (a1 : Int) (a2 : Int) (r8 : Int) (s21 : Int × Int) : Option (((Int)) ⊕ (Int × Int)) :=
  (if ((decide ((4294967296 : Int) ≤ s21.2)) || (decide ((IntKind.u64.wrap ((IntKind.u64.wrap ((4294967296 : Int) * s21.1)) + (bitI .and .u64 (shlI .u64 a1 (IntKind.u64.wrap r8)) (4294967295 : Int)))) < (IntKind.u64.wrap (s21.2 * (bitI .and .u64 (shlI .u64 a2 (IntKind.u64.wrap r8)) (4294967295 : Int))))))) = true then
  (if (decide ((4294967296 : Int) ≤ (IntKind.u64.wrap (s21.1 + (shrI .u64 (shlI .u64 a2 (IntKind.u64.wrap r8)) (32 : Int)))))) = true then
  some (.inl (IntKind.u64.wrap (s21.2 - (1 : Int))))
  else
  some (.inr ((IntKind.u64.wrap (s21.1 + (shrI .u64 (shlI .u64 a2 (IntKind.u64.wrap r8)) (32 : Int)))), (IntKind.u64.wrap (s21.2 - (1 : Int))))))
  else
  some (.inl s21.2))
noncomputable def bits_Div64 (a0 : Int) (a1 : Int) (a2 : Int) : Option (Int × Int) :=
  (if (a2 == (0 : Int)) = true then
  none
  else
  (if (decide (a2 ≤ a0)) = true then
  none
  else
  (if (a0 == (0 : Int)) = true then
  chk (decide (a2 ≠ 0)) <|
  chk (decide (a2 ≠ 0)) <|
  some ((IntKind.u64.wrap (Int.tdiv a1 a2)), (Int.tmod a1 a2))
  else
  (bits_LeadingZeros64 a2).bind fun r8 =>
  chk (decide ((shrI .u64 (shlI .u64 a2 (IntKind.u64.wrap r8)) (32 : Int)) ≠ 0)) <|
  (loop (bits_Div64_L0 a1 a2 r8) ((IntKind.u64.wrap (Int.tdiv (bitI .or .u64 (shlI .u64 a0 (IntKind.u64.wrap r8)) (shrI .u64 a1 (IntKind.u64.wrap ((64 : Int) - (IntKind.u64.wrap r8))))) (shrI .u64 (shlI .u64 a2 (IntKind.u64.wrap r8)) (32 : Int)))), (IntKind.u64.wrap ((bitI .or .u64 (shlI .u64 a0 (IntKind.u64.wrap r8)) (shrI .u64 a1 (IntKind.u64.wrap ((64 : Int) - (IntKind.u64.wrap r8))))) - (IntKind.u64.wrap ((IntKind.u64.wrap (Int.tdiv (bitI .or .u64 (shlI .u64 a0 (IntKind.u64.wrap r8)) (shrI .u64 a1 (IntKind.u64.wrap ((64 : Int) - (IntKind.u64.wrap r8))))) (shrI .u64 (shlI .u64 a2 (IntKind.u64.wrap r8)) (32 : Int)))) * (shrI .u64 (shlI .u64 a2 (IntKind.u64.wrap r8)) (32 : Int)))))))).bind fun p15 =>
  chk (decide ((shrI .u64 (shlI .u64 a2 (IntKind.u64.wrap r8)) (32 : Int)) ≠ 0)) <|
  (loop (bits_Div64_L1 a1 a2 r8) ((IntKind.u64.wrap ((IntKind.u64.wrap ((IntKind.u64.wrap ((IntKind.u64.wrap ((bitI .or .u64 (shlI .u64 a0 (IntKind.u64.wrap r8)) (shrI .u64 a1 (IntKind.u64.wrap ((64 : Int) - (IntKind.u64.wrap r8))))) * (4294967296 : Int))) + (shrI .u64 (shlI .u64 a1 (IntKind.u64.wrap r8)) (32 : Int)))) - (IntKind.u64.wrap (p15 * (shlI .u64 a2 (IntKind.u64.wrap r8)))))) - (IntKind.u64.wrap ((IntKind.u64.wrap (Int.tdiv (IntKind.u64.wrap ((IntKind.u64.wrap ((IntKind.u64.wrap ((bitI .or .u64 (shlI .u64 a0 (IntKind.u64.wrap r8)) (shrI .u64 a1 (IntKind.u64.wrap ((64 : Int) - (IntKind.u64.wrap r8))))) * (4294967296 : Int))) + (shrI .u64 (shlI .u64 a1 (IntKind.u64.wrap r8)) (32 : Int)))) - (IntKind.u64.wrap (p15 * (shlI .u64 a2 (IntKind.u64.wrap r8)))))) (shrI .u64 (shlI .u64 a2 (IntKind.u64.wrap r8)) (32 : Int)))) * (shrI .u64 (shlI .u64 a2 (IntKind.u64.wrap r8)) (32 : Int)))))), (IntKind.u64.wrap (Int.tdiv (IntKind.u64.wrap ((IntKind.u64.wrap ((IntKind.u64.wrap ((bitI .or .u64 (shlI .u64 a0 (IntKind.u64.wrap r8)) (shrI .u64 a1 (IntKind.u64.wrap ((64 : Int) - (IntKind.u64.wrap r8))))) * (4294967296 : Int))) + (shrI .u64 (shlI .u64 a1 (IntKind.u64.wrap r8)) (32 : Int)))) - (IntKind.u64.wrap (p15 * (shlI .u64 a2 (IntKind.u64.wrap r8)))))) (shrI .u64 (shlI .u64 a2 (IntKind.u64.wrap r8)) (32 : Int)))))).bind fun p26 =>
  some ((IntKind.u64.wrap ((IntKind.u64.wrap (p15 * (4294967296 : Int))) + p26)), (shrI .u64 (IntKind.u64.wrap ((IntKind.u64.wrap ((IntKind.u64.wrap ((IntKind.u64.wrap ((IntKind.u64.wrap ((IntKind.u64.wrap ((bitI .or .u64 (shlI .u64 a0 (IntKind.u64.wrap r8)) (shrI .u64 a1 (IntKind.u64.wrap ((64 : Int) - (IntKind.u64.wrap r8))))) * (4294967296 : Int))) + (shrI .u64 (shlI .u64 a1 (IntKind.u64.wrap r8)) (32 : Int)))) - (IntKind.u64.wrap (p15 * (shlI .u64 a2 (IntKind.u64.wrap r8)))))) * (4294967296 : Int))) + (bitI .and .u64 (shlI .u64 a1 (IntKind.u64.wrap r8)) (4294967295 : Int)))) - (IntKind.u64.wrap (p26 * (shlI .u64 a2 (IntKind.u64.wrap r8)))))) (IntKind.u64.wrap r8))))))
set_option maxHeartbeats 4000000 in
set_option maxRecDepth 100000 in
theorem bits_Div64_ac (a0 : Int) (a1 : Int) (a2 : Int) (r : Int × Int) (h : bits_Div64 a0 a1 a2 = some r) : AC Try.prog 29 [(.d (.int .u64 a0)), (.d (.int .u64 a1)), (.d (.int .u64 a2))] [] (.tup [(.d (.int .u64 r.1)), (.d (.int .u64 r.2))]) [] := by
  refine AC.of_code2 Try.func29 rfl rfl (Nat.le_of_ble_eq_true (by rfl)) fun B hB hN => ?_
  have L {d : Nat} (h : Nat.blt d Try.f29.ntmps = true) : d < B.N := ltN hN h
  delta bits_Div64 at h
  refine sr (c (OpJ.assign (L rfl) (Opd.int .u64 (0))) rfl (c (OpJ.assign (L rfl) (Opd.int .u64 (0))) rfl cn)) ?_
  refine gh [(0, _), (1, _), (2, _)] [] hB rfl rfl (by rfl) ?_
  refine AWp.seq ?_
  refine sr (c (mv hN (q 2)) rfl (c (OpJ.eqlI (L rfl) (q 19) (Opd.int .u64 (0))) rfl cn)) ?_
  refine gh [(0, _), (1, _), (2, _), (20, _)] [] hB rfl rfl (by rfl) ?_
  refine AWp.cond rfl (fun hg2 => ?_) (fun hg2 => ?_)
  · replace h := ite_t hg2 h
    cases h
  · replace h := ite_f hg2 h
    refine AWp.skip ?_
    refine seqQ_n ?_
    refine AWp.seq ?_
    refine sr (c (mv hN (q 2)) rfl (c (mv hN (q 0)) rfl (c (OpJ.leq (L rfl) (q 22) (q 23)) rfl cn))) ?_
    refine gh [(0, _), (1, _), (2, _), (24, _)] [] hB rfl rfl (by rfl) ?_
    refine AWp.cond rfl (fun hg4 => ?_) (fun hg4 => ?_)
    · replace h := ite_t hg4 h
      cases h
    · replace h := ite_f hg4 h
      refine AWp.skip ?_
      refine seqQ_n ?_
      refine AWp.seq ?_
      refine sr (c (mv hN (q 0)) rfl (c (OpJ.eqlI (L rfl) (q 26) (Opd.int .u64 (0))) rfl cn)) ?_
      refine gh [(0, _), (1, _), (2, _), (27, _)] [] hB rfl rfl (by rfl) ?_
      refine AWp.cond rfl (fun hg5 => ?_) (fun hg5 => ?_)
      · replace h := ite_t hg5 h
        obtain ⟨hc6, h⟩ := chk_some h
        obtain ⟨hc7, h⟩ := chk_some h
        refine sd (c (mv hN (q 1)) rfl (c (mv hN (q 2)) rfl (c (OpJ.quo (L rfl) (q 28) (q 29) (of_decide_eq_true hc6)) rfl (c (mv hN (q 1)) rfl (c (mv hN (q 2)) rfl (c (OpJ.rem (L rfl) (q 31) (q 32) (of_decide_eq_true hc7)) rfl (c (OpJ.assign (L rfl) (q 30)) rfl (c (OpJ.assign (L rfl) (q 33)) rfl cn)))))))) (by kernel_rfl) (by kernel_rfl) ?_
        refine gh [(6, _), (7, _)] [] hB rfl rfl (by rfl) ?_
        refine AWp.ret ?_
        refine seqQ_r ?_
        obtain rfl := Option.some.inj h
        exact ⟨.inl rfl, _, _, (kp [(6, _), (7, _)] [] hB rfl rfl (by rfl)), [(.d (.int .u64 (IntKind.u64.wrap (Int.tdiv a1 a2)))), (.d (.int .u64 (Int.tmod a1 a2)))], (Res.tmp (by rfl) (by rfl) (Res.tmp (by rfl) (by rfl) Res.nil)), rfl, by rfl, by rfl, by rfl⟩
      · replace h := ite_f hg5 h
        refine AWp.skip ?_
        refine seqQ_n ?_
        obtain ⟨r8, hr8, h⟩ := bindS h
        refine sr (c (mv hN (q 2)) rfl (cg (OpJ.callFn hB fnOk45 (bits_LeadingZeros64_ac a2 r8 hr8) [] (by kernel_rfl) (L rfl) (by kernel_rfl) (OpdL.cons (q 34) OpdL.nil)) rfl (c (OpJ.conv Try.underlying3 Try.underlying79 (L rfl) (q 35)) rfl (c (OpJ.assign (L rfl) (q 36)) rfl cn)))) ?_
        refine gh [(0, _), (1, _), (2, _), (8, _)] [] hB rfl rfl (by rfl) ?_
        refine sr (c (mv hN (q 2)) rfl (c (mv hN (q 8)) rfl (c (OpJ.shl (L rfl) (q 37) (q 38) (wrap_nonneg rfl _)) rfl (c (OpJ.assign (L rfl) (q 39)) rfl cn)))) ?_
        refine gh [(0, _), (1, _), (2, _), (8, _)] [] hB rfl rfl (by rfl) ?_
        refine sr (c (mv hN (q 2)) rfl (c (OpJ.shr (L rfl) (q 40) (Opd.int .u64 (32)) (by decide)) rfl (c (OpJ.assign (L rfl) (q 41)) rfl cn))) ?_
        refine gh [(0, _), (1, _), (2, _), (8, _), (9, _)] [] hB rfl rfl (by rfl) ?_
        refine sr (c (mv hN (q 2)) rfl (c (OpJ.bits (.inl rfl) (L rfl) (q 42) (Opd.int .u64 (4294967295))) rfl (c (OpJ.assign (L rfl) (q 43)) rfl cn))) ?_
        refine gh [(0, _), (1, _), (2, _), (8, _), (9, _), (10, _)] [] hB rfl rfl (by rfl) ?_
        refine sr (c (mv hN (q 0)) rfl (c (mv hN (q 8)) rfl (c (OpJ.shl (L rfl) (q 44) (q 45) (wrap_nonneg rfl _)) rfl (c (mv hN (q 1)) rfl (c (mv hN (q 8)) rfl (c (OpJ.sub (L rfl) (Opd.int .u64 (64)) (q 48)) rfl (c (OpJ.shr (L rfl) (q 47) (q 49) (wrap_nonneg rfl _)) rfl (c (OpJ.bits (.inr (.inl rfl)) (L rfl) (q 46) (q 50)) rfl (c (OpJ.assign (L rfl) (q 51)) rfl cn))))))))) ?_
        refine gh [(1, _), (2, _), (8, _), (9, _), (10, _), (11, _)] [] hB rfl rfl (by rfl) ?_
        refine sr (c (mv hN (q 1)) rfl (c (mv hN (q 8)) rfl (c (OpJ.shl (L rfl) (q 52) (q 53) (wrap_nonneg rfl _)) rfl (c (OpJ.assign (L rfl) (q 54)) rfl cn)))) ?_
        refine gh [(2, _), (8, _), (9, _), (10, _), (11, _), (12, _)] [] hB rfl rfl (by rfl) ?_
        refine sr (c (mv hN (q 12)) rfl (c (OpJ.shr (L rfl) (q 55) (Opd.int .u64 (32)) (by decide)) rfl (c (OpJ.assign (L rfl) (q 56)) rfl cn))) ?_
        refine gh [(2, _), (8, _), (9, _), (10, _), (11, _), (12, _), (13, _)] [] hB rfl rfl (by rfl) ?_
        refine sr (c (mv hN (q 12)) rfl (c (OpJ.bits (.inl rfl) (L rfl) (q 57) (Opd.int .u64 (4294967295))) rfl (c (OpJ.assign (L rfl) (q 58)) rfl cn))) ?_
        refine gh [(2, _), (8, _), (9, _), (10, _), (11, _), (13, _), (14, _)] [] hB rfl rfl (by rfl) ?_
        obtain ⟨hc9, h⟩ := chk_some h
        refine sr (c (mv hN (q 11)) rfl (c (mv hN (q 9)) rfl (c (OpJ.quo (L rfl) (q 59) (q 60) (of_decide_eq_true hc9)) rfl (c (OpJ.assign (L rfl) (q 61)) rfl cn)))) ?_
        refine gh [(2, _), (8, _), (9, _), (10, _), (11, _), (13, _), (14, _), (15, _)] [] hB rfl rfl (by rfl) ?_
        refine sr (c (mv hN (q 11)) rfl (c (mv hN (q 15)) rfl (c (mv hN (q 9)) rfl (c (OpJ.mul (L rfl) (q 63) (q 64)) rfl (c (OpJ.sub (L rfl) (q 62) (q 65)) rfl (c (OpJ.assign (L rfl) (q 66)) rfl cn)))))) ?_
        refine gh [(2, _), (8, _), (9, _), (10, _), (11, _), (13, _), (14, _), (15, _), (16, _)] [] hB rfl rfl (by rfl) ?_
        refine AWp.seq ?_
        refine AWp.block ?_
        obtain ⟨p15, hx19, h⟩ := bindS h
        refine lg (bits_Div64_L0 a1 a2 r8) (fun s10 : Int × Int => ([(2, (.d (.int .u64 (shlI .u64 a2 (IntKind.u64.wrap r8))))), (8, (.d (.int .u64 (IntKind.u64.wrap r8)))), (9, (.d (.int .u64 (shrI .u64 (shlI .u64 a2 (IntKind.u64.wrap r8)) (32 : Int))))), (10, (.d (.int .u64 (bitI .and .u64 (shlI .u64 a2 (IntKind.u64.wrap r8)) (4294967295 : Int))))), (11, (.d (.int .u64 (bitI .or .u64 (shlI .u64 a0 (IntKind.u64.wrap r8)) (shrI .u64 a1 (IntKind.u64.wrap ((64 : Int) - (IntKind.u64.wrap r8)))))))), (13, (.d (.int .u64 (shrI .u64 (shlI .u64 a1 (IntKind.u64.wrap r8)) (32 : Int))))), (14, (.d (.int .u64 (bitI .and .u64 (shlI .u64 a1 (IntKind.u64.wrap r8)) (4294967295 : Int))))), (15, (.d (.int .u64 s10.1))), (16, (.d (.int .u64 s10.2)))] : EL)) (fun s10 : Int × Int => ([] : OL)) (fun (p15 : (Int)) e E' O' => e = .exit 0 ∧ Mat B E' O' ([(2, (.d (.int .u64 (shlI .u64 a2 (IntKind.u64.wrap r8))))), (8, (.d (.int .u64 (IntKind.u64.wrap r8)))), (9, (.d (.int .u64 (shrI .u64 (shlI .u64 a2 (IntKind.u64.wrap r8)) (32 : Int))))), (10, (.d (.int .u64 (bitI .and .u64 (shlI .u64 a2 (IntKind.u64.wrap r8)) (4294967295 : Int))))), (11, (.d (.int .u64 (bitI .or .u64 (shlI .u64 a0 (IntKind.u64.wrap r8)) (shrI .u64 a1 (IntKind.u64.wrap ((64 : Int) - (IntKind.u64.wrap r8)))))))), (13, (.d (.int .u64 (shrI .u64 (shlI .u64 a1 (IntKind.u64.wrap r8)) (32 : Int))))), (14, (.d (.int .u64 (bitI .and .u64 (shlI .u64 a1 (IntKind.u64.wrap r8)) (4294967295 : Int))))), (15, (.d (.int .u64 p15)))] : EL) ([] : OL)) hx19 (mp [] _ _ hB) (fun s10 y h => ?_) (fun e E' O' hR => ?_)
        · unfold bits_Div64_L0 at h
          refine AWp.seq ?_
          refine sr (c (mv hN (q 15)) rfl (c (OpJ.geq (L rfl) (q 67) (Opd.int .u64 (4294967296))) rfl (c (mv hN (q 68)) rfl (c (oq hN 69 (mv hN (q 15)) (OptL.keep (by rfl) OptL.nil) (GuardV.plain _)) rfl (c (oq hN 69 (mv hN (q 10)) (OptL.keep (by rfl) OptL.nil) (GuardV.plain _)) rfl (c (oq hN 69 (OpJ.mul (L rfl) (q 70) (q 71)) (OptL.opt (OptL.opt OptL.nil)) (GuardV.plain _)) rfl (c (oq hN 69 (mv hN (q 16)) (OptL.keep (by rfl) OptL.nil) (GuardV.plain _)) rfl (c (oq hN 69 (OpJ.mul (L rfl) (Opd.int .u64 (4294967296)) (q 73)) (OptL.opt OptL.nil) (GuardV.plain _)) rfl (c (oq hN 69 (mv hN (q 13)) (OptL.keep (by rfl) OptL.nil) (GuardV.plain _)) rfl (c (oq hN 69 (OpJ.add (L rfl) (q 74) (q 75)) (OptL.opt (OptL.opt OptL.nil)) (GuardV.plain _)) rfl (c (oq hN 69 (OpJ.gtr (L rfl) (q 72) (q 76)) (OptL.opt (OptL.opt OptL.nil)) (GuardV.plain _)) rfl (c (OpJ.pickOr rfl (L rfl) (q 69) (q 77)) rfl cn)))))))))))) ?_
          refine gh [(2, _), (8, _), (9, _), (10, _), (11, _), (13, _), (14, _), (15, _), (16, _), (78, _)] [] hB rfl rfl (by rfl) ?_
          refine AWp.cond rfl (fun hg16 => ?_) (fun hg16 => ?_)
          · replace h := ite_t hg16 h
            refine AWp.skip ?_
            refine seqQ_n ?_
            refine AWp.block ?_
            refine sr (c (mv hN (q 15)) rfl (c (OpJ.sub (L rfl) (q 79) (Opd.int .u64 (1))) rfl (c (OpJ.assign (L rfl) (q 80)) rfl cn))) ?_
            refine gh [(2, _), (8, _), (9, _), (10, _), (11, _), (13, _), (14, _), (15, _), (16, _)] [] hB rfl rfl (by rfl) ?_
            refine sr (c (mv hN (q 16)) rfl (c (mv hN (q 9)) rfl (c (OpJ.add (L rfl) (q 81) (q 82)) rfl (c (OpJ.assign (L rfl) (q 83)) rfl cn)))) ?_
            refine gh [(2, _), (8, _), (9, _), (10, _), (11, _), (13, _), (14, _), (15, _), (16, _)] [] hB rfl rfl (by rfl) ?_
            refine sr (c (mv hN (q 16)) rfl (c (OpJ.geq (L rfl) (q 84) (Opd.int .u64 (4294967296))) rfl cn)) ?_
            refine gh [(2, _), (8, _), (9, _), (10, _), (11, _), (13, _), (14, _), (15, _), (16, _), (85, _)] [] hB rfl rfl (by rfl) ?_
            refine AWp.cond rfl (fun hg17 => ?_) (fun hg17 => ?_)
            · replace h := ite_t hg17 h
              refine AWp.exit ?_
              refine blkQ_miss (by rfl) ?_
              obtain rfl := Option.some.inj h
              exact ⟨(fun hc => by cases hc), rfl, (mp [] _ _ hB)⟩
            · replace h := ite_f hg17 h
              refine AWp.skip ?_
              refine blkQ_n ?_
              obtain rfl := Option.some.inj h
              exact ⟨rfl, (mp [] _ _ hB)⟩
          · replace h := ite_f hg16 h
            refine AWp.exit ?_
            refine seqQ_e ?_
            obtain rfl := Option.some.inj h
            exact ⟨(fun hc => by cases hc), rfl, (mp [] _ _ hB)⟩
        · obtain ⟨rfl, hmat⟩ := hR
          refine blkQ_hit ?_
          refine seqQ_n ?_
          refine AWp.ghost hmat ?_
          refine sr (c (mv hN (q 11)) rfl (c (OpJ.mul (L rfl) (q 86) (Opd.int .u64 (4294967296))) rfl (c (mv hN (q 13)) rfl (c (OpJ.add (L rfl) (q 87) (q 88)) rfl (c (mv hN (q 15)) rfl (c (mv hN (q 2)) rfl (c (OpJ.mul (L rfl) (q 90) (q 91)) rfl (c (OpJ.sub (L rfl) (q 89) (q 92)) rfl (c (OpJ.assign (L rfl) (q 93)) rfl cn))))))))) ?_
          refine gh [(2, _), (8, _), (9, _), (10, _), (14, _), (15, _), (17, _)] [] hB rfl rfl (by rfl) ?_
          obtain ⟨hc20, h⟩ := chk_some h
          refine sr (c (mv hN (q 17)) rfl (c (mv hN (q 9)) rfl (c (OpJ.quo (L rfl) (q 94) (q 95) (of_decide_eq_true hc20)) rfl (c (OpJ.assign (L rfl) (q 96)) rfl cn)))) ?_
          refine gh [(2, _), (8, _), (9, _), (10, _), (14, _), (15, _), (17, _), (18, _)] [] hB rfl rfl (by rfl) ?_
          refine sr (c (mv hN (q 17)) rfl (c (mv hN (q 18)) rfl (c (mv hN (q 9)) rfl (c (OpJ.mul (L rfl) (q 98) (q 99)) rfl (c (OpJ.sub (L rfl) (q 97) (q 100)) rfl (c (OpJ.assign (L rfl) (q 101)) rfl cn)))))) ?_
          refine gh [(2, _), (8, _), (9, _), (10, _), (14, _), (15, _), (16, _), (17, _), (18, _)] [] hB rfl rfl (by rfl) ?_
          refine AWp.seq ?_
          refine AWp.block ?_
          obtain ⟨p26, hx30, h⟩ := bindS h
          refine lg (bits_Div64_L1 a1 a2 r8) (fun s21 : Int × Int => ([(2, (.d (.int .u64 (shlI .u64 a2 (IntKind.u64.wrap r8))))), (8, (.d (.int .u64 (IntKind.u64.wrap r8)))), (9, (.d (.int .u64 (shrI .u64 (shlI .u64 a2 (IntKind.u64.wrap r8)) (32 : Int))))), (10, (.d (.int .u64 (bitI .and .u64 (shlI .u64 a2 (IntKind.u64.wrap r8)) (4294967295 : Int))))), (14, (.d (.int .u64 (bitI .and .u64 (shlI .u64 a1 (IntKind.u64.wrap r8)) (4294967295 : Int))))), (15, (.d (.int .u64 p15))), (16, (.d (.int .u64 s21.1))), (17, (.d (.int .u64 (IntKind.u64.wrap ((IntKind.u64.wrap ((IntKind.u64.wrap ((bitI .or .u64 (shlI .u64 a0 (IntKind.u64.wrap r8)) (shrI .u64 a1 (IntKind.u64.wrap ((64 : Int) - (IntKind.u64.wrap r8))))) * (4294967296 : Int))) + (shrI .u64 (shlI .u64 a1 (IntKind.u64.wrap r8)) (32 : Int)))) - (IntKind.u64.wrap (p15 * (shlI .u64 a2 (IntKind.u64.wrap r8))))))))), (18, (.d (.int .u64 s21.2)))] : EL)) (fun s21 : Int × Int => ([] : OL)) (fun (p26 : (Int)) e E' O' => e = .exit 2 ∧ Mat B E' O' ([(2, (.d (.int .u64 (shlI .u64 a2 (IntKind.u64.wrap r8))))), (8, (.d (.int .u64 (IntKind.u64.wrap r8)))), (14, (.d (.int .u64 (bitI .and .u64 (shlI .u64 a1 (IntKind.u64.wrap r8)) (4294967295 : Int))))), (15, (.d (.int .u64 p15))), (17, (.d (.int .u64 (IntKind.u64.wrap ((IntKind.u64.wrap ((IntKind.u64.wrap ((bitI .or .u64 (shlI .u64 a0 (IntKind.u64.wrap r8)) (shrI .u64 a1 (IntKind.u64.wrap ((64 : Int) - (IntKind.u64.wrap r8))))) * (4294967296 : Int))) + (shrI .u64 (shlI .u64 a1 (IntKind.u64.wrap r8)) (32 : Int)))) - (IntKind.u64.wrap (p15 * (shlI .u64 a2 (IntKind.u64.wrap r8))))))))), (18, (.d (.int .u64 p26)))] : EL) ([] : OL)) hx30 (mp [] _ _ hB) (fun s21 y h => ?_) (fun e E' O' hR => ?_)
          · unfold bits_Div64_L1 at h
            refine AWp.seq ?_
            refine sr (c (mv hN (q 18)) rfl (c (OpJ.geq (L rfl) (q 102) (Opd.int .u64 (4294967296))) rfl (c (mv hN (q 103)) rfl (c (oq hN 104 (mv hN (q 18)) (OptL.keep (by rfl) OptL.nil) (GuardV.plain _)) rfl (c (oq hN 104 (mv hN (q 10)) (OptL.keep (by rfl) OptL.nil) (GuardV.plain _)) rfl (c (oq hN 104 (OpJ.mul (L rfl) (q 105) (q 106)) (OptL.opt (OptL.opt OptL.nil)) (GuardV.plain _)) rfl (c (oq hN 104 (mv hN (q 16)) (OptL.keep (by rfl) OptL.nil) (GuardV.plain _)) rfl (c (oq hN 104 (OpJ.mul (L rfl) (Opd.int .u64 (4294967296)) (q 108)) (OptL.opt OptL.nil) (GuardV.plain _)) rfl (c (oq hN 104 (mv hN (q 14)) (OptL.keep (by rfl) OptL.nil) (GuardV.plain _)) rfl (c (oq hN 104 (OpJ.add (L rfl) (q 109) (q 110)) (OptL.opt (OptL.opt OptL.nil)) (GuardV.plain _)) rfl (c (oq hN 104 (OpJ.gtr (L rfl) (q 107) (q 111)) (OptL.opt (OptL.opt OptL.nil)) (GuardV.plain _)) rfl (c (OpJ.pickOr rfl (L rfl) (q 104) (q 112)) rfl cn)))))))))))) ?_
            refine gh [(2, _), (8, _), (9, _), (10, _), (14, _), (15, _), (16, _), (17, _), (18, _), (113, _)] [] hB rfl rfl (by rfl) ?_
            refine AWp.cond rfl (fun hg27 => ?_) (fun hg27 => ?_)
            · replace h := ite_t hg27 h
              refine AWp.skip ?_
              refine seqQ_n ?_
              refine AWp.block ?_
              refine sr (c (mv hN (q 18)) rfl (c (OpJ.sub (L rfl) (q 114) (Opd.int .u64 (1))) rfl (c (OpJ.assign (L rfl) (q 115)) rfl cn))) ?_
              refine gh [(2, _), (8, _), (9, _), (10, _), (14, _), (15, _), (16, _), (17, _), (18, _)] [] hB rfl rfl (by rfl) ?_
              refine sr (c (mv hN (q 16)) rfl (c (mv hN (q 9)) rfl (c (OpJ.add (L rfl) (q 116) (q 117)) rfl (c (OpJ.assign (L rfl) (q 118)) rfl cn)))) ?_
              refine gh [(2, _), (8, _), (9, _), (10, _), (14, _), (15, _), (16, _), (17, _), (18, _)] [] hB rfl rfl (by rfl) ?_
              refine sr (c (mv hN (q 16)) rfl (c (OpJ.geq (L rfl) (q 119) (Opd.int .u64 (4294967296))) rfl cn)) ?_
              refine gh [(2, _), (8, _), (9, _), (10, _), (14, _), (15, _), (16, _), (17, _), (18, _), (120, _)] [] hB rfl rfl (by rfl) ?_
              refine AWp.cond rfl (fun hg28 => ?_) (fun hg28 => ?_)
              · replace h := ite_t hg28 h
                refine AWp.exit ?_
                refine blkQ_miss (by rfl) ?_
                obtain rfl := Option.some.inj h
                exact ⟨(fun hc => by cases hc), rfl, (mp [] _ _ hB)⟩
              · replace h := ite_f hg28 h
                refine AWp.skip ?_
                refine blkQ_n ?_
                obtain rfl := Option.some.inj h
                exact ⟨rfl, (mp [] _ _ hB)⟩
            · replace h := ite_f hg27 h
              refine AWp.exit ?_
              refine seqQ_e ?_
              obtain rfl := Option.some.inj h
              exact ⟨(fun hc => by cases hc), rfl, (mp [] _ _ hB)⟩
          · obtain ⟨rfl, hmat⟩ := hR
            refine blkQ_hit ?_
            refine seqQ_n ?_
            refine AWp.ghost hmat ?_
            refine sr (c (mv hN (q 15)) rfl (c (OpJ.mul (L rfl) (q 121) (Opd.int .u64 (4294967296))) rfl (c (mv hN (q 18)) rfl (c (OpJ.add (L rfl) (q 122) (q 123)) rfl (c (mv hN (q 17)) rfl (c (OpJ.mul (L rfl) (q 125) (Opd.int .u64 (4294967296))) rfl (c (mv hN (q 14)) rfl (c (OpJ.add (L rfl) (q 126) (q 127)) rfl (c (mv hN (q 18)) rfl (c (mv hN (q 2)) rfl (c (OpJ.mul (L rfl) (q 129) (q 130)) rfl (c (OpJ.sub (L rfl) (q 128) (q 131)) rfl (c (mv hN (q 8)) rfl (c (OpJ.shr (L rfl) (q 132) (q 133) (wrap_nonneg rfl _)) rfl (c (OpJ.assign (L rfl) (q 124)) rfl (c (OpJ.assign (L rfl) (q 134)) rfl cn)))))))))))))))) ?_
            refine gh [(6, _), (7, _)] [] hB rfl rfl (by rfl) ?_
            refine AWp.ret ?_
            obtain rfl := Option.some.inj h
            exact ⟨.inl rfl, _, _, (kp [(6, _), (7, _)] [] hB rfl rfl (by rfl)), [(.d (.int .u64 (IntKind.u64.wrap ((IntKind.u64.wrap (p15 * (4294967296 : Int))) + p26)))), (.d (.int .u64 (shrI .u64 (IntKind.u64.wrap ((IntKind.u64.wrap ((IntKind.u64.wrap ((IntKind.u64.wrap ((IntKind.u64.wrap ((IntKind.u64.wrap ((bitI .or .u64 (shlI .u64 a0 (IntKind.u64.wrap r8)) (shrI .u64 a1 (IntKind.u64.wrap ((64 : Int) - (IntKind.u64.wrap r8))))) * (4294967296 : Int))) + (shrI .u64 (shlI .u64 a1 (IntKind.u64.wrap r8)) (32 : Int)))) - (IntKind.u64.wrap (p15 * (shlI .u64 a2 (IntKind.u64.wrap r8)))))) * (4294967296 : Int))) + (bitI .and .u64 (shlI .u64 a1 (IntKind.u64.wrap r8)) (4294967295 : Int)))) - (IntKind.u64.wrap (p26 * (shlI .u64 a2 (IntKind.u64.wrap r8)))))) (IntKind.u64.wrap r8))))], (Res.tmp (by rfl) (by rfl) (Res.tmp (by rfl) (by rfl) Res.nil)), rfl, by rfl, by rfl, by rfl⟩

noncomputable def matrix_Estimate (a0 : api_Cell) (a1 : Int) (a2 : Int) : Option (Int × Int) :=
  (if ((((((((decide (a1 < (1 : Int))) || (decide ((1048576 : Int) < a1))) || (decide (a2 < a1))) || (decide ((1099511627776 : Int) < a2))) || (decide (a0.fSamples < (0 : Int)))) || (decide (a1 < a0.fSamples))) || (decide (a0.fBytes < (0 : Int)))) || (decide ((1073741824 : Int) < a0.fBytes))) = true then
  some ((0 : Int), (1 : Int))
  else
  (bits_Mul64 (IntKind.u64.wrap a0.fBytes) (IntKind.u64.wrap a2)).bind fun r2 =>
  (if (decide ((IntKind.u64.wrap a1) ≤ r2.1)) = true then
  some ((0 : Int), (3 : Int))
  else
  (bits_Div64 r2.1 r2.2 (IntKind.u64.wrap a1)).bind fun r4 =>
  (if (decide ((1125899906842624 : Int) < r4.1)) = true then
  some ((0 : Int), (3 : Int))
  else
  some ((w64 r4.1), (0 : Int)))))
set_option maxHeartbeats 4000000 in
set_option maxRecDepth 100000 in
theorem matrix_Estimate_ac (a0 : api_Cell) (a1 : Int) (a2 : Int) (r : Int × Int) (h : matrix_Estimate a0 a1 a2 = some r) : AC Try.prog 8 [(.d (e_api_Cell a0)), (.d (.int .i64 a1)), (.d (.int .i64 a2))] [] (.tup [(.d (.int .i64 r.1)), (.d (.int .i64 r.2))]) [] := by
  refine AC.of_code2 Try.func8 rfl rfl (Nat.le_of_ble_eq_true (by rfl)) fun B hB hN => ?_
  have L {d : Nat} (h : Nat.blt d Try.f8.ntmps = true) : d < B.N := ltN hN h
  delta matrix_Estimate at h
  refine sr (cg (OpJ.box hB (nm := 1003) (by decide) (by simp) rfl (L rfl) (q 0)) rfl (c (OpJ.assign (L rfl) (Opd.int .i64 (0))) rfl (c (OpJ.assign (L rfl) (Opd.int .i64 (0))) rfl cn))) ?_
  refine gh [(1, _), (2, _), (3, _)] [(1003, some _)] hB rfl rfl (by rfl) ?_
  refine AWp.seq ?_
  refine sr (c (mv hN (q 1)) rfl (c (OpJ.lss (L rfl) (q 12) (Opd.int .i64 (1))) rfl (c (mv hN (q 13)) rfl (c (oq hN 14 (mv hN (q 1)) (OptL.keep (by rfl) OptL.nil) (GuardV.plain _)) rfl (c (oq hN 14 (OpJ.gtr (L rfl) (q 15) (Opd.int .i64 (1048576))) (OptL.opt OptL.nil) (GuardV.plain _)) rfl (c (OpJ.pickOr rfl (L rfl) (q 14) (q 16)) rfl (c (mv hN (q 17)) rfl (c (oq hN 18 (mv hN (q 2)) (OptL.keep (by rfl) OptL.nil) (GuardV.plain _)) rfl (c (oq hN 18 (mv hN (q 1)) (OptL.keep (by rfl) OptL.nil) (GuardV.plain _)) rfl (c (oq hN 18 (OpJ.lss (L rfl) (q 19) (q 20)) (OptL.opt (OptL.opt OptL.nil)) (GuardV.plain _)) rfl (c (OpJ.pickOr rfl (L rfl) (q 18) (q 21)) rfl (c (mv hN (q 22)) rfl (c (oq hN 23 (mv hN (q 2)) (OptL.keep (by rfl) OptL.nil) (GuardV.plain _)) rfl (c (oq hN 23 (OpJ.gtr (L rfl) (q 24) (Opd.int .i64 (1099511627776))) (OptL.opt OptL.nil) (GuardV.plain _)) rfl (c (OpJ.pickOr rfl (L rfl) (q 23) (q 25)) rfl (c (mv hN (q 26)) rfl (c (oq hN 27 (ov (.ptr 1003 2 [2]) (fp hN Try.underlying23 2 tyS3 _ (q 3))) (OptL.keep (by rfl) OptL.nil) (GuardV.plain _)) rfl (c (oq hN 27 (lb hN 23 _ _ tyS3 (ad _) (q 28)) (OptL.opt OptL.nil) (GuardV.plain _)) rfl (c (oq hN 27 (OpJ.lss (L rfl) (q 29) (Opd.int .i64 (0))) (OptL.opt OptL.nil) (GuardV.plain _)) rfl (c (OpJ.pickOr rfl (L rfl) (q 27) (q 30)) rfl (c (mv hN (q 31)) rfl (c (oq hN 32 (ov (.ptr 1003 2 [2]) (fp hN Try.underlying23 2 tyS3 _ (q 3))) (OptL.keep (by rfl) OptL.nil) (GuardV.plain _)) rfl (c (oq hN 32 (lb hN 23 _ _ tyS3 (ad _) (q 33)) (OptL.opt OptL.nil) (GuardV.plain _)) rfl (c (oq hN 32 (mv hN (q 1)) (OptL.keep (by rfl) OptL.nil) (GuardV.plain _)) rfl (c (oq hN 32 (OpJ.gtr (L rfl) (q 34) (q 35)) (OptL.opt (OptL.opt OptL.nil)) (GuardV.plain _)) rfl (c (OpJ.pickOr rfl (L rfl) (q 32) (q 36)) rfl (c (mv hN (q 37)) rfl (c (oq hN 38 (ov (.ptr 1003 3 [3]) (fp hN Try.underlying23 3 tyS3 _ (q 3))) (OptL.keep (by rfl) OptL.nil) (GuardV.plain _)) rfl (c (oq hN 38 (lb hN 23 _ _ tyS3 (ad _) (q 39)) (OptL.opt OptL.nil) (GuardV.plain _)) rfl (c (oq hN 38 (OpJ.lss (L rfl) (q 40) (Opd.int .i64 (0))) (OptL.opt OptL.nil) (GuardV.plain _)) rfl (c (OpJ.pickOr rfl (L rfl) (q 38) (q 41)) rfl (c (mv hN (q 42)) rfl (c (oq hN 43 (ov (.ptr 1003 3 [3]) (fp hN Try.underlying23 3 tyS3 _ (q 3))) (OptL.keep (by rfl) OptL.nil) (GuardV.plain _)) rfl (c (oq hN 43 (lb hN 23 _ _ tyS3 (ad _) (q 44)) (OptL.opt OptL.nil) (GuardV.plain _)) rfl (c (oq hN 43 (OpJ.gtr (L rfl) (q 45) (Opd.int .i64 (1073741824))) (OptL.opt OptL.nil) (GuardV.plain _)) rfl (c (OpJ.pickOr rfl (L rfl) (q 43) (q 46)) rfl cn)))))))))))))))))))))))))))))))))))) ?_
  refine gh [(1, _), (2, _), (3, _), (47, _)] [(1003, some _)] hB rfl rfl (by rfl) ?_
  refine AWp.cond rfl (fun hg1 => ?_) (fun hg1 => ?_)
  · replace h := ite_t hg1 h
    refine sr (c (OpJ.assign (L rfl) (Opd.int .i64 (0))) rfl (c (OpJ.assign (L rfl) (Opd.int .i64 (1))) rfl cn)) ?_
    refine gh [(6, _), (7, _)] [] hB rfl rfl (by rfl) ?_
    refine AWp.ret ?_
    refine seqQ_r ?_
    obtain rfl := Option.some.inj h
    exact ⟨.inl rfl, _, _, (kp [(6, _), (7, _)] [] hB rfl rfl (by rfl)), [(i6 0), (i6 1)], (Res.tmp (by rfl) (by rfl) (Res.tmp (by rfl) (by rfl) Res.nil)), rfl, by rfl, by rfl, by rfl⟩
  · replace h := ite_f hg1 h
    refine AWp.skip ?_
    refine seqQ_n ?_
    obtain ⟨r2, hr2, h⟩ := bindS h
    refine sr (c (ov (.ptr 1003 3 [3]) (fp hN Try.underlying23 3 tyS3 _ (q 3))) rfl (c (lb hN 23 _ _ tyS3 (ad _) (q 49)) rfl (c (OpJ.conv Try.underlying3 Try.underlying55 (L rfl) (q 50)) rfl (c (mv hN (q 2)) rfl (c (OpJ.conv Try.underlying3 Try.underlying55 (L rfl) (q 52)) rfl (cg (OpJ.callFn hB fnOk28 (bits_Mul64_ac (IntKind.u64.wrap a0.fBytes) (IntKind.u64.wrap a2) r2 hr2) [] (by kernel_rfl) (L rfl) (by kernel_rfl) (OpdL.cons (q 51) (OpdL.cons (q 53) OpdL.nil))) rfl (c (mv hN (q 54)) rfl (c (OpJ.extract (by rfl) rfl (L rfl) (q 48)) rfl (c (OpJ.extract (by rfl) rfl (L rfl) (q 48)) rfl (c (OpJ.assign (L rfl) (q 55)) rfl (c (OpJ.assign (L rfl) (q 56)) rfl cn))))))))))) ?_
    refine gh [(1, _), (8, _), (9, _)] [] hB rfl rfl (by rfl) ?_
    refine AWp.seq ?_
    refine sr (c (mv hN (q 8)) rfl (c (mv hN (q 1)) rfl (c (OpJ.conv Try.underlying3 Try.underlying55 (L rfl) (q 58)) rfl (c (OpJ.geq (L rfl) (q 57) (q 59)) rfl cn)))) ?_
    refine gh [(1, _), (8, _), (9, _), (60, _)] [] hB rfl rfl (by rfl) ?_
    refine AWp.cond rfl (fun hg3 => ?_) (fun hg3 => ?_)
    · replace h := ite_t hg3 h
      refine sr (c (OpJ.assign (L rfl) (Opd.int .i64 (0))) rfl (c (OpJ.assign (L rfl) (Opd.int .i64 (3))) rfl cn)) ?_
      refine gh [(6, _), (7, _)] [] hB rfl rfl (by rfl) ?_
      refine AWp.ret ?_
      refine seqQ_r ?_
      obtain rfl := Option.some.inj h
      exact ⟨.inl rfl, _, _, (kp [(6, _), (7, _)] [] hB rfl rfl (by rfl)), [(i6 0), (i6 (3 : Int))], (Res.tmp (by rfl) (by rfl) (Res.tmp (by rfl) (by rfl) Res.nil)), rfl, by rfl, by rfl, by rfl⟩
    · replace h := ite_f hg3 h
      refine AWp.skip ?_
      refine seqQ_n ?_
      obtain ⟨r4, hr4, h⟩ := bindS h
      refine sr (c (mv hN (q 8)) rfl (c (mv hN (q 9)) rfl (c (mv hN (q 1)) rfl (c (OpJ.conv Try.underlying3 Try.underlying55 (L rfl) (q 64)) rfl (cg (OpJ.callFn hB fnOk29 (bits_Div64_ac r2.1 r2.2 (IntKind.u64.wrap a1) r4 hr4) [] (by kernel_rfl) (L rfl) (by kernel_rfl) (OpdL.cons (q 62) (OpdL.cons (q 63) (OpdL.cons (q 65) OpdL.nil)))) rfl (c (mv hN (q 66)) rfl (c (OpJ.extract (by rfl) rfl (L rfl) (q 61)) rfl (c (OpJ.extract (by rfl) rfl (L rfl) (q 61)) rfl (c (OpJ.assign (L rfl) (q 67)) rfl (c (OpJ.assign (L rfl) (q 68)) rfl cn)))))))))) ?_
      refine gh [(10, _)] [] hB rfl rfl (by rfl) ?_
      refine AWp.seq ?_
      refine sr (c (mv hN (q 10)) rfl (c (OpJ.gtr (L rfl) (q 69) (Opd.int .u64 (1125899906842624))) rfl cn)) ?_
      refine gh [(10, _), (70, _)] [] hB rfl rfl (by rfl) ?_
      refine AWp.cond rfl (fun hg5 => ?_) (fun hg5 => ?_)
      · replace h := ite_t hg5 h
        refine sr (c (OpJ.assign (L rfl) (Opd.int .i64 (0))) rfl (c (OpJ.assign (L rfl) (Opd.int .i64 (3))) rfl cn)) ?_
        refine gh [(6, _), (7, _)] [] hB rfl rfl (by rfl) ?_
        refine AWp.ret ?_
        refine seqQ_r ?_
        obtain rfl := Option.some.inj h
        exact ⟨.inl rfl, _, _, (kp [(6, _), (7, _)] [] hB rfl rfl (by rfl)), [(i6 0), (i6 (3 : Int))], (Res.tmp (by rfl) (by rfl) (Res.tmp (by rfl) (by rfl) Res.nil)), rfl, by rfl, by rfl, by rfl⟩
      · replace h := ite_f hg5 h
        refine AWp.skip ?_
        refine seqQ_n ?_
        refine sr (c (mv hN (q 10)) rfl (c (conv6 Try.underlying55 Try.underlying3 (L rfl) (q 71)) rfl (c (OpJ.assign (L rfl) (q 72)) rfl (c (OpJ.assign (L rfl) (Opd.int .i64 (0))) rfl cn)))) ?_
        refine gh [(6, _), (7, _)] [] hB rfl rfl (by rfl) ?_
        refine AWp.ret ?_
        obtain rfl := Option.some.inj h
        exact ⟨.inl rfl, _, _, (kp [(6, _), (7, _)] [] hB rfl rfl (by rfl)), [(i6 (w64 r4.1)), (i6 0)], (Res.tmp (by rfl) (by rfl) (Res.tmp (by rfl) (by rfl) Res.nil)), rfl, by rfl, by rfl, by rfl⟩

noncomputable def exchangepointref38_Estimate (a0 : api_Cell) (a1 : Int) (a2 : Int) : Option (Int × Int) :=
  (if ((((((((decide (a1 < (1 : Int))) || (decide ((1048576 : Int) < a1))) || (decide (a2 < a1))) || (decide ((1099511627776 : Int) < a2))) || (decide (a0.fSamples < (0 : Int)))) || (decide (a1 < a0.fSamples))) || (decide (a0.fBytes < (0 : Int)))) || (decide ((1073741824 : Int) < a0.fBytes))) = true then
  some ((0 : Int), (1 : Int))
  else
  (bits_Mul64 (IntKind.u64.wrap a0.fBytes) (IntKind.u64.wrap a2)).bind fun r2 =>
  (if (decide ((IntKind.u64.wrap a1) ≤ r2.1)) = true then
  some ((0 : Int), (3 : Int))
  else
  (bits_Div64 r2.1 r2.2 (IntKind.u64.wrap a1)).bind fun r4 =>
  (if (decide ((1125899906842624 : Int) < r4.1)) = true then
  some ((0 : Int), (3 : Int))
  else
  some ((w64 r4.1), (0 : Int)))))
set_option maxHeartbeats 4000000 in
set_option maxRecDepth 100000 in
theorem exchangepointref38_Estimate_ac (a0 : api_Cell) (a1 : Int) (a2 : Int) (r : Int × Int) (h : exchangepointref38_Estimate a0 a1 a2 = some r) : AC Try.prog 9 [(.d (e_api_Cell a0)), (.d (.int .i64 a1)), (.d (.int .i64 a2))] [] (.tup [(.d (.int .i64 r.1)), (.d (.int .i64 r.2))]) [] := by
  refine AC.of_code2 Try.func9 rfl rfl (Nat.le_of_ble_eq_true (by rfl)) fun B hB hN => ?_
  have L {d : Nat} (h : Nat.blt d Try.f9.ntmps = true) : d < B.N := ltN hN h
  delta exchangepointref38_Estimate at h
  refine sr (cg (OpJ.box hB (nm := 1003) (by decide) (by simp) rfl (L rfl) (q 0)) rfl (c (OpJ.assign (L rfl) (Opd.int .i64 (0))) rfl (c (OpJ.assign (L rfl) (Opd.int .i64 (0))) rfl cn))) ?_
  refine gh [(1, _), (2, _), (3, _)] [(1003, some _)] hB rfl rfl (by rfl) ?_
  refine AWp.seq ?_
  refine sr (c (mv hN (q 1)) rfl (c (OpJ.lss (L rfl) (q 12) (Opd.int .i64 (1))) rfl (c (mv hN (q 13)) rfl (c (oq hN 14 (mv hN (q 1)) (OptL.keep (by rfl) OptL.nil) (GuardV.plain _)) rfl (c (oq hN 14 (OpJ.gtr (L rfl) (q 15) (Opd.int .i64 (1048576))) (OptL.opt OptL.nil) (GuardV.plain _)) rfl (c (OpJ.pickOr rfl (L rfl) (q 14) (q 16)) rfl (c (mv hN (q 17)) rfl (c (oq hN 18 (mv hN (q 2)) (OptL.keep (by rfl) OptL.nil) (GuardV.plain _)) rfl (c (oq hN 18 (mv hN (q 1)) (OptL.keep (by rfl) OptL.nil) (GuardV.plain _)) rfl (c (oq hN 18 (OpJ.lss (L rfl) (q 19) (q 20)) (OptL.opt (OptL.opt OptL.nil)) (GuardV.plain _)) rfl (c (OpJ.pickOr rfl (L rfl) (q 18) (q 21)) rfl (c (mv hN (q 22)) rfl (c (oq hN 23 (mv hN (q 2)) (OptL.keep (by rfl) OptL.nil) (GuardV.plain _)) rfl (c (oq hN 23 (OpJ.gtr (L rfl) (q 24) (Opd.int .i64 (1099511627776))) (OptL.opt OptL.nil) (GuardV.plain _)) rfl (c (OpJ.pickOr rfl (L rfl) (q 23) (q 25)) rfl (c (mv hN (q 26)) rfl (c (oq hN 27 (ov (.ptr 1003 2 [2]) (fp hN Try.underlying23 2 tyS3 _ (q 3))) (OptL.keep (by rfl) OptL.nil) (GuardV.plain _)) rfl (c (oq hN 27 (lb hN 23 _ _ tyS3 (ad _) (q 28)) (OptL.opt OptL.nil) (GuardV.plain _)) rfl (c (oq hN 27 (OpJ.lss (L rfl) (q 29) (Opd.int .i64 (0))) (OptL.opt OptL.nil) (GuardV.plain _)) rfl (c (OpJ.pickOr rfl (L rfl) (q 27) (q 30)) rfl (c (mv hN (q 31)) rfl (c (oq hN 32 (ov (.ptr 1003 2 [2]) (fp hN Try.underlying23 2 tyS3 _ (q 3))) (OptL.keep (by rfl) OptL.nil) (GuardV.plain _)) rfl (c (oq hN 32 (lb hN 23 _ _ tyS3 (ad _) (q 33)) (OptL.opt OptL.nil) (GuardV.plain _)) rfl (c (oq hN 32 (mv hN (q 1)) (OptL.keep (by rfl) OptL.nil) (GuardV.plain _)) rfl (c (oq hN 32 (OpJ.gtr (L rfl) (q 34) (q 35)) (OptL.opt (OptL.opt OptL.nil)) (GuardV.plain _)) rfl (c (OpJ.pickOr rfl (L rfl) (q 32) (q 36)) rfl (c (mv hN (q 37)) rfl (c (oq hN 38 (ov (.ptr 1003 3 [3]) (fp hN Try.underlying23 3 tyS3 _ (q 3))) (OptL.keep (by rfl) OptL.nil) (GuardV.plain _)) rfl (c (oq hN 38 (lb hN 23 _ _ tyS3 (ad _) (q 39)) (OptL.opt OptL.nil) (GuardV.plain _)) rfl (c (oq hN 38 (OpJ.lss (L rfl) (q 40) (Opd.int .i64 (0))) (OptL.opt OptL.nil) (GuardV.plain _)) rfl (c (OpJ.pickOr rfl (L rfl) (q 38) (q 41)) rfl (c (mv hN (q 42)) rfl (c (oq hN 43 (ov (.ptr 1003 3 [3]) (fp hN Try.underlying23 3 tyS3 _ (q 3))) (OptL.keep (by rfl) OptL.nil) (GuardV.plain _)) rfl (c (oq hN 43 (lb hN 23 _ _ tyS3 (ad _) (q 44)) (OptL.opt OptL.nil) (GuardV.plain _)) rfl (c (oq hN 43 (OpJ.gtr (L rfl) (q 45) (Opd.int .i64 (1073741824))) (OptL.opt OptL.nil) (GuardV.plain _)) rfl (c (OpJ.pickOr rfl (L rfl) (q 43) (q 46)) rfl cn)))))))))))))))))))))))))))))))))))) ?_
  refine gh [(1, _), (2, _), (3, _), (47, _)] [(1003, some _)] hB rfl rfl (by rfl) ?_
  refine AWp.cond rfl (fun hg1 => ?_) (fun hg1 => ?_)
  · replace h := ite_t hg1 h
    refine sr (c (OpJ.assign (L rfl) (Opd.int .i64 (0))) rfl (c (OpJ.assign (L rfl) (Opd.int .i64 (1))) rfl cn)) ?_
    refine gh [(6, _), (7, _)] [] hB rfl rfl (by rfl) ?_
    refine AWp.ret ?_
    refine seqQ_r ?_
    obtain rfl := Option.some.inj h
    exact ⟨.inl rfl, _, _, (kp [(6, _), (7, _)] [] hB rfl rfl (by rfl)), [(i6 0), (i6 1)], (Res.tmp (by rfl) (by rfl) (Res.tmp (by rfl) (by rfl) Res.nil)), rfl, by rfl, by rfl, by rfl⟩
  · replace h := ite_f hg1 h
    refine AWp.skip ?_
    refine seqQ_n ?_
    obtain ⟨r2, hr2, h⟩ := bindS h
    refine sr (c (ov (.ptr 1003 3 [3]) (fp hN Try.underlying23 3 tyS3 _ (q 3))) rfl (c (lb hN 23 _ _ tyS3 (ad _) (q 49)) rfl (c (OpJ.conv Try.underlying3 Try.underlying55 (L rfl) (q 50)) rfl (c (mv hN (q 2)) rfl (c (OpJ.conv Try.underlying3 Try.underlying55 (L rfl) (q 52)) rfl (cg (OpJ.callFn hB fnOk28 (bits_Mul64_ac (IntKind.u64.wrap a0.fBytes) (IntKind.u64.wrap a2) r2 hr2) [] (by kernel_rfl) (L rfl) (by kernel_rfl) (OpdL.cons (q 51) (OpdL.cons (q 53) OpdL.nil))) rfl (c (mv hN (q 54)) rfl (c (OpJ.extract (by rfl) rfl (L rfl) (q 48)) rfl (c (OpJ.extract (by rfl) rfl (L rfl) (q 48)) rfl (c (OpJ.assign (L rfl) (q 55)) rfl (c (OpJ.assign (L rfl) (q 56)) rfl cn))))))))))) ?_
    refine gh [(1, _), (8, _), (9, _)] [] hB rfl rfl (by rfl) ?_
    refine AWp.seq ?_
    refine sr (c (mv hN (q 8)) rfl (c (mv hN (q 1)) rfl (c (OpJ.conv Try.underlying3 Try.underlying55 (L rfl) (q 58)) rfl (c (OpJ.geq (L rfl) (q 57) (q 59)) rfl cn)))) ?_
    refine gh [(1, _), (8, _), (9, _), (60, _)] [] hB rfl rfl (by rfl) ?_
    refine AWp.cond rfl (fun hg3 => ?_) (fun hg3 => ?_)
    · replace h := ite_t hg3 h
      refine sr (c (OpJ.assign (L rfl) (Opd.int .i64 (0))) rfl (c (OpJ.assign (L rfl) (Opd.int .i64 (3))) rfl cn)) ?_
      refine gh [(6, _), (7, _)] [] hB rfl rfl (by rfl) ?_
      refine AWp.ret ?_
      refine seqQ_r ?_
      obtain rfl := Option.some.inj h
      exact ⟨.inl rfl, _, _, (kp [(6, _), (7, _)] [] hB rfl rfl (by rfl)), [(i6 0), (i6 (3 : Int))], (Res.tmp (by rfl) (by rfl) (Res.tmp (by rfl) (by rfl) Res.nil)), rfl, by rfl, by rfl, by rfl⟩
    · replace h := ite_f hg3 h
      refine AWp.skip ?_
      refine seqQ_n ?_
      obtain ⟨r4, hr4, h⟩ := bindS h
      refine sr (c (mv hN (q 8)) rfl (c (mv hN (q 9)) rfl (c (mv hN (q 1)) rfl (c (OpJ.conv Try.underlying3 Try.underlying55 (L rfl) (q 64)) rfl (cg (OpJ.callFn hB fnOk29 (bits_Div64_ac r2.1 r2.2 (IntKind.u64.wrap a1) r4 hr4) [] (by kernel_rfl) (L rfl) (by kernel_rfl) (OpdL.cons (q 62) (OpdL.cons (q 63) (OpdL.cons (q 65) OpdL.nil)))) rfl (c (mv hN (q 66)) rfl (c (OpJ.extract (by rfl) rfl (L rfl) (q 61)) rfl (c (OpJ.extract (by rfl) rfl (L rfl) (q 61)) rfl (c (OpJ.assign (L rfl) (q 67)) rfl (c (OpJ.assign (L rfl) (q 68)) rfl cn)))))))))) ?_
      refine gh [(10, _)] [] hB rfl rfl (by rfl) ?_
      refine AWp.seq ?_
      refine sr (c (mv hN (q 10)) rfl (c (OpJ.gtr (L rfl) (q 69) (Opd.int .u64 (1125899906842624))) rfl cn)) ?_
      refine gh [(10, _), (70, _)] [] hB rfl rfl (by rfl) ?_
      refine AWp.cond rfl (fun hg5 => ?_) (fun hg5 => ?_)
      · replace h := ite_t hg5 h
        refine sr (c (OpJ.assign (L rfl) (Opd.int .i64 (0))) rfl (c (OpJ.assign (L rfl) (Opd.int .i64 (3))) rfl cn)) ?_
        refine gh [(6, _), (7, _)] [] hB rfl rfl (by rfl) ?_
        refine AWp.ret ?_
        refine seqQ_r ?_
        obtain rfl := Option.some.inj h
        exact ⟨.inl rfl, _, _, (kp [(6, _), (7, _)] [] hB rfl rfl (by rfl)), [(i6 0), (i6 (3 : Int))], (Res.tmp (by rfl) (by rfl) (Res.tmp (by rfl) (by rfl) Res.nil)), rfl, by rfl, by rfl, by rfl⟩
      · replace h := ite_f hg5 h
        refine AWp.skip ?_
        refine seqQ_n ?_
        refine sr (c (mv hN (q 10)) rfl (c (conv6 Try.underlying55 Try.underlying3 (L rfl) (q 71)) rfl (c (OpJ.assign (L rfl) (q 72)) rfl (c (OpJ.assign (L rfl) (Opd.int .i64 (0))) rfl cn)))) ?_
        refine gh [(6, _), (7, _)] [] hB rfl rfl (by rfl) ?_
        refine AWp.ret ?_
        obtain rfl := Option.some.inj h
        exact ⟨.inl rfl, _, _, (kp [(6, _), (7, _)] [] hB rfl rfl (by rfl)), [(i6 (w64 r4.1)), (i6 0)], (Res.tmp (by rfl) (by rfl) (Res.tmp (by rfl) (by rfl) Res.nil)), rfl, by rfl, by rfl, by rfl⟩

noncomputable def exchangepointlaw38_rules_L0 (a0 : Int) (s1 : Int × (List api_Rule)) : Option ((((List api_Rule))) ⊕ (Int × (List api_Rule))) :=
  (if (decide (s1.1 < (6 : Int))) = true then
  (exchangepointmill_Mod (w64 (s1.1 + a0)) (3 : Int)).bind fun r10 =>
  chk (decide ((s1.2 ++ ([(api_Rule.mk (w64 (s1.1 + (1 : Int))) (w64 ((101 : Int) + r10)) (0 : Int) ([] : List (List Int)) ([] : List api_Addr) ([] : List api_Addr) (0 : Int) (0 : Int))] : List api_Rule)).length ≤ LIM)) <|
  some (.inr ((w64 (s1.1 + (1 : Int))), (s1.2 ++ ([(api_Rule.mk (w64 (s1.1 + (1 : Int))) (w64 ((101 : Int) + r10)) (0 : Int) ([] : List (List Int)) ([] : List api_Addr) ([] : List api_Addr) (0 : Int) (0 : Int))] : List api_Rule))))
  else
  some (.inl s1.2))
noncomputable def exchangepointlaw38_rules (a0 : Int) : Option ((List api_Rule)) :=
  (loop (exchangepointlaw38_rules_L0 a0) ((0 : Int), ([] : List api_Rule))).bind fun p8 =>
  some p8
set_option maxHeartbeats 4000000 in
set_option maxRecDepth 100000 in
theorem exchangepointlaw38_rules_ac (a0 : Int) (r : (List api_Rule)) (h : exchangepointlaw38_rules a0 = some r) : AC Try.prog 14 [(.d (.int .i64 a0))] [] (.d (.list 8 (r.map e_api_Rule))) [] := by
  refine AC.of_code2 Try.func14 rfl rfl (Nat.le_of_ble_eq_true (by rfl)) fun B hB hN => ?_
  have L {d : Nat} (h : Nat.blt d Try.f14.ntmps = true) : d < B.N := ltN hN h
  delta exchangepointlaw38_rules at h
  refine sr (c (OpJ.assign (L rfl) Opd.nils) rfl cn) ?_
  refine gh [(0, _)] [] hB rfl rfl (by rfl) ?_
  refine sr (c (OpJ.assign (L rfl) Opd.nils) rfl cn) ?_
  refine gh [(0, _), (3, _)] [] hB rfl rfl (by rfl) ?_
  refine AWp.seq ?_
  refine sr (c (OpJ.assign (L rfl) (Opd.int .i64 (0))) rfl cn) ?_
  refine gh [(0, _), (3, _), (4, _)] [] hB rfl rfl (by rfl) ?_
  refine AWp.block ?_
  obtain ⟨p8, hx13, h⟩ := bindS h
  refine lg (exchangepointlaw38_rules_L0 a0) (fun s1 : Int × (List api_Rule) => ([(0, (i6 a0)), (3, (.sref 3003 8 0 s1.2.length)), (4, (i6 s1.1))] : EL)) (fun s1 : Int × (List api_Rule) => ([(3003, some (we_api_Rule_70_8 s1.2))] : OL)) (fun (p8 : ((List api_Rule))) e E' O' => e = .exit 0 ∧ Mat B E' O' ([(3, (.sref 3003 8 0 p8.length))] : EL) ([(3003, some (we_api_Rule_70_8 p8))] : OL)) hx13 (Mat.trans (Mat.beginP (n := 3003) (e := 70) (sz := 8) (Ts := [(3, (.sref 3003 8 0 0))]) (Bs := []) hB (by decide) (by rfl) (by decide) (TwT.cons (x := .nils) (by rfl) (Tw.leaf ⟨rfl, rfl⟩) TwT.nil) TwB.nil) (mp [] _ _ hB)) (fun s1 y h => ?_) (fun e E' O' hR => ?_)
  · unfold exchangepointlaw38_rules_L0 at h
    refine AWp.seq ?_
    refine sr (c (mv hN (q 4)) rfl (c (OpJ.lss (L rfl) (q 5) (Opd.int .i64 (6))) rfl cn)) ?_
    refine gh [(0, _), (3, _), (4, _), (6, _)] [(3003, some _)] hB rfl rfl (by rfl) ?_
    refine AWp.cond rfl (fun hg9 => ?_) (fun hg9 => ?_)
    · replace h := ite_t hg9 h
      refine AWp.skip ?_
      refine seqQ_n ?_
      refine AWp.seq ?_
      refine AWp.block ?_
      obtain ⟨r10, hr10, h⟩ := bindS h
      obtain ⟨hc11, h⟩ := chk_some h
      refine rg (c (mv hN (q 3)) rfl (c (mv hN (q 4)) rfl (c (add6 (L rfl) (q 10) (Opd.int .i64 (1))) rfl (c (mv hN (q 4)) rfl (c (mv hN (q 0)) rfl (c (add6 (L rfl) (q 12) (q 13)) rfl (cg (OpJ.callFn hB fnOk7 (exchangepointmill_Mod_ac (w64 (s1.1 + a0)) (3 : Int) r10 hr10) [] (by kernel_rfl) (L rfl) (by kernel_rfl) (OpdL.cons (q 14) (OpdL.cons (Opd.int .i64 (3)) OpdL.nil))) rfl (c (add6 (L rfl) (Opd.int .i64 (101)) (q 15)) rfl (c (OpJ.build (places := [(0, 1), (1, 1), (2, 1), (3, 1), (4, 1), (5, 1), (6, 1), (7, 1)]) ⟨Try.underlying70, fun w => by kernel_rfl⟩ tyZS70 (Opds.cons (q 11) (Opds.cons (q 16) Opds.nil)) (by kernel_rfl) (r := (.st [(i6 (w64 (s1.1 + (1 : Int)))), (i6 (w64 ((101 : Int) + r10))), (i6 0), .nils, .nils, .nils, (i6 0), (i6 0)])) (by rfl) (L rfl)) rfl (c (OpJ.buildSlice Try.underlying39 tyS70 tyZD70 (by rfl) (by decide) (by decide) (Opds.cons (Opd.co (Co.st (CoL.cons (Co.d _) (CoL.cons (Co.d _) (CoL.cons (Co.d _) (CoL.cons (Co.nils 6) (CoL.cons (Co.nils 3) (CoL.cons (Co.nils 3) (CoL.cons (Co.d _) (CoL.cons (Co.d _) CoL.nil))))))))) (q 17)) Opds.nil) (by kernel_rfl) (es := ([(.st [(.int .i64 (w64 (s1.1 + (1 : Int)))), (.int .i64 (w64 ((101 : Int) + r10))), (.int .i64 0), (.list 6 (([] : List (List Int)).map e_A6eIu8)), (.list 3 (([] : List api_Addr).map e_api_Addr)), (.list 3 (([] : List api_Addr).map e_api_Addr)), (.int .i64 0), (.int .i64 0)])] : List D)) (by rfl) (by rfl) (by kernel_rfl) (by simp) (L rfl)) rfl (cg (OpJ.append hB Try.underlying39 tyE70 (nm := 1019) (by decide) (es := s1.2.map e_api_Rule) (ys := ([(api_Rule.mk (w64 (s1.1 + (1 : Int))) (w64 ((101 : Int) + r10)) (0 : Int) ([] : List (List Int)) ([] : List api_Addr) ([] : List api_Addr) (0 : Int) (0 : Int))] : List api_Rule).map e_api_Rule) (es' := (s1.2 ++ ([(api_Rule.mk (w64 (s1.1 + (1 : Int))) (w64 ((101 : Int) + r10)) (0 : Int) ([] : List (List Int)) ([] : List api_Addr) ([] : List api_Addr) (0 : Int) (0 : Int))] : List api_Rule)).map e_api_Rule) (len := (s1.2 ++ ([(api_Rule.mk (w64 (s1.1 + (1 : Int))) (w64 ((101 : Int) + r10)) (0 : Int) ([] : List (List Int)) ([] : List api_Addr) ([] : List api_Addr) (0 : Int) (0 : Int))] : List api_Rule)).length) (by simp) (by simp) (map_sz (f := e_api_Rule) (fun _ => rfl)) (by rw [List.length_map]; exact lim_mulN hc11 (by decide)) (by rw [List.length_map]; exact lim_leN hc11) (L rfl) (by simp) (q 9) (q 18)) rfl (c (OpJ.assign (L rfl) (q 19)) rfl cn)))))))))))) ?_
      refine blkQ_n ?_
      refine seqQ_n ?_
      refine gh [(0, _), (3, _), (4, _)] [(1019, some _)] hB rfl rfl (by rfl) ?_
      refine rg (c (mv hN (q 4)) rfl (c (add6 (L rfl) (q 7) (Opd.int .i64 (1))) rfl (c (OpJ.assign (L rfl) (q 8)) rfl cn))) ?_
      obtain rfl := Option.some.inj h
      exact ⟨rfl, (Mat.trans (mp [] [(0, (i6 a0)), (3, (.sref 1019 8 0 ((s1.2 ++ ([(api_Rule.mk (w64 (s1.1 + (1 : Int))) (w64 ((101 : Int) + r10)) (0 : Int) ([] : List (List Int)) ([] : List api_Addr) ([] : List api_Addr) (0 : Int) (0 : Int))] : List api_Rule)).length))), (4, (i6 (w64 (s1.1 + (1 : Int)))))] [(1019, some (we_api_Rule_70_8 (s1.2 ++ ([(api_Rule.mk (w64 (s1.1 + (1 : Int))) (w64 ((101 : Int) + r10)) (0 : Int) ([] : List (List Int)) ([] : List api_Addr) ([] : List api_Addr) (0 : Int) (0 : Int))] : List api_Rule))))] hB) (mp [(3003, 1019)] _ _ hB))⟩
    · replace h := ite_f hg9 h
      refine AWp.exit ?_
      refine seqQ_e ?_
      obtain rfl := Option.some.inj h
      exact ⟨(fun hc => by cases hc), rfl, (mp [] _ _ hB)⟩
  · obtain ⟨rfl, hmat⟩ := hR
    refine blkQ_hit ?_
    refine seqQ_n ?_
    refine AWp.ghost hmat ?_
    refine sr (c (mv hN (q 3)) rfl (c (OpJ.assign (L rfl) (q 20)) rfl cn)) ?_
    refine gh [(2, _)] [(3003, some _)] hB rfl rfl (by rfl) ?_
    refine AWp.ret ?_
    obtain rfl := Option.some.inj h
    exact ⟨.inl rfl, _, _, (Mat.trans (Mat.freezeP (n := 3003) (e := 70) (sz := 8) (es := p8.map e_api_Rule) (Ts := [(2, (qe_api_Rule_8 p8))]) (Bs := []) (by rfl) (TwT.cons (x := (.sref 3003 8 0 p8.length)) (by rfl) (FrzL.all (by first | rfl | (simp; done) | (simp; omega))) TwT.nil) TwB.nil) (mp [] [(2, (qe_api_Rule_8 p8))] [] hB)), [(qe_api_Rule_8 p8)], (Res.tmp (by rfl) (by rfl) Res.nil), rfl, by rfl, by rfl, by rfl⟩

noncomputable def sample_single_1 (a0 : Int) (a1 : Int) (a2 : Int) : Option (Bool) :=
  some ((decide (a1 ≤ a0)) && (decide (a0 ≤ a2)))
set_option maxHeartbeats 4000000 in
set_option maxRecDepth 100000 in
theorem sample_single_1_ac (a0 : Int) (a1 : Int) (a2 : Int) (r : Bool) (h : sample_single_1 a0 a1 a2 = some r) : AC Try.prog 49 [(.d (.int .i64 a0)), (.d (.int .i64 a1)), (.d (.int .i64 a2))] [] (.d (.bool r)) [] := by
  refine AC.of_code2 Try.func49 rfl rfl (Nat.le_of_ble_eq_true (by rfl)) fun B hB hN => ?_
  delta sample_single_1 at h
  refine sr (c (OpJ.assign (ltN hN rfl) (Opd.bool false)) rfl cn) ?_
  refine gh [(0, _), (1, _), (2, _)] [] hB rfl rfl (by rfl) ?_
  refine sr (c (mv hN (q 0)) rfl (c (mv hN (q 1)) rfl (c (OpJ.geq (ltN hN rfl) (q 7) (q 8)) rfl (c (mv hN (q 9)) rfl (c (oq hN 10 (mv hN (q 0)) (OptL.keep (by rfl) OptL.nil) (GuardV.plain _)) rfl (c (oq hN 10 (mv hN (q 2)) (OptL.keep (by rfl) OptL.nil) (GuardV.plain _)) rfl (c (oq hN 10 (OpJ.leq (ltN hN rfl) (q 11) (q 12)) (OptL.opt (OptL.opt OptL.nil)) (GuardV.plain _)) rfl (c (OpJ.pickAnd rfl (ltN hN rfl) (q 10) (q 13)) rfl (c (OpJ.assign (ltN hN rfl) (q 14)) rfl cn))))))))) ?_
  refine gh [(6, _)] [] hB rfl rfl (by rfl) ?_
  refine AWp.ret ?_
  obtain rfl := Option.some.inj h
  exact ⟨.inl rfl, _, _, (kp [(6, _)] [] hB rfl rfl (by rfl)), [(bo ((decide (a1 ≤ a0)) && (decide (a0 ≤ a2))))], (Res.tmp (by rfl) (by rfl) Res.nil), rfl, by rfl, by rfl, by rfl⟩

noncomputable def sample_single (a0 : api_Sample) : Option (Bool) :=
  jn (fun m13 : Bool =>
  some m13) (fun j14 =>
  (sample_single_1 a0.fTick (0 : Int) (1073741824 : Int)).bind fun r15 =>
  (if r15 = true then
  (sample_single_1 a0.fSeq (0 : Int) (1099511627776 : Int)).bind fun r17 =>
  (if r17 = true then
  (sample_single_1 a0.fPool (0 : Int) (1099511627776 : Int)).bind fun r19 =>
  (if r19 = true then
  (sample_single_1 a0.fIn (1 : Int) (999 : Int)).bind fun r21 =>
  (if r21 = true then
  (sample_single_1 a0.fOut (1 : Int) (999 : Int)).bind fun r23 =>
  (if r23 = true then
  (sample_single_1 a0.fBytes (0 : Int) (65535 : Int)).bind fun r25 =>
  j14 r25
  else
  j14 false)
  else
  j14 false)
  else
  j14 false)
  else
  j14 false)
  else
  j14 false))
set_option maxHeartbeats 4000000 in
set_option maxRecDepth 100000 in
theorem sample_single_ac (a0 : api_Sample) (r : Bool) (h : sample_single a0 = some r) : AC Try.prog 46 [(.d (e_api_Sample a0))] [] (.d (.bool r)) [] := by
  refine AC.of_code2 Try.func46 rfl rfl (Nat.le_of_ble_eq_true (by rfl)) fun B hB hN => ?_
  have L {d : Nat} (h : Nat.blt d Try.f46.ntmps = true) : d < B.N := ltN hN h
  delta sample_single at h
  refine sr (cg (OpJ.box hB (nm := 1001) (by decide) (by simp) rfl (L rfl) (q 0)) rfl (c (OpJ.assign (L rfl) (Opd.bool false)) rfl cn)) ?_
  refine gh [(1, _)] [(1001, some _)] hB rfl rfl (by rfl) ?_
  refine sr (c (OpJ.assign (L rfl) (Opd.func 49)) rfl cn) ?_
  refine gh [(1, _), (3, _)] [(1001, some _)] hB rfl rfl (by rfl) ?_
  refine AWp.seq ?_
  refine AWp.cut h (fun m13 : Bool => ([(2, (bo m13))] : EL)) (fun m13 : Bool => ([] : OL)) (fun m13 h E' O' hmat => ?_) (fun j14 hjj14 h => ?_)
  · refine seqQ_n ?_
    refine AWp.ghost hmat ?_
    refine AWp.ret ?_
    obtain rfl := Option.some.inj h
    exact ⟨.inl rfl, _, _, (kp [(2, _)] [] hB rfl rfl (by rfl)), [(bo m13)], (Res.tmp (by rfl) (by rfl) Res.nil), rfl, by rfl, by rfl, by rfl⟩
  · obtain ⟨r15, hr15, h⟩ := bindS h
    rcases Bool.eq_false_or_eq_true r15 with hg16 | hg16
    · replace h := ite_t hg16 h
      obtain ⟨r17, hr17, h⟩ := bindS h
      rcases Bool.eq_false_or_eq_true r17 with hg18 | hg18
      · replace h := ite_t hg18 h
        obtain ⟨r19, hr19, h⟩ := bindS h
        rcases Bool.eq_false_or_eq_true r19 with hg20 | hg20
        · replace h := ite_t hg20 h
          obtain ⟨r21, hr21, h⟩ := bindS h
          rcases Bool.eq_false_or_eq_true r21 with hg22 | hg22
          · replace h := ite_t hg22 h
            obtain ⟨r23, hr23, h⟩ := bindS h
            rcases Bool.eq_false_or_eq_true r23 with hg24 | hg24
            · replace h := ite_t hg24 h
              obtain ⟨r25, hr25, h⟩ := bindS h
              refine rg (c (mv hN (q 3)) rfl (c (ov (.ptr 1001 0 [0]) (fp hN Try.underlying54 0 tyS3 _ (q 1))) rfl (c (lb hN 54 _ _ tyS3 (ad _) (q 5)) rfl (cg (OpJ.callVal (args := [(i6 a0.fTick), (i6 0), (i6 (1073741824 : Int))]) (caps := []) hB fnOk49 [] (sample_single_1_ac a0.fTick (0 : Int) (1073741824 : Int) r15 hr15) (by kernel_rfl) (L rfl) (by kernel_rfl) (by kernel_rfl) (OpdL.cons (q 6) (OpdL.cons (Opd.int .i64 (0)) (OpdL.cons (Opd.int .i64 (1073741824)) OpdL.nil)))) rfl (c (OpJ.val (v' := .d (.bool true)) (by rw [hg16]) (mv hN (q 7))) rfl (c (OpJ.guarded (g := 8) (by rfl) (mv hN (q 3))) rfl (c (OpJ.guarded (g := 8) (by rfl) (ov (.ptr 1001 1 [1]) (fp hN Try.underlying54 1 tyS3 _ (q 1)))) rfl (c (OpJ.guarded (g := 8) (by rfl) (lb hN 54 _ _ tyS3 (ad _) (q 10))) rfl (cg (OpJ.guarded (g := 8) (by rfl) (OpJ.callVal (args := [(i6 a0.fSeq), (i6 0), (i6 (1099511627776 : Int))]) (caps := []) hB fnOk49 [] (sample_single_1_ac a0.fSeq (0 : Int) (1099511627776 : Int) r17 hr17) (by kernel_rfl) (L rfl) (by kernel_rfl) (by kernel_rfl) (OpdL.cons (q 11) (OpdL.cons (Opd.int .i64 (0)) (OpdL.cons (Opd.int .i64 (1099511627776)) OpdL.nil))))) rfl (c (OpJ.pickT (L rfl) (q 8) (q 12)) rfl (c (OpJ.val (v' := .d (.bool true)) (by rw [hg18]) (mv hN (q 13))) rfl (c (OpJ.guarded (g := 14) (by rfl) (mv hN (q 3))) rfl (c (OpJ.guarded (g := 14) (by rfl) (ov (.ptr 1001 2 [2]) (fp hN Try.underlying54 2 tyS3 _ (q 1)))) rfl (c (OpJ.guarded (g := 14) (by rfl) (lb hN 54 _ _ tyS3 (ad _) (q 16))) rfl (cg (OpJ.guarded (g := 14) (by rfl) (OpJ.callVal (args := [(i6 a0.fPool), (i6 0), (i6 (1099511627776 : Int))]) (caps := []) hB fnOk49 [] (sample_single_1_ac a0.fPool (0 : Int) (1099511627776 : Int) r19 hr19) (by kernel_rfl) (L rfl) (by kernel_rfl) (by kernel_rfl) (OpdL.cons (q 17) (OpdL.cons (Opd.int .i64 (0)) (OpdL.cons (Opd.int .i64 (1099511627776)) OpdL.nil))))) rfl (c (OpJ.pickT (L rfl) (q 14) (q 18)) rfl (c (OpJ.val (v' := .d (.bool true)) (by rw [hg20]) (mv hN (q 19))) rfl (c (OpJ.guarded (g := 20) (by rfl) (mv hN (q 3))) rfl (c (OpJ.guarded (g := 20) (by rfl) (ov (.ptr 1001 3 [3]) (fp hN Try.underlying54 3 tyS3 _ (q 1)))) rfl (c (OpJ.guarded (g := 20) (by rfl) (lb hN 54 _ _ tyS3 (ad _) (q 22))) rfl (cg (OpJ.guarded (g := 20) (by rfl) (OpJ.callVal (args := [(i6 a0.fIn), (i6 1), (i6 (999 : Int))]) (caps := []) hB fnOk49 [] (sample_single_1_ac a0.fIn (1 : Int) (999 : Int) r21 hr21) (by kernel_rfl) (L rfl) (by kernel_rfl) (by kernel_rfl) (OpdL.cons (q 23) (OpdL.cons (Opd.int .i64 (1)) (OpdL.cons (Opd.int .i64 (999)) OpdL.nil))))) rfl (c (OpJ.pickT (L rfl) (q 20) (q 24)) rfl (c (OpJ.val (v' := .d (.bool true)) (by rw [hg22]) (mv hN (q 25))) rfl (c (OpJ.guarded (g := 26) (by rfl) (mv hN (q 3))) rfl (c (OpJ.guarded (g := 26) (by rfl) (ov (.ptr 1001 4 [4]) (fp hN Try.underlying54 4 tyS3 _ (q 1)))) rfl (c (OpJ.guarded (g := 26) (by rfl) (lb hN 54 _ _ tyS3 (ad _) (q 28))) rfl (cg (OpJ.guarded (g := 26) (by rfl) (OpJ.callVal (args := [(i6 a0.fOut), (i6 1), (i6 (999 : Int))]) (caps := []) hB fnOk49 [] (sample_single_1_ac a0.fOut (1 : Int) (999 : Int) r23 hr23) (by kernel_rfl) (L rfl) (by kernel_rfl) (by kernel_rfl) (OpdL.cons (q 29) (OpdL.cons (Opd.int .i64 (1)) (OpdL.cons (Opd.int .i64 (999)) OpdL.nil))))) rfl (c (OpJ.pickT (L rfl) (q 26) (q 30)) rfl (c (OpJ.val (v' := .d (.bool true)) (by rw [hg24]) (mv hN (q 31))) rfl (c (OpJ.guarded (g := 32) (by rfl) (mv hN (q 3))) rfl (c (OpJ.guarded (g := 32) (by rfl) (ov (.ptr 1001 5 [5]) (fp hN Try.underlying54 5 tyS3 _ (q 1)))) rfl (c (OpJ.guarded (g := 32) (by rfl) (lb hN 54 _ _ tyS3 (ad _) (q 34))) rfl (cg (OpJ.guarded (g := 32) (by rfl) (OpJ.callVal (args := [(i6 a0.fBytes), (i6 0), (i6 (65535 : Int))]) (caps := []) hB fnOk49 [] (sample_single_1_ac a0.fBytes (0 : Int) (65535 : Int) r25 hr25) (by kernel_rfl) (L rfl) (by kernel_rfl) (by kernel_rfl) (OpdL.cons (q 35) (OpdL.cons (Opd.int .i64 (0)) (OpdL.cons (Opd.int .i64 (65535)) OpdL.nil))))) rfl (c (OpJ.pickT (L rfl) (q 32) (q 36)) rfl (c (OpJ.assign (L rfl) (q 37)) rfl cn))))))))))))))))))))))))))))))))))) ?_
              exact hjj14 _ h _ _ (Mat.trans (mp [] [(2, (bo r25))] [] hB) (mp [] _ _ hB))
            · replace h := ite_f hg24 h
              refine rg (c (mv hN (q 3)) rfl (c (ov (.ptr 1001 0 [0]) (fp hN Try.underlying54 0 tyS3 _ (q 1))) rfl (c (lb hN 54 _ _ tyS3 (ad _) (q 5)) rfl (cg (OpJ.callVal (args := [(i6 a0.fTick), (i6 0), (i6 (1073741824 : Int))]) (caps := []) hB fnOk49 [] (sample_single_1_ac a0.fTick (0 : Int) (1073741824 : Int) r15 hr15) (by kernel_rfl) (L rfl) (by kernel_rfl) (by kernel_rfl) (OpdL.cons (q 6) (OpdL.cons (Opd.int .i64 (0)) (OpdL.cons (Opd.int .i64 (1073741824)) OpdL.nil)))) rfl (c (OpJ.val (v' := .d (.bool true)) (by rw [hg16]) (mv hN (q 7))) rfl (c (OpJ.guarded (g := 8) (by rfl) (mv hN (q 3))) rfl (c (OpJ.guarded (g := 8) (by rfl) (ov (.ptr 1001 1 [1]) (fp hN Try.underlying54 1 tyS3 _ (q 1)))) rfl (c (OpJ.guarded (g := 8) (by rfl) (lb hN 54 _ _ tyS3 (ad _) (q 10))) rfl (cg (OpJ.guarded (g := 8) (by rfl) (OpJ.callVal (args := [(i6 a0.fSeq), (i6 0), (i6 (1099511627776 : Int))]) (caps := []) hB fnOk49 [] (sample_single_1_ac a0.fSeq (0 : Int) (1099511627776 : Int) r17 hr17) (by kernel_rfl) (L rfl) (by kernel_rfl) (by kernel_rfl) (OpdL.cons (q 11) (OpdL.cons (Opd.int .i64 (0)) (OpdL.cons (Opd.int .i64 (1099511627776)) OpdL.nil))))) rfl (c (OpJ.pickT (L rfl) (q 8) (q 12)) rfl (c (OpJ.val (v' := .d (.bool true)) (by rw [hg18]) (mv hN (q 13))) rfl (c (OpJ.guarded (g := 14) (by rfl) (mv hN (q 3))) rfl (c (OpJ.guarded (g := 14) (by rfl) (ov (.ptr 1001 2 [2]) (fp hN Try.underlying54 2 tyS3 _ (q 1)))) rfl (c (OpJ.guarded (g := 14) (by rfl) (lb hN 54 _ _ tyS3 (ad _) (q 16))) rfl (cg (OpJ.guarded (g := 14) (by rfl) (OpJ.callVal (args := [(i6 a0.fPool), (i6 0), (i6 (1099511627776 : Int))]) (caps := []) hB fnOk49 [] (sample_single_1_ac a0.fPool (0 : Int) (1099511627776 : Int) r19 hr19) (by kernel_rfl) (L rfl) (by kernel_rfl) (by kernel_rfl) (OpdL.cons (q 17) (OpdL.cons (Opd.int .i64 (0)) (OpdL.cons (Opd.int .i64 (1099511627776)) OpdL.nil))))) rfl (c (OpJ.pickT (L rfl) (q 14) (q 18)) rfl (c (OpJ.val (v' := .d (.bool true)) (by rw [hg20]) (mv hN (q 19))) rfl (c (OpJ.guarded (g := 20) (by rfl) (mv hN (q 3))) rfl (c (OpJ.guarded (g := 20) (by rfl) (ov (.ptr 1001 3 [3]) (fp hN Try.underlying54 3 tyS3 _ (q 1)))) rfl (c (OpJ.guarded (g := 20) (by rfl) (lb hN 54 _ _ tyS3 (ad _) (q 22))) rfl (cg (OpJ.guarded (g := 20) (by rfl) (OpJ.callVal (args := [(i6 a0.fIn), (i6 1), (i6 (999 : Int))]) (caps := []) hB fnOk49 [] (sample_single_1_ac a0.fIn (1 : Int) (999 : Int) r21 hr21) (by kernel_rfl) (L rfl) (by kernel_rfl) (by kernel_rfl) (OpdL.cons (q 23) (OpdL.cons (Opd.int .i64 (1)) (OpdL.cons (Opd.int .i64 (999)) OpdL.nil))))) rfl (c (OpJ.pickT (L rfl) (q 20) (q 24)) rfl (c (OpJ.val (v' := .d (.bool true)) (by rw [hg22]) (mv hN (q 25))) rfl (c (OpJ.guarded (g := 26) (by rfl) (mv hN (q 3))) rfl (c (OpJ.guarded (g := 26) (by rfl) (ov (.ptr 1001 4 [4]) (fp hN Try.underlying54 4 tyS3 _ (q 1)))) rfl (c (OpJ.guarded (g := 26) (by rfl) (lb hN 54 _ _ tyS3 (ad _) (q 28))) rfl (cg (OpJ.guarded (g := 26) (by rfl) (OpJ.callVal (args := [(i6 a0.fOut), (i6 1), (i6 (999 : Int))]) (caps := []) hB fnOk49 [] (sample_single_1_ac a0.fOut (1 : Int) (999 : Int) r23 hr23) (by kernel_rfl) (L rfl) (by kernel_rfl) (by kernel_rfl) (OpdL.cons (q 29) (OpdL.cons (Opd.int .i64 (1)) (OpdL.cons (Opd.int .i64 (999)) OpdL.nil))))) rfl (c (OpJ.pickT (L rfl) (q 26) (q 30)) rfl (c (OpJ.val (v' := .d (.bool false)) (by rw [hg24]) (mv hN (q 31))) rfl (cg (OpJ.skipU (g := 32) (L rfl) (by rfl)) rfl (cg (OpJ.skipU (g := 32) (L rfl) (by rfl)) rfl (cg (OpJ.skipU (g := 32) (L rfl) (by rfl)) rfl (cg (OpJ.skipU (g := 32) (L rfl) (by rfl)) rfl (c (OpJ.pickF (L rfl) (q 32) (Opd.bool false)) rfl (c (OpJ.assign (L rfl) (q 37)) rfl cn))))))))))))))))))))))))))))))))))) ?_
              exact hjj14 _ h _ _ (Mat.trans (mp [] [(2, (bo false))] [] hB) (mp [] _ _ hB))
          · replace h := ite_f hg22 h
            refine rg (c (mv hN (q 3)) rfl (c (ov (.ptr 1001 0 [0]) (fp hN Try.underlying54 0 tyS3 _ (q 1))) rfl (c (lb hN 54 _ _ tyS3 (ad _) (q 5)) rfl (cg (OpJ.callVal (args := [(i6 a0.fTick), (i6 0), (i6 (1073741824 : Int))]) (caps := []) hB fnOk49 [] (sample_single_1_ac a0.fTick (0 : Int) (1073741824 : Int) r15 hr15) (by kernel_rfl) (L rfl) (by kernel_rfl) (by kernel_rfl) (OpdL.cons (q 6) (OpdL.cons (Opd.int .i64 (0)) (OpdL.cons (Opd.int .i64 (1073741824)) OpdL.nil)))) rfl (c (OpJ.val (v' := .d (.bool true)) (by rw [hg16]) (mv hN (q 7))) rfl (c (OpJ.guarded (g := 8) (by rfl) (mv hN (q 3))) rfl (c (OpJ.guarded (g := 8) (by rfl) (ov (.ptr 1001 1 [1]) (fp hN Try.underlying54 1 tyS3 _ (q 1)))) rfl (c (OpJ.guarded (g := 8) (by rfl) (lb hN 54 _ _ tyS3 (ad _) (q 10))) rfl (cg (OpJ.guarded (g := 8) (by rfl) (OpJ.callVal (args := [(i6 a0.fSeq), (i6 0), (i6 (1099511627776 : Int))]) (caps := []) hB fnOk49 [] (sample_single_1_ac a0.fSeq (0 : Int) (1099511627776 : Int) r17 hr17) (by kernel_rfl) (L rfl) (by kernel_rfl) (by kernel_rfl) (OpdL.cons (q 11) (OpdL.cons (Opd.int .i64 (0)) (OpdL.cons (Opd.int .i64 (1099511627776)) OpdL.nil))))) rfl (c (OpJ.pickT (L rfl) (q 8) (q 12)) rfl (c (OpJ.val (v' := .d (.bool true)) (by rw [hg18]) (mv hN (q 13))) rfl (c (OpJ.guarded (g := 14) (by rfl) (mv hN (q 3))) rfl (c (OpJ.guarded (g := 14) (by rfl) (ov (.ptr 1001 2 [2]) (fp hN Try.underlying54 2 tyS3 _ (q 1)))) rfl (c (OpJ.guarded (g := 14) (by rfl) (lb hN 54 _ _ tyS3 (ad _) (q 16))) rfl (cg (OpJ.guarded (g := 14) (by rfl) (OpJ.callVal (args := [(i6 a0.fPool), (i6 0), (i6 (1099511627776 : Int))]) (caps := []) hB fnOk49 [] (sample_single_1_ac a0.fPool (0 : Int) (1099511627776 : Int) r19 hr19) (by kernel_rfl) (L rfl) (by kernel_rfl) (by kernel_rfl) (OpdL.cons (q 17) (OpdL.cons (Opd.int .i64 (0)) (OpdL.cons (Opd.int .i64 (1099511627776)) OpdL.nil))))) rfl (c (OpJ.pickT (L rfl) (q 14) (q 18)) rfl (c (OpJ.val (v' := .d (.bool true)) (by rw [hg20]) (mv hN (q 19))) rfl (c (OpJ.guarded (g := 20) (by rfl) (mv hN (q 3))) rfl (c (OpJ.guarded (g := 20) (by rfl) (ov (.ptr 1001 3 [3]) (fp hN Try.underlying54 3 tyS3 _ (q 1)))) rfl (c (OpJ.guarded (g := 20) (by rfl) (lb hN 54 _ _ tyS3 (ad _) (q 22))) rfl (cg (OpJ.guarded (g := 20) (by rfl) (OpJ.callVal (args := [(i6 a0.fIn), (i6 1), (i6 (999 : Int))]) (caps := []) hB fnOk49 [] (sample_single_1_ac a0.fIn (1 : Int) (999 : Int) r21 hr21) (by kernel_rfl) (L rfl) (by kernel_rfl) (by kernel_rfl) (OpdL.cons (q 23) (OpdL.cons (Opd.int .i64 (1)) (OpdL.cons (Opd.int .i64 (999)) OpdL.nil))))) rfl (c (OpJ.pickT (L rfl) (q 20) (q 24)) rfl (c (OpJ.val (v' := .d (.bool false)) (by rw [hg22]) (mv hN (q 25))) rfl (cg (OpJ.skipU (g := 26) (L rfl) (by rfl)) rfl (cg (OpJ.skipU (g := 26) (L rfl) (by rfl)) rfl (cg (OpJ.skipU (g := 26) (L rfl) (by rfl)) rfl (cg (OpJ.skipU (g := 26) (L rfl) (by rfl)) rfl (c (OpJ.pickF (L rfl) (q 26) (Opd.bool false)) rfl (c (mv hN (q 31)) rfl (cg (OpJ.skipU (g := 32) (L rfl) (by rfl)) rfl (cg (OpJ.skipU (g := 32) (L rfl) (by rfl)) rfl (cg (OpJ.skipU (g := 32) (L rfl) (by rfl)) rfl (cg (OpJ.skipU (g := 32) (L rfl) (by rfl)) rfl (c (OpJ.pickF (L rfl) (q 32) (Opd.bool false)) rfl (c (OpJ.assign (L rfl) (q 37)) rfl cn))))))))))))))))))))))))))))))))))) ?_
            exact hjj14 _ h _ _ (Mat.trans (mp [] [(2, (bo false))] [] hB) (mp [] _ _ hB))
        · replace h := ite_f hg20 h
          refine rg (c (mv hN (q 3)) rfl (c (ov (.ptr 1001 0 [0]) (fp hN Try.underlying54 0 tyS3 _ (q 1))) rfl (c (lb hN 54 _ _ tyS3 (ad _) (q 5)) rfl (cg (OpJ.callVal (args := [(i6 a0.fTick), (i6 0), (i6 (1073741824 : Int))]) (caps := []) hB fnOk49 [] (sample_single_1_ac a0.fTick (0 : Int) (1073741824 : Int) r15 hr15) (by kernel_rfl) (L rfl) (by kernel_rfl) (by kernel_rfl) (OpdL.cons (q 6) (OpdL.cons (Opd.int .i64 (0)) (OpdL.cons (Opd.int .i64 (1073741824)) OpdL.nil)))) rfl (c (OpJ.val (v' := .d (.bool true)) (by rw [hg16]) (mv hN (q 7))) rfl (c (OpJ.guarded (g := 8) (by rfl) (mv hN (q 3))) rfl (c (OpJ.guarded (g := 8) (by rfl) (ov (.ptr 1001 1 [1]) (fp hN Try.underlying54 1 tyS3 _ (q 1)))) rfl (c (OpJ.guarded (g := 8) (by rfl) (lb hN 54 _ _ tyS3 (ad _) (q 10))) rfl (cg (OpJ.guarded (g := 8) (by rfl) (OpJ.callVal (args := [(i6 a0.fSeq), (i6 0), (i6 (1099511627776 : Int))]) (caps := []) hB fnOk49 [] (sample_single_1_ac a0.fSeq (0 : Int) (1099511627776 : Int) r17 hr17) (by kernel_rfl) (L rfl) (by kernel_rfl) (by kernel_rfl) (OpdL.cons (q 11) (OpdL.cons (Opd.int .i64 (0)) (OpdL.cons (Opd.int .i64 (1099511627776)) OpdL.nil))))) rfl (c (OpJ.pickT (L rfl) (q 8) (q 12)) rfl (c (OpJ.val (v' := .d (.bool true)) (by rw [hg18]) (mv hN (q 13))) rfl (c (OpJ.guarded (g := 14) (by rfl) (mv hN (q 3))) rfl (c (OpJ.guarded (g := 14) (by rfl) (ov (.ptr 1001 2 [2]) (fp hN Try.underlying54 2 tyS3 _ (q 1)))) rfl (c (OpJ.guarded (g := 14) (by rfl) (lb hN 54 _ _ tyS3 (ad _) (q 16))) rfl (cg (OpJ.guarded (g := 14) (by rfl) (OpJ.callVal (args := [(i6 a0.fPool), (i6 0), (i6 (1099511627776 : Int))]) (caps := []) hB fnOk49 [] (sample_single_1_ac a0.fPool (0 : Int) (1099511627776 : Int) r19 hr19) (by kernel_rfl) (L rfl) (by kernel_rfl) (by kernel_rfl) (OpdL.cons (q 17) (OpdL.cons (Opd.int .i64 (0)) (OpdL.cons (Opd.int .i64 (1099511627776)) OpdL.nil))))) rfl (c (OpJ.pickT (L rfl) (q 14) (q 18)) rfl (c (OpJ.val (v' := .d (.bool false)) (by rw [hg20]) (mv hN (q 19))) rfl (cg (OpJ.skipU (g := 20) (L rfl) (by rfl)) rfl (cg (OpJ.skipU (g := 20) (L rfl) (by rfl)) rfl (cg (OpJ.skipU (g := 20) (L rfl) (by rfl)) rfl (cg (OpJ.skipU (g := 20) (L rfl) (by rfl)) rfl (c (OpJ.pickF (L rfl) (q 20) (Opd.bool false)) rfl (c (mv hN (q 25)) rfl (cg (OpJ.skipU (g := 26) (L rfl) (by rfl)) rfl (cg (OpJ.skipU (g := 26) (L rfl) (by rfl)) rfl (cg (OpJ.skipU (g := 26) (L rfl) (by rfl)) rfl (cg (OpJ.skipU (g := 26) (L rfl) (by rfl)) rfl (c (OpJ.pickF (L rfl) (q 26) (Opd.bool false)) rfl (c (mv hN (q 31)) rfl (cg (OpJ.skipU (g := 32) (L rfl) (by rfl)) rfl (cg (OpJ.skipU (g := 32) (L rfl) (by rfl)) rfl (cg (OpJ.skipU (g := 32) (L rfl) (by rfl)) rfl (cg (OpJ.skipU (g := 32) (L rfl) (by rfl)) rfl (c (OpJ.pickF (L rfl) (q 32) (Opd.bool false)) rfl (c (OpJ.assign (L rfl) (q 37)) rfl cn))))))))))))))))))))))))))))))))))) ?_
          exact hjj14 _ h _ _ (Mat.trans (mp [] [(2, (bo false))] [] hB) (mp [] _ _ hB))
      · replace h := ite_f hg18 h
        refine rg (c (mv hN (q 3)) rfl (c (ov (.ptr 1001 0 [0]) (fp hN Try.underlying54 0 tyS3 _ (q 1))) rfl (c (lb hN 54 _ _ tyS3 (ad _) (q 5)) rfl (cg (OpJ.callVal (args := [(i6 a0.fTick), (i6 0), (i6 (1073741824 : Int))]) (caps := []) hB fnOk49 [] (sample_single_1_ac a0.fTick (0 : Int) (1073741824 : Int) r15 hr15) (by kernel_rfl) (L rfl) (by kernel_rfl) (by kernel_rfl) (OpdL.cons (q 6) (OpdL.cons (Opd.int .i64 (0)) (OpdL.cons (Opd.int .i64 (1073741824)) OpdL.nil)))) rfl (c (OpJ.val (v' := .d (.bool true)) (by rw [hg16]) (mv hN (q 7))) rfl (c (OpJ.guarded (g := 8) (by rfl) (mv hN (q 3))) rfl (c (OpJ.guarded (g := 8) (by rfl) (ov (.ptr 1001 1 [1]) (fp hN Try.underlying54 1 tyS3 _ (q 1)))) rfl (c (OpJ.guarded (g := 8) (by rfl) (lb hN 54 _ _ tyS3 (ad _) (q 10))) rfl (cg (OpJ.guarded (g := 8) (by rfl) (OpJ.callVal (args := [(i6 a0.fSeq), (i6 0), (i6 (1099511627776 : Int))]) (caps := []) hB fnOk49 [] (sample_single_1_ac a0.fSeq (0 : Int) (1099511627776 : Int) r17 hr17) (by kernel_rfl) (L rfl) (by kernel_rfl) (by kernel_rfl) (OpdL.cons (q 11) (OpdL.cons (Opd.int .i64 (0)) (OpdL.cons (Opd.int .i64 (1099511627776)) OpdL.nil))))) rfl (c (OpJ.pickT (L rfl) (q 8) (q 12)) rfl (c (OpJ.val (v' := .d (.bool false)) (by rw [hg18]) (mv hN (q 13))) rfl (cg (OpJ.skipU (g := 14) (L rfl) (by rfl)) rfl (cg (OpJ.skipU (g := 14) (L rfl) (by rfl)) rfl (cg (OpJ.skipU (g := 14) (L rfl) (by rfl)) rfl (cg (OpJ.skipU (g := 14) (L rfl) (by rfl)) rfl (c (OpJ.pickF (L rfl) (q 14) (Opd.bool false)) rfl (c (mv hN (q 19)) rfl (cg (OpJ.skipU (g := 20) (L rfl) (by rfl)) rfl (cg (OpJ.skipU (g := 20) (L rfl) (by rfl)) rfl (cg (OpJ.skipU (g := 20) (L rfl) (by rfl)) rfl (cg (OpJ.skipU (g := 20) (L rfl) (by rfl)) rfl (c (OpJ.pickF (L rfl) (q 20) (Opd.bool false)) rfl (c (mv hN (q 25)) rfl (cg (OpJ.skipU (g := 26) (L rfl) (by rfl)) rfl (cg (OpJ.skipU (g := 26) (L rfl) (by rfl)) rfl (cg (OpJ.skipU (g := 26) (L rfl) (by rfl)) rfl (cg (OpJ.skipU (g := 26) (L rfl) (by rfl)) rfl (c (OpJ.pickF (L rfl) (q 26) (Opd.bool false)) rfl (c (mv hN (q 31)) rfl (cg (OpJ.skipU (g := 32) (L rfl) (by rfl)) rfl (cg (OpJ.skipU (g := 32) (L rfl) (by rfl)) rfl (cg (OpJ.skipU (g := 32) (L rfl) (by rfl)) rfl (cg (OpJ.skipU (g := 32) (L rfl) (by rfl)) rfl (c (OpJ.pickF (L rfl) (q 32) (Opd.bool false)) rfl (c (OpJ.assign (L rfl) (q 37)) rfl cn))))))))))))))))))))))))))))))))))) ?_
        exact hjj14 _ h _ _ (Mat.trans (mp [] [(2, (bo false))] [] hB) (mp [] _ _ hB))
    · replace h := ite_f hg16 h
      refine rg (c (mv hN (q 3)) rfl (c (ov (.ptr 1001 0 [0]) (fp hN Try.underlying54 0 tyS3 _ (q 1))) rfl (c (lb hN 54 _ _ tyS3 (ad _) (q 5)) rfl (cg (OpJ.callVal (args := [(i6 a0.fTick), (i6 0), (i6 (1073741824 : Int))]) (caps := []) hB fnOk49 [] (sample_single_1_ac a0.fTick (0 : Int) (1073741824 : Int) r15 hr15) (by kernel_rfl) (L rfl) (by kernel_rfl) (by kernel_rfl) (OpdL.cons (q 6) (OpdL.cons (Opd.int .i64 (0)) (OpdL.cons (Opd.int .i64 (1073741824)) OpdL.nil)))) rfl (c (OpJ.val (v' := .d (.bool false)) (by rw [hg16]) (mv hN (q 7))) rfl (cg (OpJ.skipU (g := 8) (L rfl) (by rfl)) rfl (cg (OpJ.skipU (g := 8) (L rfl) (by rfl)) rfl (cg (OpJ.skipU (g := 8) (L rfl) (by rfl)) rfl (cg (OpJ.skipU (g := 8) (L rfl) (by rfl)) rfl (c (OpJ.pickF (L rfl) (q 8) (Opd.bool false)) rfl (c (mv hN (q 13)) rfl (cg (OpJ.skipU (g := 14) (L rfl) (by rfl)) rfl (cg (OpJ.skipU (g := 14) (L rfl) (by rfl)) rfl (cg (OpJ.skipU (g := 14) (L rfl) (by rfl)) rfl (cg (OpJ.skipU (g := 14) (L rfl) (by rfl)) rfl (c (OpJ.pickF (L rfl) (q 14) (Opd.bool false)) rfl (c (mv hN (q 19)) rfl (cg (OpJ.skipU (g := 20) (L rfl) (by rfl)) rfl (cg (OpJ.skipU (g := 20) (L rfl) (by rfl)) rfl (cg (OpJ.skipU (g := 20) (L rfl) (by rfl)) rfl (cg (OpJ.skipU (g := 20) (L rfl) (by rfl)) rfl (c (OpJ.pickF (L rfl) (q 20) (Opd.bool false)) rfl (c (mv hN (q 25)) rfl (cg (OpJ.skipU (g := 26) (L rfl) (by rfl)) rfl (cg (OpJ.skipU (g := 26) (L rfl) (by rfl)) rfl (cg (OpJ.skipU (g := 26) (L rfl) (by rfl)) rfl (cg (OpJ.skipU (g := 26) (L rfl) (by rfl)) rfl (c (OpJ.pickF (L rfl) (q 26) (Opd.bool false)) rfl (c (mv hN (q 31)) rfl (cg (OpJ.skipU (g := 32) (L rfl) (by rfl)) rfl (cg (OpJ.skipU (g := 32) (L rfl) (by rfl)) rfl (cg (OpJ.skipU (g := 32) (L rfl) (by rfl)) rfl (cg (OpJ.skipU (g := 32) (L rfl) (by rfl)) rfl (c (OpJ.pickF (L rfl) (q 32) (Opd.bool false)) rfl (c (OpJ.assign (L rfl) (q 37)) rfl cn))))))))))))))))))))))))))))))))))) ?_
      exact hjj14 _ h _ _ (Mat.trans (mp [] [(2, (bo false))] [] hB) (mp [] _ _ hB))

noncomputable def sample_Valid_L0 (a0 : (List api_Sample)) (s2 : Int) : Option (((Unit) ⊕ (Unit)) ⊕ (Int)) :=
  (if (decide (s2 < (a0.length : Int))) = true then
  jn (fun _ : Unit =>
  some (.inr (w64 (s2 + (1 : Int))))) (fun j43 =>
  (idx a0 s2).bind fun x44 =>
  (sample_single x44).bind fun r45 =>
  (if (!r45) = true then
  some (.inl (.inl ()))
  else
  (if (s2 == (0 : Int)) = true then
  j43 ()
  else
  (idx a0 (w64 (s2 - (1 : Int)))).bind fun x48 =>
  (if (((decide (x44.fSeq ≤ x48.fSeq)) || (decide ((w64 (x44.fPool - x48.fPool)) < (w64 (x44.fSeq - x48.fSeq))))) || (decide (x44.fTick < x48.fTick))) = true then
  some (.inl (.inl ()))
  else
  j43 ()))))
  else
  some (.inl (.inr ())))
noncomputable def sample_Valid (a0 : (List api_Sample)) : Option (Bool) :=
  (if (decide ((1000 : Int) < (a0.length : Int))) = true then
  some false
  else
  (loop (sample_Valid_L0 a0) (0 : Int)).bind fun x50 => match x50 with
  | (.inl _) =>
    some false
  | (.inr _) =>
    some true)
set_option maxHeartbeats 4000000 in
set_option maxRecDepth 100000 in
theorem sample_Valid_ac (a0 : (List api_Sample)) (r : Bool) (h : sample_Valid a0 = some r) : AC Try.prog 35 [(.d (.list 6 (a0.map e_api_Sample)))] [] (.d (.bool r)) [] := by
  refine AC.of_code2 Try.func35 rfl rfl (Nat.le_of_ble_eq_true (by rfl)) fun B hB hN => ?_
  have L {d : Nat} (h : Nat.blt d Try.f35.ntmps = true) : d < B.N := ltN hN h
  delta sample_Valid at h
  refine sr (c (OpJ.assign (L rfl) (Opd.bool false)) rfl cn) ?_
  refine gh [(0, _)] [] hB rfl rfl (by rfl) ?_
  refine AWp.seq ?_
  refine sr (c (mv hN (q 0)) rfl (c (OpJ.val (v' := (i6 (a0.length : Int))) (by simp) (OpJ.lenD Try.underlying33 (L rfl) (q 6))) rfl (c (OpJ.gtr (L rfl) (q 7) (Opd.int .i64 (1000))) rfl cn))) ?_
  refine gh [(0, _), (8, _)] [] hB rfl rfl (by rfl) ?_
  refine AWp.cond rfl (fun hg1 => ?_) (fun hg1 => ?_)
  · replace h := ite_t hg1 h
    refine sr (c (OpJ.assign (L rfl) (Opd.bool false)) rfl cn) ?_
    refine gh [(2, _)] [] hB rfl rfl (by rfl) ?_
    refine AWp.ret ?_
    refine seqQ_r ?_
    obtain rfl := Option.some.inj h
    exact ⟨.inl rfl, _, _, (kp [(2, _)] [] hB rfl rfl (by rfl)), [(bo false)], (Res.tmp (by rfl) (by rfl) Res.nil), rfl, by rfl, by rfl, by rfl⟩
  · replace h := ite_f hg1 h
    refine AWp.skip ?_
    refine seqQ_n ?_
    refine AWp.seq ?_
    refine sr (c (mv hN (q 0)) rfl (c (OpJ.val (v' := (i6 (a0.length : Int))) (by simp) (OpJ.lenD Try.underlying33 (L rfl) (q 9))) rfl (c (mv hN (Opd.int .i64 (0))) rfl cn))) ?_
    refine gh [(0, _), (9, _), (10, _), (11, _)] [] hB rfl rfl (by rfl) ?_
    refine AWp.block ?_
    obtain ⟨x50, hx51, h⟩ := bindS h
    refine lg (sample_Valid_L0 a0) (fun s2 : Int => ([(0, (qe_api_Sample_6 a0)), (9, (qe_api_Sample_6 a0)), (10, (i6 (a0.length : Int))), (11, (i6 s2))] : EL)) (fun s2 : Int => ([] : OL)) (fun (x : (Unit) ⊕ (Unit)) e E' O' => match x with | (.inl _p) => e = .ret ∧ Mat B E' O' ([(2, (bo false))] : EL) ([] : OL) | (.inr _p) => e = .exit 0 ∧ Mat B E' O' ([] : EL) ([] : OL)) hx51 (mp [] _ _ hB) (fun s2 y h => ?_) (fun e E' O' hR => ?_)
    · unfold sample_Valid_L0 at h
      refine sr (c (OpJ.lss (L rfl) (q 11) (q 10)) rfl cn) ?_
      refine gh [(0, _), (9, _), (10, _), (11, _), (12, _)] [] hB rfl rfl (by rfl) ?_
      refine AWp.seq ?_
      refine AWp.cond rfl (fun hg35 => ?_) (fun hg35 => ?_)
      · replace h := ite_t hg35 h
        refine AWp.skip ?_
        refine seqQ_n ?_
        refine AWp.seq ?_
        refine AWp.cut h (fun _ : Unit => ([(0, (qe_api_Sample_6 a0)), (9, (qe_api_Sample_6 a0)), (10, (i6 (a0.length : Int))), (11, (i6 s2))] : EL)) (fun _ : Unit => ([] : OL)) (fun _m h E' O' hmat => ?_) (fun j43 hjj43 h => ?_)
        · refine seqQ_n ?_
          refine AWp.ghost hmat ?_
          refine rg (c (add6 (L rfl) (q 11) (Opd.int .i64 (1))) rfl (c (mv hN (q 51)) rfl cn)) ?_
          obtain rfl := Option.some.inj h
          exact ⟨rfl, (Mat.trans (mp [] [(0, (qe_api_Sample_6 a0)), (9, (qe_api_Sample_6 a0)), (10, (i6 (a0.length : Int))), (11, (i6 (w64 (s2 + (1 : Int)))))] [] hB) (mp [] _ _ hB))⟩
        · refine AWp.block ?_
          obtain ⟨x44, hx44, h⟩ := bindS h
          refine sr (c (mv hN (q 11)) rfl (c (OpJ.indexD Try.underlying33 tyS54 (idx_some hx44).1 (get_map e_api_Sample (idx_some hx44).2) (L rfl) (q 9) (q 11)) rfl (c (OpJ.loadD tyS54 (by rfl) (by rfl) (L rfl) (q 14)) rfl (cg (OpJ.alloc hB tyZ54 (nm := 1004) (by decide) (L rfl)) rfl (c (OpJ.assign (L rfl) (q 13)) rfl (cg (OpJ.storeB tyS54 (SetAt.here _ _) (by rfl) (by rfl) (by simp) rfl (q 4) (q 15)) rfl cn)))))) ?_
          refine gh [(0, _), (3, _), (4, _), (9, _), (10, _), (11, _)] [(1004, some _)] hB rfl rfl (by rfl) ?_
          refine AWp.seq ?_
          obtain ⟨r45, hr45, h⟩ := bindS h
          refine sr (c (lb hN 54 _ _ tyS54 (At.here _) (q 4)) rfl (cg (OpJ.callFn hB fnOk46 (sample_single_ac x44 r45 hr45) [] (by kernel_rfl) (L rfl) (by kernel_rfl) (OpdL.cons (q 16) OpdL.nil)) rfl (c (OpJ.not (L rfl) (q 17)) rfl cn))) ?_
          refine gh [(0, _), (3, _), (4, _), (9, _), (10, _), (11, _), (18, _)] [(1004, some _)] hB rfl rfl (by rfl) ?_
          refine AWp.cond rfl (fun hg46 => ?_) (fun hg46 => ?_)
          · replace h := ite_t hg46 h
            refine sr (c (OpJ.assign (L rfl) (Opd.bool false)) rfl cn) ?_
            refine gh [(2, _)] [] hB rfl rfl (by rfl) ?_
            refine AWp.ret ?_
            refine seqQ_r ?_
            refine blkQ_r ?_
            refine seqQ_r ?_
            obtain rfl := Option.some.inj h
            exact ⟨(fun hc => by cases hc), rfl, (mp [] _ _ hB)⟩
          · replace h := ite_f hg46 h
            refine AWp.skip ?_
            refine seqQ_n ?_
            refine AWp.seq ?_
            refine sr (c (mv hN (q 3)) rfl (c (OpJ.eqlI (L rfl) (q 19) (Opd.int .i64 (0))) rfl cn)) ?_
            refine gh [(0, _), (3, _), (4, _), (9, _), (10, _), (11, _), (20, _)] [(1004, some _)] hB rfl rfl (by rfl) ?_
            refine AWp.cond rfl (fun hg47 => ?_) (fun hg47 => ?_)
            · replace h := ite_t hg47 h
              refine AWp.exit ?_
              refine seqQ_e ?_
              refine blkQ_hit ?_
              exact hjj43 _ h _ _ (mp [] _ _ hB)
            · replace h := ite_f hg47 h
              refine AWp.skip ?_
              refine seqQ_n ?_
              obtain ⟨x48, hx48, h⟩ := bindS h
              refine sr (c (mv hN (q 0)) rfl (c (mv hN (q 3)) rfl (c (sub6 (L rfl) (q 22) (Opd.int .i64 (1))) rfl (c (OpJ.indexD Try.underlying33 tyS54 (idx_some hx48).1 (get_map e_api_Sample (idx_some hx48).2) (L rfl) (q 21) (q 23)) rfl (c (OpJ.loadD tyS54 (by rfl) (by rfl) (L rfl) (q 24)) rfl (cg (OpJ.alloc hB tyZ54 (nm := 1005) (by decide) (L rfl)) rfl (cg (OpJ.storeB tyS54 (SetAt.here _ _) (by rfl) (by rfl) (by simp) rfl (q 5) (q 25)) rfl cn))))))) ?_
              refine gh [(0, _), (4, _), (5, _), (9, _), (10, _), (11, _)] [(1004, some _), (1005, some _)] hB rfl rfl (by rfl) ?_
              refine sr (c (ov (.ptr 1004 1 [1]) (fp hN Try.underlying54 1 tyS3 _ (q 4))) rfl (c (lb hN 54 _ _ tyS3 (ad _) (q 26)) rfl (c (ov (.ptr 1005 1 [1]) (fp hN Try.underlying54 1 tyS3 _ (q 5))) rfl (c (lb hN 54 _ _ tyS3 (ad _) (q 28)) rfl (c (OpJ.leq (L rfl) (q 27) (q 29)) rfl (c (mv hN (q 30)) rfl (c (oq hN 31 (ov (.ptr 1004 2 [2]) (fp hN Try.underlying54 2 tyS3 _ (q 4))) (OptL.keep (by rfl) OptL.nil) (GuardV.plain _)) rfl (c (oq hN 31 (lb hN 54 _ _ tyS3 (ad _) (q 32)) (OptL.opt OptL.nil) (GuardV.plain _)) rfl (c (oq hN 31 (ov (.ptr 1005 2 [2]) (fp hN Try.underlying54 2 tyS3 _ (q 5))) (OptL.keep (by rfl) OptL.nil) (GuardV.plain _)) rfl (c (oq hN 31 (lb hN 54 _ _ tyS3 (ad _) (q 34)) (OptL.opt OptL.nil) (GuardV.plain _)) rfl (c (oq hN 31 (sub6 (L rfl) (q 33) (q 35)) (OptL.opt (OptL.opt OptL.nil)) (GuardV.plain _)) rfl (c (oq hN 31 (ov (.ptr 1004 1 [1]) (fp hN Try.underlying54 1 tyS3 _ (q 4))) (OptL.keep (by rfl) OptL.nil) (GuardV.plain _)) rfl (c (oq hN 31 (lb hN 54 _ _ tyS3 (ad _) (q 37)) (OptL.opt OptL.nil) (GuardV.plain _)) rfl (c (oq hN 31 (ov (.ptr 1005 1 [1]) (fp hN Try.underlying54 1 tyS3 _ (q 5))) (OptL.keep (by rfl) OptL.nil) (GuardV.plain _)) rfl (c (oq hN 31 (lb hN 54 _ _ tyS3 (ad _) (q 39)) (OptL.opt OptL.nil) (GuardV.plain _)) rfl (c (oq hN 31 (sub6 (L rfl) (q 38) (q 40)) (OptL.opt (OptL.opt OptL.nil)) (GuardV.plain _)) rfl (c (oq hN 31 (OpJ.lss (L rfl) (q 36) (q 41)) (OptL.opt (OptL.opt OptL.nil)) (GuardV.plain _)) rfl (c (OpJ.pickOr rfl (L rfl) (q 31) (q 42)) rfl (c (mv hN (q 43)) rfl (c (oq hN 44 (ov (.ptr 1004 0 [0]) (fp hN Try.underlying54 0 tyS3 _ (q 4))) (OptL.keep (by rfl) OptL.nil) (GuardV.plain _)) rfl (c (oq hN 44 (lb hN 54 _ _ tyS3 (ad _) (q 45)) (OptL.opt OptL.nil) (GuardV.plain _)) rfl (c (oq hN 44 (ov (.ptr 1005 0 [0]) (fp hN Try.underlying54 0 tyS3 _ (q 5))) (OptL.keep (by rfl) OptL.nil) (GuardV.plain _)) rfl (c (oq hN 44 (lb hN 54 _ _ tyS3 (ad _) (q 47)) (OptL.opt OptL.nil) (GuardV.plain _)) rfl (c (oq hN 44 (OpJ.lss (L rfl) (q 46) (q 48)) (OptL.opt (OptL.opt OptL.nil)) (GuardV.plain _)) rfl (c (OpJ.pickOr rfl (L rfl) (q 44) (q 49)) rfl cn))))))))))))))))))))))))) ?_
              refine gh [(0, _), (9, _), (10, _), (11, _), (50, _)] [] hB rfl rfl (by rfl) ?_
              refine AWp.cond rfl (fun hg49 => ?_) (fun hg49 => ?_)
              · replace h := ite_t hg49 h
                refine sr (c (OpJ.assign (L rfl) (Opd.bool false)) rfl cn) ?_
                refine gh [(2, _)] [] hB rfl rfl (by rfl) ?_
                refine AWp.ret ?_
                refine blkQ_r ?_
                refine seqQ_r ?_
                obtain rfl := Option.some.inj h
                exact ⟨(fun hc => by cases hc), rfl, (mp [] _ _ hB)⟩
              · replace h := ite_f hg49 h
                refine AWp.skip ?_
                refine blkQ_n ?_
                exact hjj43 _ h _ _ (mp [] _ _ hB)
      · replace h := ite_f hg35 h
        refine AWp.exit ?_
        refine seqQ_e ?_
        obtain rfl := Option.some.inj h
        exact ⟨(fun hc => by cases hc), rfl, (mp [] _ _ hB)⟩
    · rcases x50 with _ | _
      · obtain ⟨rfl, hmat⟩ := hR
        refine blkQ_r ?_
        refine seqQ_r ?_
        obtain rfl := Option.some.inj h
        exact ⟨.inl rfl, _, _, (Mat.trans hmat (mp [] [(2, (bo false))] [] hB)), [(bo false)], (Res.tmp (by rfl) (by rfl) Res.nil), rfl, by rfl, by rfl, by rfl⟩
      · obtain ⟨rfl, hmat⟩ := hR
        refine blkQ_hit ?_
        refine seqQ_n ?_
        refine AWp.ghost hmat ?_
        refine sr (c (OpJ.assign (L rfl) (Opd.bool true)) rfl cn) ?_
        refine gh [(2, _)] [] hB rfl rfl (by rfl) ?_
        refine AWp.ret ?_
        obtain rfl := Option.some.inj h
        exact ⟨.inl rfl, _, _, (kp [(2, _)] [] hB rfl rfl (by rfl)), [(bo true)], (Res.tmp (by rfl) (by rfl) Res.nil), rfl, by rfl, by rfl, by rfl⟩

noncomputable def matrix_number (a0 : Int) : Option (Bool) :=
  some ((decide ((1 : Int) ≤ a0)) && (decide (a0 ≤ (4294967295 : Int))))
set_option maxHeartbeats 4000000 in
set_option maxRecDepth 100000 in
theorem matrix_number_ac (a0 : Int) (r : Bool) (h : matrix_number a0 = some r) : AC Try.prog 36 [(.d (.int .i64 a0))] [] (.d (.bool r)) [] := by
  refine AC.of_code2 Try.func36 rfl rfl (Nat.le_of_ble_eq_true (by rfl)) fun B hB hN => ?_
  delta matrix_number at h
  refine sr (c (OpJ.assign (ltN hN rfl) (Opd.bool false)) rfl cn) ?_
  refine gh [(0, _)] [] hB rfl rfl (by rfl) ?_
  refine sr (c (mv hN (q 0)) rfl (c (OpJ.geq (ltN hN rfl) (q 3) (Opd.int .i64 (1))) rfl (c (mv hN (q 4)) rfl (c (oq hN 5 (mv hN (q 0)) (OptL.keep (by rfl) OptL.nil) (GuardV.plain _)) rfl (c (oq hN 5 (OpJ.leq (ltN hN rfl) (q 6) (Opd.int .i64 (4294967295))) (OptL.opt OptL.nil) (GuardV.plain _)) rfl (c (OpJ.pickAnd rfl (ltN hN rfl) (q 5) (q 7)) rfl (c (OpJ.assign (ltN hN rfl) (q 8)) rfl cn))))))) ?_
  refine gh [(2, _)] [] hB rfl rfl (by rfl) ?_
  refine AWp.ret ?_
  obtain rfl := Option.some.inj h
  exact ⟨.inl rfl, _, _, (kp [(2, _)] [] hB rfl rfl (by rfl)), [(bo ((decide ((1 : Int) ≤ a0)) && (decide (a0 ≤ (4294967295 : Int)))))], (Res.tmp (by rfl) (by rfl) Res.nil), rfl, by rfl, by rfl, by rfl⟩

noncomputable def matrix_put (a0 : (List (matrix_pair × api_Cell))) (a1 : api_Cell) : Option ((List (matrix_pair × api_Cell))) :=
  some (mput keq85 a0 (matrix_pair.mk a1.fFrom a1.fTo) (api_Cell.mk a1.fFrom a1.fTo (w64 (((mget keq85 a0 (matrix_pair.mk a1.fFrom a1.fTo)).getD (api_Cell.mk (0 : Int) (0 : Int) (0 : Int) (0 : Int))).fSamples + a1.fSamples)) (w64 (((mget keq85 a0 (matrix_pair.mk a1.fFrom a1.fTo)).getD (api_Cell.mk (0 : Int) (0 : Int) (0 : Int) (0 : Int))).fBytes + a1.fBytes))))
set_option maxHeartbeats 4000000 in
set_option maxRecDepth 100000 in
theorem matrix_put_ac (a0 : (List (matrix_pair × api_Cell))) (a1 : api_Cell) (r : (List (matrix_pair × api_Cell))) (h : matrix_put a0 a1 = some r) : AC Try.prog 37 [(.mref 0), (.d (e_api_Cell a1))] [(0, (.blk (mapB (mpairs e_matrix_pair e_api_Cell a0))))] (.tup []) [(0, some (.blk (mapB (mpairs e_matrix_pair e_api_Cell r))))] := by
  refine AC.of_code2 Try.func37 rfl rfl (Nat.le_of_ble_eq_true (by rfl)) fun B hB hN => ?_
  delta matrix_put at h
  refine sr (cg (OpJ.box hB (nm := 1003) (by decide) (by simp) rfl (ltN hN rfl) (q 1)) rfl cn) ?_
  refine gh [(0, _), (3, _)] [(0, some _), (1003, some _)] hB rfl rfl (by rfl) ?_
  refine sr (c (ov (.ptr 1003 0 [0]) (fp hN Try.underlying23 0 tyS3 _ (q 3))) rfl (c (lb hN 23 _ _ tyS3 (ad _) (q 6)) rfl (c (ov (.ptr 1003 1 [1]) (fp hN Try.underlying23 1 tyS3 _ (q 3))) rfl (c (lb hN 23 _ _ tyS3 (ad _) (q 8)) rfl (c (OpJ.coe (v := (.st [(i6 a1.fFrom), (i6 a1.fTo)])) (y := (.st [(.int .i64 a1.fFrom), (.int .i64 a1.fTo)])) (Co.st (CoL.cons (Co.d _) (CoL.cons (Co.d _) CoL.nil))) rfl (OpJ.build (places := [(0, 1), (1, 1)]) ⟨Try.underlying85, fun w => by kernel_rfl⟩ tyZS85 (Opds.cons (q 7) (Opds.cons (q 9) Opds.nil)) (by kernel_rfl) (r := (.st [(i6 a1.fFrom), (i6 a1.fTo)])) (by rfl) (ltN hN rfl))) rfl (cg (OpJ.alloc hB tyZ85 (nm := 1004) (by decide) (ltN hN rfl)) rfl (cg (OpJ.storeB tyS85 (SetAt.here _ _) (by rfl) (by rfl) (by simp) rfl (q 4) (q 10)) rfl cn))))))) ?_
  refine gh [(0, _), (3, _), (4, _)] [(0, some _), (1003, some _), (1004, some _)] hB rfl rfl (by rfl) ?_
  refine sr (c (mv hN (q 0)) rfl (c (lb hN 85 _ _ tyS85 (At.here _) (q 4)) rfl (cg (OpJ.mlook (g := e_api_Cell) (l := a0) (k := (matrix_pair.mk a1.fFrom a1.fTo)) tyU72 Try.underlying85 keyEq85 (z := (api_Cell.mk (0 : Int) (0 : Int) (0 : Int) (0 : Int))) tyZD23 (ltN hN rfl) (q 11) (q 12)) rfl (cg (OpJ.alloc hB tyZ23 (nm := 1005) (by decide) (ltN hN rfl)) rfl (cg (OpJ.storeB tyS23 (SetAt.here _ _) (by rfl) (by rfl) (by simp) rfl (q 5) (q 13)) rfl cn))))) ?_
  refine gh [(0, _), (3, _), (4, _), (5, _)] [(0, some _), (1003, some _), (1004, some _), (1005, some _)] hB rfl rfl (by rfl) ?_
  refine rg (c (mv hN (q 0)) rfl (c (lb hN 85 _ _ tyS85 (At.here _) (q 4)) rfl (c (ov (.ptr 1003 0 [0]) (fp hN Try.underlying23 0 tyS3 _ (q 3))) rfl (c (lb hN 23 _ _ tyS3 (ad _) (q 16)) rfl (c (ov (.ptr 1003 1 [1]) (fp hN Try.underlying23 1 tyS3 _ (q 3))) rfl (c (lb hN 23 _ _ tyS3 (ad _) (q 18)) rfl (c (ov (.ptr 1005 2 [2]) (fp hN Try.underlying23 2 tyS3 _ (q 5))) rfl (c (lb hN 23 _ _ tyS3 (ad _) (q 20)) rfl (c (ov (.ptr 1003 2 [2]) (fp hN Try.underlying23 2 tyS3 _ (q 3))) rfl (c (lb hN 23 _ _ tyS3 (ad _) (q 22)) rfl (c (add6 (ltN hN rfl) (q 21) (q 23)) rfl (c (ov (.ptr 1005 3 [3]) (fp hN Try.underlying23 3 tyS3 _ (q 5))) rfl (c (lb hN 23 _ _ tyS3 (ad _) (q 25)) rfl (c (ov (.ptr 1003 3 [3]) (fp hN Try.underlying23 3 tyS3 _ (q 3))) rfl (c (lb hN 23 _ _ tyS3 (ad _) (q 27)) rfl (c (add6 (ltN hN rfl) (q 26) (q 28)) rfl (c (OpJ.coe (v := (.st [(i6 a1.fFrom), (i6 a1.fTo), (i6 (w64 (((mget keq85 a0 (matrix_pair.mk a1.fFrom a1.fTo)).getD (api_Cell.mk (0 : Int) (0 : Int) (0 : Int) (0 : Int))).fSamples + a1.fSamples))), (i6 (w64 (((mget keq85 a0 (matrix_pair.mk a1.fFrom a1.fTo)).getD (api_Cell.mk (0 : Int) (0 : Int) (0 : Int) (0 : Int))).fBytes + a1.fBytes)))])) (y := (.st [(.int .i64 a1.fFrom), (.int .i64 a1.fTo), (.int .i64 (w64 (((mget keq85 a0 (matrix_pair.mk a1.fFrom a1.fTo)).getD (api_Cell.mk (0 : Int) (0 : Int) (0 : Int) (0 : Int))).fSamples + a1.fSamples))), (.int .i64 (w64 (((mget keq85 a0 (matrix_pair.mk a1.fFrom a1.fTo)).getD (api_Cell.mk (0 : Int) (0 : Int) (0 : Int) (0 : Int))).fBytes + a1.fBytes)))])) (Co.st (CoL.cons (Co.d _) (CoL.cons (Co.d _) (CoL.cons (Co.d _) (CoL.cons (Co.d _) CoL.nil))))) rfl (OpJ.build (places := [(0, 1), (1, 1), (2, 1), (3, 1)]) ⟨Try.underlying23, fun w => by kernel_rfl⟩ tyZS23 (Opds.cons (q 17) (Opds.cons (q 19) (Opds.cons (q 24) (Opds.cons (q 29) Opds.nil)))) (by kernel_rfl) (r := (.st [(i6 a1.fFrom), (i6 a1.fTo), (i6 (w64 (((mget keq85 a0 (matrix_pair.mk a1.fFrom a1.fTo)).getD (api_Cell.mk (0 : Int) (0 : Int) (0 : Int) (0 : Int))).fSamples + a1.fSamples))), (i6 (w64 (((mget keq85 a0 (matrix_pair.mk a1.fFrom a1.fTo)).getD (api_Cell.mk (0 : Int) (0 : Int) (0 : Int) (0 : Int))).fBytes + a1.fBytes)))])) (by rfl) (ltN hN rfl))) rfl (cg (OpJ.mput (g := e_api_Cell) (v := (api_Cell.mk a1.fFrom a1.fTo (w64 (((mget keq85 a0 (matrix_pair.mk a1.fFrom a1.fTo)).getD (api_Cell.mk (0 : Int) (0 : Int) (0 : Int) (0 : Int))).fSamples + a1.fSamples)) (w64 (((mget keq85 a0 (matrix_pair.mk a1.fFrom a1.fTo)).getD (api_Cell.mk (0 : Int) (0 : Int) (0 : Int) (0 : Int))).fBytes + a1.fBytes)))) (l := a0) (k := (matrix_pair.mk a1.fFrom a1.fTo)) tyU72 Try.underlying85 keyEq85 (q 14) (q 15) (q 30)) rfl cn)))))))))))))))))) ?_
  obtain rfl := Option.some.inj h
  exact ⟨.inr rfl, _, _, (Mat.trans (mp [] [] [(0, some (.blk (mapB (mpairs e_matrix_pair e_api_Cell (mput keq85 a0 (matrix_pair.mk a1.fFrom a1.fTo) (api_Cell.mk a1.fFrom a1.fTo (w64 (((mget keq85 a0 (matrix_pair.mk a1.fFrom a1.fTo)).getD (api_Cell.mk (0 : Int) (0 : Int) (0 : Int) (0 : Int))).fSamples + a1.fSamples)) (w64 (((mget keq85 a0 (matrix_pair.mk a1.fFrom a1.fTo)).getD (api_Cell.mk (0 : Int) (0 : Int) (0 : Int) (0 : Int))).fBytes + a1.fBytes))))))))] hB) (mp [] [] [(0, some (.blk (mapB (mpairs e_matrix_pair e_api_Cell (mput keq85 a0 (matrix_pair.mk a1.fFrom a1.fTo) (api_Cell.mk a1.fFrom a1.fTo (w64 (((mget keq85 a0 (matrix_pair.mk a1.fFrom a1.fTo)).getD (api_Cell.mk (0 : Int) (0 : Int) (0 : Int) (0 : Int))).fSamples + a1.fSamples)) (w64 (((mget keq85 a0 (matrix_pair.mk a1.fFrom a1.fTo)).getD (api_Cell.mk (0 : Int) (0 : Int) (0 : Int) (0 : Int))).fBytes + a1.fBytes))))))))] hB)), [], Res.nil, rfl, by rfl, by rfl, by rfl⟩

noncomputable def matrix_compare (a0 : api_Cell) (a1 : api_Cell) : Option (Int) :=
  (if (a0.fFrom != a1.fFrom) = true then
  some (w64 (a0.fFrom - a1.fFrom))
  else
  some (w64 (a0.fTo - a1.fTo)))
set_option maxHeartbeats 4000000 in
set_option maxRecDepth 100000 in
theorem matrix_compare_ac (a0 : api_Cell) (a1 : api_Cell) (r : Int) (h : matrix_compare a0 a1 = some r) : AC Try.prog 39 [(.d (e_api_Cell a0)), (.d (e_api_Cell a1))] [] (.d (.int .i64 r)) [] := by
  refine AC.of_code2 Try.func39 rfl rfl (Nat.le_of_ble_eq_true (by rfl)) fun B hB hN => ?_
  delta matrix_compare at h
  refine sr (cg (OpJ.box hB (nm := 1002) (by decide) (by simp) rfl (ltN hN rfl) (q 0)) rfl (cg (OpJ.box hB (nm := 1003) (by decide) (by simp) rfl (ltN hN rfl) (q 1)) rfl (c (OpJ.assign (ltN hN rfl) (Opd.int .i64 (0))) rfl cn))) ?_
  refine gh [(2, _), (3, _)] [(1002, some _), (1003, some _)] hB rfl rfl (by rfl) ?_
  refine AWp.seq ?_
  refine sr (c (ov (.ptr 1002 0 [0]) (fp hN Try.underlying23 0 tyS3 _ (q 2))) rfl (c (lb hN 23 _ _ tyS3 (ad _) (q 5)) rfl (c (ov (.ptr 1003 0 [0]) (fp hN Try.underlying23 0 tyS3 _ (q 3))) rfl (c (lb hN 23 _ _ tyS3 (ad _) (q 7)) rfl (c (OpJ.neqI (ltN hN rfl) (q 6) (q 8)) rfl cn))))) ?_
  refine gh [(2, _), (3, _), (9, _)] [(1002, some _), (1003, some _)] hB rfl rfl (by rfl) ?_
  refine AWp.cond rfl (fun hg1 => ?_) (fun hg1 => ?_)
  · replace h := ite_t hg1 h
    refine sr (c (ov (.ptr 1002 0 [0]) (fp hN Try.underlying23 0 tyS3 _ (q 2))) rfl (c (lb hN 23 _ _ tyS3 (ad _) (q 10)) rfl (c (ov (.ptr 1003 0 [0]) (fp hN Try.underlying23 0 tyS3 _ (q 3))) rfl (c (lb hN 23 _ _ tyS3 (ad _) (q 12)) rfl (c (sub6 (ltN hN rfl) (q 11) (q 13)) rfl (c (OpJ.assign (ltN hN rfl) (q 14)) rfl cn)))))) ?_
    refine gh [(4, _)] [] hB rfl rfl (by rfl) ?_
    refine AWp.ret ?_
    refine seqQ_r ?_
    obtain rfl := Option.some.inj h
    exact ⟨.inl rfl, _, _, (kp [(4, _)] [] hB rfl rfl (by rfl)), [(i6 (w64 (a0.fFrom - a1.fFrom)))], (Res.tmp (by rfl) (by rfl) Res.nil), rfl, by rfl, by rfl, by rfl⟩
  · replace h := ite_f hg1 h
    refine AWp.skip ?_
    refine seqQ_n ?_
    refine sr (c (ov (.ptr 1002 1 [1]) (fp hN Try.underlying23 1 tyS3 _ (q 2))) rfl (c (lb hN 23 _ _ tyS3 (ad _) (q 15)) rfl (c (ov (.ptr 1003 1 [1]) (fp hN Try.underlying23 1 tyS3 _ (q 3))) rfl (c (lb hN 23 _ _ tyS3 (ad _) (q 17)) rfl (c (sub6 (ltN hN rfl) (q 16) (q 18)) rfl (c (OpJ.assign (ltN hN rfl) (q 19)) rfl cn)))))) ?_
    refine gh [(4, _)] [] hB rfl rfl (by rfl) ?_
    refine AWp.ret ?_
    obtain rfl := Option.some.inj h
    exact ⟨.inl rfl, _, _, (kp [(4, _)] [] hB rfl rfl (by rfl)), [(i6 (w64 (a0.fTo - a1.fTo)))], (Res.tmp (by rfl) (by rfl) Res.nil), rfl, by rfl, by rfl, by rfl⟩

noncomputable def ext47_slices_SortFunc_matrix_compare (a0 : (List api_Cell)) : Option (List api_Cell) := sortF a0 fun x y => matrix_compare x y
theorem ext47_slices_SortFunc_matrix_compare_ac (a0 : (List api_Cell)) (r : List api_Cell) (h : ext47_slices_SortFunc_matrix_compare a0 = some r) : AC Try.prog 47 [(.sref 0 4 0 a0.length), .func 39 []] [(0, (.row 23 4 (a0.map e_api_Cell)))] (.tup []) [(0, some (.row 23 4 (r.map e_api_Cell)))] :=
  AC.sortF e_api_Cell (fun x y => matrix_compare x y) a0 r h sortOk47 fnOk39 (fun _ => rfl) rfl rfl (fun x y c hc => matrix_compare_ac x y c hc)

noncomputable def matrix_listed_L0 (s1 : (List api_Cell)) (q2 : matrix_pair × api_Cell) : Option ((List api_Cell)) :=
  chk (decide ((s1 ++ ([q2.2] : List api_Cell)).length ≤ LIM)) <|
  some (s1 ++ ([q2.2] : List api_Cell))
noncomputable def matrix_listed (a0 : (List (matrix_pair × api_Cell))) : Option ((List api_Cell)) :=
  mapAll a0 fun p7 => (foldS (matrix_listed_L0) ([] : List api_Cell) p7).bind fun s8 =>
  (ext47_slices_SortFunc_matrix_compare s8).bind fun r10 =>
  chk (decide (r10.length = s8.length)) <|
  some ((r10.drop 0).take s8.length)
set_option maxHeartbeats 4000000 in
set_option maxRecDepth 100000 in
theorem matrix_listed_ac (a0 : (List (matrix_pair × api_Cell))) (r : (List api_Cell)) (h : matrix_listed a0 = some r) : AC Try.prog 38 [(.mref 0)] [(0, (.blk (mapB (mpairs e_matrix_pair e_api_Cell a0))))] (.d (.list 4 (r.map e_api_Cell))) [(0, none)] := by
  refine AC.of_code2 Try.func38 rfl rfl (Nat.le_of_ble_eq_true (by rfl)) fun B hB hN => ?_
  have L {d : Nat} (h : Nat.blt d Try.f38.ntmps = true) : d < B.N := ltN hN h
  delta matrix_listed at h
  refine sr (c (OpJ.assign (L rfl) Opd.nils) rfl cn) ?_
  refine gh [(0, _)] [(0, some _)] hB rfl rfl (by rfl) ?_
  refine sr (c (OpJ.assign (L rfl) Opd.nils) rfl cn) ?_
  refine gh [(0, _), (3, _)] [(0, some _)] hB rfl rfl (by rfl) ?_
  refine AWp.seq ?_
  refine sr (c (mv hN (q 0)) rfl (cg (OpJ.mrange hB tyU72 (it := 1007) (by decide) (by decide) (L rfl) (q 6)) rfl cn)) ?_
  refine gh [(3, _), (7, _)] [(1007, some _)] hB rfl rfl (by rfl) ?_
  refine AWp.block ?_
  have hA9 := mapAll_some h
  refine AWp.ghost (Mat.trans (Mat.beginP (n := 3003) (e := 23) (sz := 4) (Ts := [(3, (.sref 3003 4 0 0))]) (Bs := []) hB (by decide) (by rfl) (by decide) (TwT.cons (x := .nils) (by rfl) (Tw.leaf ⟨rfl, rfl⟩) TwT.nil) TwB.nil) (mp [] ((fun s1 : (List api_Cell) => ([(3, (.sref 3003 4 0 s1.length)), (7, (.ptr 1007 0 []))] : EL)) ([] : List api_Cell)) ((1007, some (.blk (iterB (mpairs e_matrix_pair e_api_Cell a0) none))) :: (fun s1 : (List api_Cell) => ([(3003, some (we_api_Cell_23_4 s1))] : OL)) ([] : List api_Cell)) hB)) ?_
  refine AWp.loopM (t7 := 7) (it := 1007) (fun p : matrix_pair × api_Cell => (e_matrix_pair p.1, e_api_Cell p.2)) a0 (matrix_listed_L0) (fun s1 : (List api_Cell) => ([(3, (.sref 3003 4 0 s1.length)), (7, (.ptr 1007 0 []))] : EL)) (fun s1 : (List api_Cell) => ([(3003, some (we_api_Cell_23_4 s1))] : OL)) (s0 := ([] : List api_Cell)) (L rfl) (L rfl) (fun _ => rfl) (fun p hp => let ⟨s, hs, _⟩ := bindS (hA9 p hp); ⟨s, hs⟩) (fun s1 q2 s' l3 h => ?_) (fun p7 s8 hp hs => ?_)
  · unfold matrix_listed_L0 at h
    refine AWp.block ?_
    refine sr (cg (OpJ.mentry (q := (e_matrix_pair q2.1, e_api_Cell q2.2)) (L rfl) (q 7)) rfl (c (OpJ.extract (by rfl) rfl (L rfl) (q 10)) rfl (cg (OpJ.alloc hB tyZ23 (nm := 1005) (by decide) (L rfl)) rfl (cg (OpJ.storeB tyS23 (SetAt.here _ _) (by rfl) (by rfl) (by simp) rfl (q 5) (q 11)) rfl cn)))) ?_
    refine gh [(3, _), (5, _), (7, _)] [(1005, some _), (1007, some _), (3003, some _)] hB rfl rfl (by rfl) ?_
    obtain ⟨hc6, h⟩ := chk_some h
    refine rg (c (mv hN (q 3)) rfl (c (lb hN 23 _ _ tyS23 (At.here _) (q 5)) rfl (c (OpJ.buildSlice Try.underlying27 tyS23 tyZD23 (by rfl) (by decide) (by decide) (Opds.cons (q 13) Opds.nil) (by kernel_rfl) (es := ([(e_api_Cell q2.2)] : List D)) (by rfl) (by rfl) (by kernel_rfl) (by simp) (L rfl)) rfl (cg (OpJ.append hB Try.underlying27 tyE23 (nm := 1015) (by decide) (es := s1.map e_api_Cell) (ys := ([q2.2] : List api_Cell).map e_api_Cell) (es' := (s1 ++ ([q2.2] : List api_Cell)).map e_api_Cell) (len := (s1 ++ ([q2.2] : List api_Cell)).length) (by simp) (by simp) (map_sz (f := e_api_Cell) (fun _ => rfl)) (by rw [List.length_map]; exact lim_mulN hc6 (by decide)) (by rw [List.length_map]; exact lim_leN hc6) (L rfl) (by simp) (q 12) (q 14)) rfl (c (OpJ.assign (L rfl) (q 15)) rfl cn))))) ?_
    refine blkQ_n ?_
    obtain rfl := Option.some.inj h
    exact ⟨rfl, (Mat.trans (mp [] [(3, (.sref 1015 4 0 ((s1 ++ ([q2.2] : List api_Cell)).length))), (7, (.ptr 1007 0 []))] [(1007, some (.blk (iterB (mpairs e_matrix_pair e_api_Cell l3) (some (e_matrix_pair q2.1, e_api_Cell q2.2))))), (1015, some (we_api_Cell_23_4 (s1 ++ ([q2.2] : List api_Cell))))] hB) (mp [(3003, 1015)] _ _ hB))⟩
  · replace h := bind_fin (hA9 p7 hp) hs
    refine blkQ_hit ?_
    refine seqQ_n ?_
    refine gh [(3, _), (9, _)] [(3003, some _)] hB rfl rfl (by rfl) ?_
    refine AWp.seq ?_
    obtain ⟨r10, hr10, h⟩ := bindS h
    obtain ⟨hc11, h⟩ := chk_some h
    have hc11_o := of_decide_eq_true hc11
    refine AWp.region (oc (mv hN (ot 3 (.sref 3003 4 0 s8.length)))
      (oc (OpJ.callFn hB fnOk47 (ext47_slices_SortFunc_matrix_compare_ac s8 r10 hr10) [(0, 3003)] (by kernel_rfl) (L rfl) (by kernel_rfl) (OpdL.cons (ot 16 (.sref 3003 4 0 s8.length)) (OpdL.cons (Opd.func 39) OpdL.nil)))
      (OpJs.nil))) (by rfl) (by rfl) ?_
    refine seqQ_n ?_
    refine AWp.ghost (mp [] [(3, (.sref 3003 4 0 s8.length))] [(3003, some (we_api_Cell_23_4 r10))] hB) ?_
    refine sr (c (mv hN (q 3)) rfl (c (OpJ.assign (L rfl) (q 18)) rfl cn)) ?_
    refine gh [(2, _)] [(3003, some _)] hB rfl rfl (by rfl) ?_
    refine AWp.ret ?_
    obtain rfl := Option.some.inj h
    exact ⟨.inl rfl, _, _, (Mat.trans (Mat.freezeP (n := 3003) (e := 23) (sz := 4) (es := r10.map e_api_Cell) (Ts := [(2, (qe_api_Cell_4 ((r10.drop 0).take s8.length)))]) (Bs := []) (by rfl) (TwT.cons (x := (.sref 3003 4 0 s8.length)) (by rfl) (FrzL.cut (fs := ((r10.drop 0).take s8.length).map e_api_Cell) (by simp only [List.length_map, List.length_append, List.length_take, List.length_drop, List.length_replicate, List.length_set]; omega) (by first | rw [List.map_drop, List.map_take] | simp [List.map_take, List.map_drop])) TwT.nil) TwB.nil) (mp [] [(2, (qe_api_Cell_4 ((r10.drop 0).take s8.length)))] [] hB)), [(qe_api_Cell_4 ((r10.drop 0).take s8.length))], (Res.tmp (by rfl) (by rfl) Res.nil), rfl, by rfl, by rfl, by rfl⟩

noncomputable def matrix_Cells_L0 (a1 : (List api_Rule)) (s3 : Int × (List (Int × Int))) : Option ((((List (Int × Int)))) ⊕ (Int × (List (Int × Int)))) :=
  (if (decide ((0 : Int) ≤ s3.1)) = true then
  (idx a1 s3.1).bind fun x12 =>
  (idx a1 s3.1).bind fun x13 =>
  some (.inr ((w64 (s3.1 - (1 : Int))), (mput keq3 s3.2 x12.fPort x13.fASN)))
  else
  some (.inl s3.2))
noncomputable def matrix_Cells_L1 (a0 : (List api_Sample)) (p10 : (List (Int × Int))) (s16 : Int × Int × (List (matrix_pair × api_Cell))) : Option (((Unit) ⊕ (Int × (List (matrix_pair × api_Cell)))) ⊕ (Int × Int × (List (matrix_pair × api_Cell)))) :=
  (if (decide (s16.2.1 < (a0.length : Int))) = true then
  (idx a0 s16.2.1).bind fun x54 =>
  (if ((!(mget keq3 p10 x54.fIn).isSome) || (!(mget keq3 p10 x54.fOut).isSome)) = true then
  some (.inl (.inl ()))
  else
  jn (fun m60 : Bool =>
  jn (fun m63 : Int =>
  (matrix_put s16.2.2 (api_Cell.mk ((mget keq3 p10 x54.fIn).getD (0 : Int)) ((mget keq3 p10 x54.fOut).getD (0 : Int)) (1 : Int) x54.fBytes)).bind fun r65 =>
  some (.inr (m63, (w64 (s16.2.1 + (1 : Int))), r65))) (fun j64 =>
  (if m60 = true then
  j64 (1 : Int)
  else
  j64 s16.1))) (fun j61 =>
  (matrix_number ((mget keq3 p10 x54.fIn).getD (0 : Int))).bind fun r67 =>
  (if (!r67) = true then
  j61 true
  else
  (matrix_number ((mget keq3 p10 x54.fOut).getD (0 : Int))).bind fun r69 =>
  j61 (!r69))))
  else
  some (.inl (.inr (s16.1, s16.2.2))))
noncomputable def matrix_Cells (a0 : (List api_Sample)) (a1 : (List api_Rule)) : Option ((List api_Cell) × Int) :=
  (sample_Valid a0).bind fun r1 =>
  (if (!r1) = true then
  some (([] : List api_Cell), (1 : Int))
  else
  (loop (matrix_Cells_L0 a1) ((w64 ((a1.length : Int) - (1 : Int))), ([] : List (Int × Int)))).bind fun p10 =>
  (loop (matrix_Cells_L1 a0 p10) ((0 : Int), (0 : Int), ([] : List (matrix_pair × api_Cell)))).bind fun x70 => match x70 with
  | (.inl _) =>
    some (([] : List api_Cell), (7 : Int))
  | (.inr p52) =>
    (if (p52.1 != (0 : Int)) = true then
    some (([] : List api_Cell), p52.1)
    else
    (if (decide ((1024 : Int) < (p52.2.length : Int))) = true then
    some (([] : List api_Cell), (3 : Int))
    else
    (matrix_listed p52.2).bind fun r74 =>
    some (r74, (0 : Int)))))
set_option maxHeartbeats 4000000 in
set_option maxRecDepth 100000 in
theorem matrix_Cells_ac (a0 : (List api_Sample)) (a1 : (List api_Rule)) (r : (List api_Cell) × Int) (h : matrix_Cells a0 a1 = some r) : AC Try.prog 15 [(.d (.list 6 (a0.map e_api_Sample))), (.d (.list 8 (a1.map e_api_Rule)))] [] (.tup [(.d (.list 4 (r.1.map e_api_Cell))), (.d (.int .i64 r.2))]) [] := by
  refine AC.of_code2 Try.func15 rfl rfl (Nat.le_of_ble_eq_true (by rfl)) fun B hB hN => ?_
  have L {d : Nat} (h : Nat.blt d Try.f15.ntmps = true) : d < B.N := ltN hN h
  delta matrix_Cells at h
  refine sr (c (OpJ.assign (L rfl) Opd.nils) rfl (c (OpJ.assign (L rfl) (Opd.int .i64 (0))) rfl cn)) ?_
  refine gh [(0, _), (1, _)] [] hB rfl rfl (by rfl) ?_
  refine AWp.seq ?_
  obtain ⟨r1, hr1, h⟩ := bindS h
  refine sr (c (mv hN (q 0)) rfl (cg (OpJ.callFn hB fnOk35 (sample_Valid_ac a0 r1 hr1) [] (by kernel_rfl) (L rfl) (by kernel_rfl) (OpdL.cons (q 16) OpdL.nil)) rfl (c (OpJ.not (L rfl) (q 17)) rfl cn))) ?_
  refine gh [(0, _), (1, _), (18, _)] [] hB rfl rfl (by rfl) ?_
  refine AWp.cond rfl (fun hg2 => ?_) (fun hg2 => ?_)
  · replace h := ite_t hg2 h
    refine sr (c (OpJ.assign (L rfl) Opd.nils) rfl (c (OpJ.assign (L rfl) (Opd.int .i64 (1))) rfl cn)) ?_
    refine gh [(4, _), (5, _)] [] hB rfl rfl (by rfl) ?_
    refine AWp.ret ?_
    refine seqQ_r ?_
    obtain rfl := Option.some.inj h
    exact ⟨.inl rfl, _, _, (Mat.trans (Mat.coeP (Ts := [(4, (qe_api_Cell_4 ([] : List api_Cell)))]) (Bs := []) (TwT.cons (x := .nils) (by rfl) (Tw.leaf ⟨_, (Co.nils 4), rfl⟩) TwT.nil) TwB.nil) (mp [] [(4, (qe_api_Cell_4 ([] : List api_Cell))), (5, (i6 1))] [] hB)), [(qe_api_Cell_4 ([] : List api_Cell)), (i6 1)], (Res.tmp (by rfl) (by rfl) (Res.tmp (by rfl) (by rfl) Res.nil)), rfl, by rfl, by rfl, by rfl⟩
  · replace h := ite_f hg2 h
    refine AWp.skip ?_
    refine seqQ_n ?_
    refine sr (cg (OpJ.mkmap hB (nm := 1019) (by decide) (L rfl)) rfl (c (OpJ.assign (L rfl) (q 19)) rfl cn)) ?_
    refine gh [(0, _), (1, _), (6, _)] [(1019, some _)] hB rfl rfl (by rfl) ?_
    refine AWp.seq ?_
    refine sr (c (mv hN (q 1)) rfl (c (OpJ.val (v' := (i6 (a1.length : Int))) (by simp) (OpJ.lenD Try.underlying39 (L rfl) (q 20))) rfl (c (sub6 (L rfl) (q 21) (Opd.int .i64 (1))) rfl (c (OpJ.assign (L rfl) (q 22)) rfl cn)))) ?_
    refine gh [(0, _), (1, _), (6, _), (7, _)] [(1019, some _)] hB rfl rfl (by rfl) ?_
    refine AWp.block ?_
    obtain ⟨p10, hx15, h⟩ := bindS h
    refine lg (matrix_Cells_L0 a1) (fun s3 : Int × (List (Int × Int)) => ([(0, (qe_api_Sample_6 a0)), (1, (qe_api_Rule_8 a1)), (6, (.mref 1019)), (7, (i6 s3.1))] : EL)) (fun s3 : Int × (List (Int × Int)) => ([(1019, some (.blk (mapB (mpairs (eI .i64) (eI .i64) s3.2))))] : OL)) (fun (p10 : ((List (Int × Int)))) e E' O' => e = .exit 0 ∧ Mat B E' O' ([(0, (qe_api_Sample_6 a0)), (6, (.mref 1019))] : EL) ([(1019, some (.blk (mapB (mpairs (eI .i64) (eI .i64) p10))))] : OL)) hx15 (mp [] _ _ hB) (fun s3 y h => ?_) (fun e E' O' hR => ?_)
    · unfold matrix_Cells_L0 at h
      refine AWp.seq ?_
      refine sr (c (mv hN (q 7)) rfl (c (OpJ.geq (L rfl) (q 23) (Opd.int .i64 (0))) rfl cn)) ?_
      refine gh [(0, _), (1, _), (6, _), (7, _), (24, _)] [(1019, some _)] hB rfl rfl (by rfl) ?_
      refine AWp.cond rfl (fun hg11 => ?_) (fun hg11 => ?_)
      · replace h := ite_t hg11 h
        refine AWp.skip ?_
        refine seqQ_n ?_
        refine AWp.seq ?_
        refine AWp.block ?_
        obtain ⟨x12, hx12, h⟩ := bindS h
        obtain ⟨x13, hx13, h⟩ := bindS h
        refine dr (c (mv hN (q 6)) rfl (c (mv hN (q 1)) rfl (c (mv hN (q 7)) rfl (c (OpJ.indexD Try.underlying39 tyS70 (idx_some hx12).1 (get_map e_api_Rule (idx_some hx12).2) (L rfl) (q 28) (q 29)) rfl (c (OpJ.fieldD Try.underlying70 (by rfl) (o := 0) (by rfl) tyS3 (by decide) (by rfl) (by rfl) (L rfl) (q 30)) rfl (c (OpJ.loadD tyS3 (by rfl) (by rfl) (L rfl) (q 31)) rfl (c (mv hN (q 1)) rfl (c (mv hN (q 7)) rfl (c (OpJ.indexD Try.underlying39 tyS70 (idx_some hx13).1 (get_map e_api_Rule (idx_some hx13).2) (L rfl) (q 33) (q 34)) rfl (c (OpJ.fieldD Try.underlying70 (by rfl) (o := 1) (by rfl) tyS3 (by decide) (by rfl) (by rfl) (L rfl) (q 35)) rfl (c (OpJ.loadD tyS3 (by rfl) (by rfl) (L rfl) (q 36)) rfl (cg (OpJ.mput (g := (eI .i64)) (v := x13.fASN) (l := s3.2) (k := x12.fPort) tyU71 Try.underlying3 keyEq3 (q 27) (q 32) (q 37)) rfl cn)))))))))))) (by kernel_rfl) (by kernel_rfl) ?_
        refine blkQ_n ?_
        refine seqQ_n ?_
        refine gh [(0, _), (1, _), (6, _), (7, _)] [(1019, some _)] hB rfl rfl (by rfl) ?_
        refine rg (c (mv hN (q 7)) rfl (c (sub6 (L rfl) (q 25) (Opd.int .i64 (1))) rfl (c (OpJ.assign (L rfl) (q 26)) rfl cn))) ?_
        obtain rfl := Option.some.inj h
        exact ⟨rfl, (Mat.trans (mp [] [(0, (qe_api_Sample_6 a0)), (1, (qe_api_Rule_8 a1)), (6, (.mref 1019)), (7, (i6 (w64 (s3.1 - (1 : Int)))))] [(1019, some (.blk (mapB (mpairs (eI .i64) (eI .i64) (mput keq3 s3.2 x12.fPort x13.fASN)))))] hB) (mp [] _ _ hB))⟩
      · replace h := ite_f hg11 h
        refine AWp.exit ?_
        refine seqQ_e ?_
        obtain rfl := Option.some.inj h
        exact ⟨(fun hc => by cases hc), rfl, (mp [] _ _ hB)⟩
    · obtain ⟨rfl, hmat⟩ := hR
      refine blkQ_hit ?_
      refine seqQ_n ?_
      refine AWp.ghost hmat ?_
      refine sr (cg (OpJ.mkmap hB (nm := 1038) (by decide) (L rfl)) rfl (c (OpJ.assign (L rfl) (q 38)) rfl cn)) ?_
      refine gh [(0, _), (6, _), (8, _)] [(1019, some _), (1038, some _)] hB rfl rfl (by rfl) ?_
      refine sr (c (OpJ.assign (L rfl) (Opd.int .i64 (0))) rfl cn) ?_
      refine gh [(0, _), (6, _), (8, _), (9, _)] [(1019, some _), (1038, some _)] hB rfl rfl (by rfl) ?_
      refine AWp.seq ?_
      refine sr (c (mv hN (q 0)) rfl (c (OpJ.val (v' := (i6 (a0.length : Int))) (by simp) (OpJ.lenD Try.underlying33 (L rfl) (q 39))) rfl (c (mv hN (Opd.int .i64 (0))) rfl cn))) ?_
      refine gh [(6, _), (8, _), (9, _), (39, _), (40, _), (41, _)] [(1019, some _), (1038, some _)] hB rfl rfl (by rfl) ?_
      refine AWp.block ?_
      obtain ⟨x70, hx71, h⟩ := bindS h
      refine lg (matrix_Cells_L1 a0 p10) (fun s16 : Int × Int × (List (matrix_pair × api_Cell)) => ([(6, (.mref 1019)), (8, (.mref 1038)), (9, (i6 s16.1)), (39, (qe_api_Sample_6 a0)), (40, (i6 (a0.length : Int))), (41, (i6 s16.2.1))] : EL)) (fun s16 : Int × Int × (List (matrix_pair × api_Cell)) => ([(1019, some (.blk (mapB (mpairs (eI .i64) (eI .i64) p10)))), (1038, some (.blk (mapB (mpairs e_matrix_pair e_api_Cell s16.2.2))))] : OL)) (fun (x : (Unit) ⊕ (Int × (List (matrix_pair × api_Cell)))) e E' O' => match x with | (.inl _p) => e = .ret ∧ Mat B E' O' ([(4, .nils), (5, (i6 (7 : Int)))] : EL) ([] : OL) | (.inr p52) => e = .exit 2 ∧ Mat B E' O' ([(8, (.mref 1038)), (9, (i6 p52.1))] : EL) ([(1038, some (.blk (mapB (mpairs e_matrix_pair e_api_Cell p52.2))))] : OL)) hx71 (mp [] _ _ hB) (fun s16 y h => ?_) (fun e E' O' hR => ?_)
      · unfold matrix_Cells_L1 at h
        refine sr (c (OpJ.lss (L rfl) (q 41) (q 40)) rfl cn) ?_
        refine gh [(6, _), (8, _), (9, _), (39, _), (40, _), (41, _), (42, _)] [(1019, some _), (1038, some _)] hB rfl rfl (by rfl) ?_
        refine AWp.seq ?_
        refine AWp.cond rfl (fun hg53 => ?_) (fun hg53 => ?_)
        · replace h := ite_t hg53 h
          refine AWp.skip ?_
          refine seqQ_n ?_
          refine AWp.seq ?_
          refine AWp.block ?_
          obtain ⟨x54, hx54, h⟩ := bindS h
          refine sr (c (OpJ.indexD Try.underlying33 tyS54 (idx_some hx54).1 (get_map e_api_Sample (idx_some hx54).2) (L rfl) (q 39) (q 41)) rfl (c (OpJ.loadD tyS54 (by rfl) (by rfl) (L rfl) (q 43)) rfl (cg (OpJ.alloc hB tyZ54 (nm := 1011) (by decide) (L rfl)) rfl (cg (OpJ.storeB tyS54 (SetAt.here _ _) (by rfl) (by rfl) (by simp) rfl (q 11) (q 44)) rfl cn)))) ?_
          refine gh [(6, _), (8, _), (9, _), (11, _), (39, _), (40, _), (41, _)] [(1011, some _), (1019, some _), (1038, some _)] hB rfl rfl (by rfl) ?_
          refine sr (c (mv hN (q 6)) rfl (c (ov (.ptr 1011 3 [3]) (fp hN Try.underlying54 3 tyS3 _ (q 11))) rfl (c (lb hN 54 _ _ tyS3 (ad _) (q 47)) rfl (cg (OpJ.mlook2 (g := (eI .i64)) (l := p10) (k := x54.fIn) tyU71 Try.underlying3 keyEq3 (z := (0 : Int)) tyZD3 (L rfl) (q 46) (q 48)) rfl (c (mv hN (q 49)) rfl (c (OpJ.extract (by rfl) rfl (L rfl) (q 45)) rfl (c (OpJ.extract (by rfl) rfl (L rfl) (q 45)) rfl (c (OpJ.assign (L rfl) (q 50)) rfl (c (OpJ.assign (L rfl) (q 51)) rfl cn))))))))) ?_
          refine gh [(6, _), (8, _), (9, _), (11, _), (12, _), (13, _), (39, _), (40, _), (41, _)] [(1011, some _), (1019, some _), (1038, some _)] hB rfl rfl (by rfl) ?_
          refine sr (c (mv hN (q 6)) rfl (c (ov (.ptr 1011 4 [4]) (fp hN Try.underlying54 4 tyS3 _ (q 11))) rfl (c (lb hN 54 _ _ tyS3 (ad _) (q 54)) rfl (cg (OpJ.mlook2 (g := (eI .i64)) (l := p10) (k := x54.fOut) tyU71 Try.underlying3 keyEq3 (z := (0 : Int)) tyZD3 (L rfl) (q 53) (q 55)) rfl (c (mv hN (q 56)) rfl (c (OpJ.extract (by rfl) rfl (L rfl) (q 52)) rfl (c (OpJ.extract (by rfl) rfl (L rfl) (q 52)) rfl (c (OpJ.assign (L rfl) (q 57)) rfl (c (OpJ.assign (L rfl) (q 58)) rfl cn))))))))) ?_
          refine gh [(6, _), (8, _), (9, _), (11, _), (12, _), (13, _), (14, _), (15, _), (39, _), (40, _), (41, _)] [(1011, some _), (1019, some _), (1038, some _)] hB rfl rfl (by rfl) ?_
          refine AWp.seq ?_
          refine sr (c (mv hN (q 13)) rfl (c (OpJ.not (L rfl) (q 59)) rfl (c (mv hN (q 60)) rfl (c (oq hN 61 (mv hN (q 15)) (OptL.keep (by rfl) OptL.nil) (GuardV.plain _)) rfl (c (oq hN 61 (OpJ.not (L rfl) (q 62)) (OptL.opt OptL.nil) (GuardV.plain _)) rfl (c (OpJ.pickOr rfl (L rfl) (q 61) (q 63)) rfl cn)))))) ?_
          refine gh [(6, _), (8, _), (9, _), (11, _), (12, _), (14, _), (39, _), (40, _), (41, _), (64, _)] [(1011, some _), (1019, some _), (1038, some _)] hB rfl rfl (by rfl) ?_
          refine AWp.cond rfl (fun hg55 => ?_) (fun hg55 => ?_)
          · replace h := ite_t hg55 h
            refine sr (c (OpJ.assign (L rfl) Opd.nils) rfl (c (OpJ.assign (L rfl) (Opd.int .i64 (7))) rfl cn)) ?_
            refine gh [(4, _), (5, _)] [] hB rfl rfl (by rfl) ?_
            refine AWp.ret ?_
            refine seqQ_r ?_
            refine blkQ_r ?_
            refine seqQ_r ?_
            obtain rfl := Option.some.inj h
            exact ⟨(fun hc => by cases hc), rfl, (mp [] _ _ hB)⟩
          · replace h := ite_f hg55 h
            refine AWp.skip ?_
            refine seqQ_n ?_
            refine AWp.seq ?_
            refine AWp.seq ?_
            refine AWp.cut h (fun m60 : Bool => ([(6, (.mref 1019)), (8, (.mref 1038)), (9, (i6 s16.1)), (11, (.ptr 1011 0 [])), (12, (i6 ((mget keq3 p10 x54.fIn).getD (0 : Int)))), (14, (i6 ((mget keq3 p10 x54.fOut).getD (0 : Int)))), (39, (qe_api_Sample_6 a0)), (40, (i6 (a0.length : Int))), (41, (i6 s16.2.1)), (72, (bo m60))] : EL)) (fun m60 : Bool => ([(1011, some (.box 54 (.d (e_api_Sample x54)))), (1019, some (.blk (mapB (mpairs (eI .i64) (eI .i64) p10)))), (1038, some (.blk (mapB (mpairs e_matrix_pair e_api_Cell s16.2.2))))] : OL)) (fun m60 h E' O' hmat => ?_) (fun j61 hjj61 h => ?_)
            · refine seqQ_n ?_
              refine AWp.ghost hmat ?_
              refine AWp.cut h (fun m63 : Int => ([(6, (.mref 1019)), (8, (.mref 1038)), (9, (i6 m63)), (11, (.ptr 1011 0 [])), (12, (i6 ((mget keq3 p10 x54.fIn).getD (0 : Int)))), (14, (i6 ((mget keq3 p10 x54.fOut).getD (0 : Int)))), (39, (qe_api_Sample_6 a0)), (40, (i6 (a0.length : Int))), (41, (i6 s16.2.1))] : EL)) (fun m63 : Int => ([(1011, some (.box 54 (.d (e_api_Sample x54)))), (1019, some (.blk (mapB (mpairs (eI .i64) (eI .i64) p10)))), (1038, some (.blk (mapB (mpairs e_matrix_pair e_api_Cell s16.2.2))))] : OL)) (fun m63 h E' O' hmat => ?_) (fun j64 hjj64 h => ?_)
              · refine seqQ_n ?_
                refine AWp.ghost hmat ?_
                obtain ⟨r65, hr65, h⟩ := bindS h
                refine AWp.region (oc (mv hN (ot 8 (.mref 1038)))
                  (oc (mv hN (ot 12 (i6 ((mget keq3 p10 x54.fIn).getD (0 : Int)))))
                  (oc (mv hN (ot 14 (i6 ((mget keq3 p10 x54.fOut).getD (0 : Int)))))
                  (oc (ov (.ptr 1011 5 [5]) (fp hN Try.underlying54 5 tyS3 (.box 54 (.d (e_api_Sample x54))) (ot 11 (.ptr 1011 0 []))))
                  (oc (lb hN 54 (.d (e_api_Sample x54)) (i6 x54.fBytes) tyS3 (ad (.int .i64 x54.fBytes)) (ot 76 (.ptr 1011 5 [5])))
                  (oc (OpJ.coe (v := (.st [(i6 ((mget keq3 p10 x54.fIn).getD (0 : Int))), (i6 ((mget keq3 p10 x54.fOut).getD (0 : Int))), (i6 1), (i6 x54.fBytes)])) (y := (.st [(.int .i64 ((mget keq3 p10 x54.fIn).getD (0 : Int))), (.int .i64 ((mget keq3 p10 x54.fOut).getD (0 : Int))), (.int .i64 1), (.int .i64 x54.fBytes)])) (Co.st (CoL.cons (Co.d _) (CoL.cons (Co.d _) (CoL.cons (Co.d _) (CoL.cons (Co.d _) CoL.nil))))) rfl (OpJ.build (places := [(0, 1), (1, 1), (2, 1), (3, 1)]) ⟨Try.underlying23, fun w => by kernel_rfl⟩ tyZS23 (Opds.cons (ot 74 (i6 ((mget keq3 p10 x54.fIn).getD (0 : Int)))) (Opds.cons (ot 75 (i6 ((mget keq3 p10 x54.fOut).getD (0 : Int)))) (Opds.cons (Opd.int .i64 (1)) (Opds.cons (ot 77 (i6 x54.fBytes)) Opds.nil)))) (by kernel_rfl) (r := (.st [(i6 ((mget keq3 p10 x54.fIn).getD (0 : Int))), (i6 ((mget keq3 p10 x54.fOut).getD (0 : Int))), (i6 1), (i6 x54.fBytes)])) (by rfl) (L rfl)))
                  (oc (OpJ.callFn hB fnOk37 (matrix_put_ac s16.2.2 (api_Cell.mk ((mget keq3 p10 x54.fIn).getD (0 : Int)) ((mget keq3 p10 x54.fOut).getD (0 : Int)) (1 : Int) x54.fBytes) r65 hr65) [(0, 1038)] (by kernel_rfl) (L rfl) (by kernel_rfl) (OpdL.cons (ot 73 (.mref 1038)) (OpdL.cons (ot 78 (.d (.st [(.int .i64 ((mget keq3 p10 x54.fIn).getD (0 : Int))), (.int .i64 ((mget keq3 p10 x54.fOut).getD (0 : Int))), (.int .i64 1), (.int .i64 x54.fBytes)]))) OpdL.nil)))
                  (OpJs.nil)))))))) (by rfl) (by rfl) ?_
                refine blkQ_n ?_
                refine seqQ_n ?_
                refine AWp.ghost (mp [] [(6, (.mref 1019)), (8, (.mref 1038)), (9, (i6 m63)), (39, (qe_api_Sample_6 a0)), (40, (i6 (a0.length : Int))), (41, (i6 s16.2.1))] [(1019, some (.blk (mapB (mpairs (eI .i64) (eI .i64) p10)))), (1038, some (.blk (mapB (mpairs e_matrix_pair e_api_Cell r65))))] hB) ?_
                refine rg (c (add6 (L rfl) (q 41) (Opd.int .i64 (1))) rfl (c (mv hN (q 80)) rfl cn)) ?_
                obtain rfl := Option.some.inj h
                exact ⟨rfl, (Mat.trans (mp [] [(6, (.mref 1019)), (8, (.mref 1038)), (9, (i6 m63)), (39, (qe_api_Sample_6 a0)), (40, (i6 (a0.length : Int))), (41, (i6 (w64 (s16.2.1 + (1 : Int)))))] [(1019, some (.blk (mapB (mpairs (eI .i64) (eI .i64) p10)))), (1038, some (.blk (mapB (mpairs e_matrix_pair e_api_Cell r65))))] hB) (mp [] _ _ hB))⟩
              · refine AWp.cond rfl (fun hg66 => ?_) (fun hg66 => ?_)
                · replace h := ite_t hg66 h
                  refine rg (c (OpJ.assign (L rfl) (Opd.int .i64 (1))) rfl cn) ?_
                  exact hjj64 _ h _ _ (Mat.trans (mp [] [(6, (.mref 1019)), (8, (.mref 1038)), (9, (i6 1)), (11, (.ptr 1011 0 [])), (12, (i6 ((mget keq3 p10 x54.fIn).getD (0 : Int)))), (14, (i6 ((mget keq3 p10 x54.fOut).getD (0 : Int)))), (39, (qe_api_Sample_6 a0)), (40, (i6 (a0.length : Int))), (41, (i6 s16.2.1))] [(1011, some (.box 54 (.d (e_api_Sample x54)))), (1019, some (.blk (mapB (mpairs (eI .i64) (eI .i64) p10)))), (1038, some (.blk (mapB (mpairs e_matrix_pair e_api_Cell s16.2.2))))] hB) (mp [] _ _ hB))
                · replace h := ite_f hg66 h
                  refine AWp.skip ?_
                  exact hjj64 _ h _ _ (mp [] _ _ hB)
            · obtain ⟨r67, hr67, h⟩ := bindS h
              rcases Bool.eq_false_or_eq_true (!r67) with hg68 | hg68
              · replace h := ite_t hg68 h
                refine rg (c (mv hN (q 12)) rfl (cg (OpJ.callFn hB fnOk36 (matrix_number_ac ((mget keq3 p10 x54.fIn).getD (0 : Int)) r67 hr67) [] (by kernel_rfl) (L rfl) (by kernel_rfl) (OpdL.cons (q 65) OpdL.nil)) rfl (c (OpJ.not (L rfl) (q 66)) rfl (c (OpJ.val (v' := .d (.bool true)) (by rw [hg68]) (mv hN (q 67))) rfl (cg (OpJ.skipU (g := 68) (L rfl) (by rfl)) rfl (cg (OpJ.skipU (g := 68) (L rfl) (by rfl)) rfl (cg (OpJ.skipU (g := 68) (L rfl) (by rfl)) rfl (c (OpJ.pickT (L rfl) (q 68) (Opd.bool true)) rfl cn)))))))) ?_
                exact hjj61 _ h _ _ (Mat.trans (mp [] [(6, (.mref 1019)), (8, (.mref 1038)), (9, (i6 s16.1)), (11, (.ptr 1011 0 [])), (12, (i6 ((mget keq3 p10 x54.fIn).getD (0 : Int)))), (14, (i6 ((mget keq3 p10 x54.fOut).getD (0 : Int)))), (39, (qe_api_Sample_6 a0)), (40, (i6 (a0.length : Int))), (41, (i6 s16.2.1)), (72, (bo true))] [(1011, some (.box 54 (.d (e_api_Sample x54)))), (1019, some (.blk (mapB (mpairs (eI .i64) (eI .i64) p10)))), (1038, some (.blk (mapB (mpairs e_matrix_pair e_api_Cell s16.2.2))))] hB) (mp [] _ _ hB))
              · replace h := ite_f hg68 h
                obtain ⟨r69, hr69, h⟩ := bindS h
                refine rg (c (mv hN (q 12)) rfl (cg (OpJ.callFn hB fnOk36 (matrix_number_ac ((mget keq3 p10 x54.fIn).getD (0 : Int)) r67 hr67) [] (by kernel_rfl) (L rfl) (by kernel_rfl) (OpdL.cons (q 65) OpdL.nil)) rfl (c (OpJ.not (L rfl) (q 66)) rfl (c (OpJ.val (v' := .d (.bool false)) (by rw [hg68]) (mv hN (q 67))) rfl (c (OpJ.guarded (g := 68) (by rfl) (mv hN (q 14))) rfl (cg (OpJ.guarded (g := 68) (by rfl) (OpJ.callFn hB fnOk36 (matrix_number_ac ((mget keq3 p10 x54.fOut).getD (0 : Int)) r69 hr69) [] (by kernel_rfl) (L rfl) (by kernel_rfl) (OpdL.cons (q 69) OpdL.nil))) rfl (c (OpJ.guarded (g := 68) (by rfl) (OpJ.not (L rfl) (q 70))) rfl (c (OpJ.pickF (L rfl) (q 68) (q 71)) rfl cn)))))))) ?_
                exact hjj61 _ h _ _ (Mat.trans (mp [] [(6, (.mref 1019)), (8, (.mref 1038)), (9, (i6 s16.1)), (11, (.ptr 1011 0 [])), (12, (i6 ((mget keq3 p10 x54.fIn).getD (0 : Int)))), (14, (i6 ((mget keq3 p10 x54.fOut).getD (0 : Int)))), (39, (qe_api_Sample_6 a0)), (40, (i6 (a0.length : Int))), (41, (i6 s16.2.1)), (72, (bo (!r69)))] [(1011, some (.box 54 (.d (e_api_Sample x54)))), (1019, some (.blk (mapB (mpairs (eI .i64) (eI .i64) p10)))), (1038, some (.blk (mapB (mpairs e_matrix_pair e_api_Cell s16.2.2))))] hB) (mp [] _ _ hB))
        · replace h := ite_f hg53 h
          refine AWp.exit ?_
          refine seqQ_e ?_
          obtain rfl := Option.some.inj h
          exact ⟨(fun hc => by cases hc), rfl, (mp [] _ _ hB)⟩
      · rcases x70 with _ | p52
        · obtain ⟨rfl, hmat⟩ := hR
          refine blkQ_r ?_
          refine seqQ_r ?_
          obtain rfl := Option.some.inj h
          exact ⟨.inl rfl, _, _, (Mat.trans hmat (Mat.trans (Mat.coeP (Ts := [(4, (qe_api_Cell_4 ([] : List api_Cell)))]) (Bs := []) (TwT.cons (x := .nils) (by rfl) (Tw.leaf ⟨_, (Co.nils 4), rfl⟩) TwT.nil) TwB.nil) (mp [] [(4, (qe_api_Cell_4 ([] : List api_Cell))), (5, (i6 (7 : Int)))] [] hB))), [(qe_api_Cell_4 ([] : List api_Cell)), (i6 (7 : Int))], (Res.tmp (by rfl) (by rfl) (Res.tmp (by rfl) (by rfl) Res.nil)), rfl, by rfl, by rfl, by rfl⟩
        · obtain ⟨rfl, hmat⟩ := hR
          refine blkQ_hit ?_
          refine seqQ_n ?_
          refine AWp.ghost hmat ?_
          refine AWp.seq ?_
          refine sr (c (mv hN (q 9)) rfl (c (OpJ.neqI (L rfl) (q 81) (Opd.int .i64 (0))) rfl cn)) ?_
          refine gh [(8, _), (9, _), (82, _)] [(1038, some _)] hB rfl rfl (by rfl) ?_
          refine AWp.cond rfl (fun hg72 => ?_) (fun hg72 => ?_)
          · replace h := ite_t hg72 h
            refine sr (c (mv hN (q 9)) rfl (c (OpJ.assign (L rfl) Opd.nils) rfl (c (OpJ.assign (L rfl) (q 83)) rfl cn))) ?_
            refine gh [(4, _), (5, _)] [] hB rfl rfl (by rfl) ?_
            refine AWp.ret ?_
            refine seqQ_r ?_
            obtain rfl := Option.some.inj h
            exact ⟨.inl rfl, _, _, (Mat.trans (Mat.coeP (Ts := [(4, (qe_api_Cell_4 ([] : List api_Cell)))]) (Bs := []) (TwT.cons (x := .nils) (by rfl) (Tw.leaf ⟨_, (Co.nils 4), rfl⟩) TwT.nil) TwB.nil) (mp [] [(4, (qe_api_Cell_4 ([] : List api_Cell))), (5, (i6 p52.1))] [] hB)), [(qe_api_Cell_4 ([] : List api_Cell)), (i6 p52.1)], (Res.tmp (by rfl) (by rfl) (Res.tmp (by rfl) (by rfl) Res.nil)), rfl, by rfl, by rfl, by rfl⟩
          · replace h := ite_f hg72 h
            refine AWp.skip ?_
            refine seqQ_n ?_
            refine AWp.seq ?_
            refine sr (c (mv hN (q 8)) rfl (cg (OpJ.val (v' := (i6 (p52.2.length : Int))) (by simp [mpairs]) (OpJ.mlen (ps := mpairs e_matrix_pair e_api_Cell p52.2) tyU72 (L rfl) (q 84))) rfl (c (OpJ.gtr (L rfl) (q 85) (Opd.int .i64 (1024))) rfl cn))) ?_
            refine gh [(8, _), (86, _)] [(1038, some _)] hB rfl rfl (by rfl) ?_
            refine AWp.cond rfl (fun hg73 => ?_) (fun hg73 => ?_)
            · replace h := ite_t hg73 h
              refine sr (c (OpJ.assign (L rfl) Opd.nils) rfl (c (OpJ.assign (L rfl) (Opd.int .i64 (3))) rfl cn)) ?_
              refine gh [(4, _), (5, _)] [] hB rfl rfl (by rfl) ?_
              refine AWp.ret ?_
              refine seqQ_r ?_
              obtain rfl := Option.some.inj h
              exact ⟨.inl rfl, _, _, (Mat.trans (Mat.coeP (Ts := [(4, (qe_api_Cell_4 ([] : List api_Cell)))]) (Bs := []) (TwT.cons (x := .nils) (by rfl) (Tw.leaf ⟨_, (Co.nils 4), rfl⟩) TwT.nil) TwB.nil) (mp [] [(4, (qe_api_Cell_4 ([] : List api_Cell))), (5, (i6 (3 : Int)))] [] hB)), [(qe_api_Cell_4 ([] : List api_Cell)), (i6 (3 : Int))], (Res.tmp (by rfl) (by rfl) (Res.tmp (by rfl) (by rfl) Res.nil)), rfl, by rfl, by rfl, by rfl⟩
            · replace h := ite_f hg73 h
              refine AWp.skip ?_
              refine seqQ_n ?_
              refine AWp.seq ?_
              obtain ⟨r74, hr74, h⟩ := bindS h
              refine AWp.region (oc (mv hN (ot 8 (.mref 1038)))
                (oc (OpJ.callFn hB fnOk38 (matrix_listed_ac p52.2 r74 hr74) [(0, 1038)] (by kernel_rfl) (L rfl) (by kernel_rfl) (OpdL.cons (ot 87 (.mref 1038)) OpdL.nil))
                (oc (OpJ.assign (L rfl) (ot 88 (qe_api_Cell_4 r74)))
                (oc (OpJ.assign (L rfl) (Opd.int .i64 (0)))
                (OpJs.nil))))) (by rfl) (by rfl) ?_
              refine seqQ_n ?_
              refine AWp.ghost (mp [] [(4, (qe_api_Cell_4 r74)), (5, (i6 0))] [] hB) ?_
              refine AWp.ret ?_
              obtain rfl := Option.some.inj h
              exact ⟨.inl rfl, _, _, (kp [(4, _), (5, _)] [] hB rfl rfl (by rfl)), [(qe_api_Cell_4 r74), (i6 0)], (Res.tmp (by rfl) (by rfl) (Res.tmp (by rfl) (by rfl) Res.nil)), rfl, by rfl, by rfl, by rfl⟩

noncomputable def exchangepointlaw38_awake : Option (Bool) :=
  (exchangepointlaw38_rules (0 : Int)).bind fun r1 =>
  (matrix_Cells ([(api_Sample.mk (0 : Int) (1 : Int) (1 : Int) (1 : Int) (2 : Int) (100 : Int)), (api_Sample.mk (0 : Int) (2 : Int) (9 : Int) (1 : Int) (2 : Int) (300 : Int))] : List api_Sample) r1).bind fun r2 =>
  (if ((r2.2 != (0 : Int)) || ((r2.1.length : Int) != (1 : Int))) = true then
  some false
  else
  (idx r2.1 (0 : Int)).bind fun x4 =>
  (matrix_Estimate x4 (2 : Int) (1000 : Int)).bind fun r5 =>
  (idx r2.1 (0 : Int)).bind fun x6 =>
  some ((((x6.fFrom == (101 : Int)) && ((x6.fTo == (102 : Int)) && ((x6.fSamples == (2 : Int)) && ((x6.fBytes == (400 : Int)) && true)))) && (r5.2 == (0 : Int))) && (r5.1 == (200000 : Int))))
set_option maxHeartbeats 4000000 in
set_option maxRecDepth 100000 in
theorem exchangepointlaw38_awake_ac (r : Bool) (h : exchangepointlaw38_awake = some r) : AC Try.prog 10 [] [] (.d (.bool r)) [] := by
  refine AC.of_code2 Try.func10 rfl rfl (Nat.le_of_ble_eq_true (by rfl)) fun B hB hN => ?_
  have L {d : Nat} (h : Nat.blt d Try.f10.ntmps = true) : d < B.N := ltN hN h
  delta exchangepointlaw38_awake at h
  refine sr (c (OpJ.assign (L rfl) (Opd.bool false)) rfl cn) ?_
  refine gh [] [] hB rfl rfl (by rfl) ?_
  obtain ⟨r1, hr1, h⟩ := bindS h
  obtain ⟨r2, hr2, h⟩ := bindS h
  refine sr (c (OpJ.coe (v := (.st [(i6 0), (i6 1), (i6 1), (i6 1), (i6 (2 : Int)), (i6 (100 : Int))])) (y := (.st [(.int .i64 0), (.int .i64 1), (.int .i64 1), (.int .i64 1), (.int .i64 (2 : Int)), (.int .i64 (100 : Int))])) (Co.st (CoL.cons (Co.d _) (CoL.cons (Co.d _) (CoL.cons (Co.d _) (CoL.cons (Co.d _) (CoL.cons (Co.d _) (CoL.cons (Co.d _) CoL.nil))))))) rfl (OpJ.build (places := [(0, 1), (1, 1), (2, 1), (3, 1), (4, 1), (5, 1)]) ⟨Try.underlying54, fun w => by kernel_rfl⟩ tyZS54 (Opds.cons (Opd.int .i64 (1)) (Opds.cons (Opd.int .i64 (1)) (Opds.cons (Opd.int .i64 (1)) (Opds.cons (Opd.int .i64 (2)) (Opds.cons (Opd.int .i64 (100)) Opds.nil))))) (by kernel_rfl) (r := (.st [(i6 0), (i6 1), (i6 1), (i6 1), (i6 (2 : Int)), (i6 (100 : Int))])) (by rfl) (L rfl))) rfl (c (OpJ.coe (v := (.st [(i6 0), (i6 (2 : Int)), (i6 (9 : Int)), (i6 1), (i6 (2 : Int)), (i6 (300 : Int))])) (y := (.st [(.int .i64 0), (.int .i64 (2 : Int)), (.int .i64 (9 : Int)), (.int .i64 1), (.int .i64 (2 : Int)), (.int .i64 (300 : Int))])) (Co.st (CoL.cons (Co.d _) (CoL.cons (Co.d _) (CoL.cons (Co.d _) (CoL.cons (Co.d _) (CoL.cons (Co.d _) (CoL.cons (Co.d _) CoL.nil))))))) rfl (OpJ.build (places := [(0, 1), (1, 1), (2, 1), (3, 1), (4, 1), (5, 1)]) ⟨Try.underlying54, fun w => by kernel_rfl⟩ tyZS54 (Opds.cons (Opd.int .i64 (2)) (Opds.cons (Opd.int .i64 (9)) (Opds.cons (Opd.int .i64 (1)) (Opds.cons (Opd.int .i64 (2)) (Opds.cons (Opd.int .i64 (300)) Opds.nil))))) (by kernel_rfl) (r := (.st [(i6 0), (i6 (2 : Int)), (i6 (9 : Int)), (i6 1), (i6 (2 : Int)), (i6 (300 : Int))])) (by rfl) (L rfl))) rfl (c (OpJ.buildSlice Try.underlying33 tyS54 tyZD54 (by rfl) (by decide) (by decide) (Opds.cons (q 6) (Opds.cons (q 7) Opds.nil)) (by kernel_rfl) (es := ([(.st [(.int .i64 0), (.int .i64 1), (.int .i64 1), (.int .i64 1), (.int .i64 (2 : Int)), (.int .i64 (100 : Int))]), (.st [(.int .i64 0), (.int .i64 (2 : Int)), (.int .i64 (9 : Int)), (.int .i64 1), (.int .i64 (2 : Int)), (.int .i64 (300 : Int))])] : List D)) (by rfl) (by rfl) (by kernel_rfl) (by simp) (L rfl)) rfl (cg (OpJ.callFn hB fnOk14 (exchangepointlaw38_rules_ac (0 : Int) r1 hr1) [] (by kernel_rfl) (L rfl) (by kernel_rfl) (OpdL.cons (Opd.int .i64 (0)) OpdL.nil)) rfl (cg (OpJ.callFn hB fnOk15 (matrix_Cells_ac ([(api_Sample.mk (0 : Int) (1 : Int) (1 : Int) (1 : Int) (2 : Int) (100 : Int)), (api_Sample.mk (0 : Int) (2 : Int) (9 : Int) (1 : Int) (2 : Int) (300 : Int))] : List api_Sample) r1 r2 hr2) [] (by kernel_rfl) (L rfl) (by kernel_rfl) (OpdL.cons (q 8) (OpdL.cons (q 9) OpdL.nil))) rfl (c (mv hN (q 10)) rfl (c (OpJ.extract (by rfl) rfl (L rfl) (q 5)) rfl (c (OpJ.extract (by rfl) rfl (L rfl) (q 5)) rfl (c (OpJ.assign (L rfl) (q 11)) rfl (c (OpJ.assign (L rfl) (q 12)) rfl cn)))))))))) ?_
  refine gh [(1, _), (2, _)] [] hB rfl rfl (by rfl) ?_
  refine AWp.seq ?_
  refine sr (c (mv hN (q 2)) rfl (c (OpJ.neqI (L rfl) (q 13) (Opd.int .i64 (0))) rfl (c (mv hN (q 14)) rfl (c (oq hN 15 (mv hN (q 1)) (OptL.keep (by rfl) OptL.nil) (GuardV.plain _)) rfl (c (oq hN 15 (OpJ.val (v' := (i6 (r2.1.length : Int))) (by simp) (OpJ.lenD Try.underlying27 (L rfl) (q 16))) (OptL.opt OptL.nil) (GuardV.plain _)) rfl (c (oq hN 15 (OpJ.neqI (L rfl) (q 17) (Opd.int .i64 (1))) (OptL.opt OptL.nil) (GuardV.plain _)) rfl (c (OpJ.pickOr rfl (L rfl) (q 15) (q 18)) rfl cn))))))) ?_
  refine gh [(1, _), (19, _)] [] hB rfl rfl (by rfl) ?_
  refine AWp.cond rfl (fun hg3 => ?_) (fun hg3 => ?_)
  · replace h := ite_t hg3 h
    refine sr (c (OpJ.assign (L rfl) (Opd.bool false)) rfl cn) ?_
    refine gh [(0, _)] [] hB rfl rfl (by rfl) ?_
    refine AWp.ret ?_
    refine seqQ_r ?_
    obtain rfl := Option.some.inj h
    exact ⟨.inl rfl, _, _, (kp [(0, _)] [] hB rfl rfl (by rfl)), [(bo false)], (Res.tmp (by rfl) (by rfl) Res.nil), rfl, by rfl, by rfl, by rfl⟩
  · replace h := ite_f hg3 h
    refine AWp.skip ?_
    refine seqQ_n ?_
    obtain ⟨x4, hx4, h⟩ := bindS h
    obtain ⟨r5, hr5, h⟩ := bindS h
    refine sr (c (mv hN (q 1)) rfl (c (OpJ.indexD Try.underlying27 tyS23 (idx_some hx4).1 (get_map e_api_Cell (idx_some hx4).2) (L rfl) (q 21) (Opd.int .i64 (0))) rfl (c (OpJ.loadD tyS23 (by rfl) (by rfl) (L rfl) (q 22)) rfl (cg (OpJ.callFn hB fnOk8 (matrix_Estimate_ac x4 (2 : Int) (1000 : Int) r5 hr5) [] (by kernel_rfl) (L rfl) (by kernel_rfl) (OpdL.cons (q 23) (OpdL.cons (Opd.int .i64 (2)) (OpdL.cons (Opd.int .i64 (1000)) OpdL.nil)))) rfl (c (mv hN (q 24)) rfl (c (OpJ.extract (by rfl) rfl (L rfl) (q 20)) rfl (c (OpJ.extract (by rfl) rfl (L rfl) (q 20)) rfl (c (OpJ.assign (L rfl) (q 25)) rfl (c (OpJ.assign (L rfl) (q 26)) rfl cn))))))))) ?_
    refine gh [(1, _), (3, _), (4, _)] [] hB rfl rfl (by rfl) ?_
    obtain ⟨x6, hx6, h⟩ := bindS h
    refine sr (c (mv hN (q 1)) rfl (c (OpJ.indexD Try.underlying27 tyS23 (idx_some hx6).1 (get_map e_api_Cell (idx_some hx6).2) (L rfl) (q 27) (Opd.int .i64 (0))) rfl (c (OpJ.loadD tyS23 (by rfl) (by rfl) (L rfl) (q 28)) rfl (c (OpJ.coe (v := (.st [(i6 (101 : Int)), (i6 (102 : Int)), (i6 (2 : Int)), (i6 (400 : Int))])) (y := (.st [(.int .i64 (101 : Int)), (.int .i64 (102 : Int)), (.int .i64 (2 : Int)), (.int .i64 (400 : Int))])) (Co.st (CoL.cons (Co.d _) (CoL.cons (Co.d _) (CoL.cons (Co.d _) (CoL.cons (Co.d _) CoL.nil))))) rfl (OpJ.build (places := [(0, 1), (1, 1), (2, 1), (3, 1)]) ⟨Try.underlying23, fun w => by kernel_rfl⟩ tyZS23 (Opds.cons (Opd.int .i64 (101)) (Opds.cons (Opd.int .i64 (102)) (Opds.cons (Opd.int .i64 (2)) (Opds.cons (Opd.int .i64 (400)) Opds.nil)))) (by kernel_rfl) (r := (.st [(i6 (101 : Int)), (i6 (102 : Int)), (i6 (2 : Int)), (i6 (400 : Int))])) (by rfl) (L rfl))) rfl (c (OpJ.eqlD (h := 2) (FitE.st Try.underlying23 rfl held23 (FitF.cons (x := (.int .i64 x6.fFrom)) (y := (.int .i64 (101 : Int))) (by decide) rfl tyS3 ⟨rfl, rfl⟩ ⟨rfl, rfl⟩ (FitE.int (h := 0) x6.fFrom (101 : Int) Try.underlying3) (FitF.cons (x := (.int .i64 x6.fTo)) (y := (.int .i64 (102 : Int))) (by decide) rfl tyS3 ⟨rfl, rfl⟩ ⟨rfl, rfl⟩ (FitE.int (h := 0) x6.fTo (102 : Int) Try.underlying3) (FitF.cons (x := (.int .i64 x6.fSamples)) (y := (.int .i64 (2 : Int))) (by decide) rfl tyS3 ⟨rfl, rfl⟩ ⟨rfl, rfl⟩ (FitE.int (h := 0) x6.fSamples (2 : Int) Try.underlying3) (FitF.cons (x := (.int .i64 x6.fBytes)) (y := (.int .i64 (400 : Int))) (by decide) rfl tyS3 ⟨rfl, rfl⟩ ⟨rfl, rfl⟩ (FitE.int (h := 0) x6.fBytes (400 : Int) Try.underlying3) FitF.nil))))) eqg23 ⟨rfl, rfl⟩ (by rfl) (L rfl) (q 29) (q 30)) rfl (c (mv hN (q 31)) rfl (c (oq hN 32 (mv hN (q 4)) (OptL.keep (by rfl) OptL.nil) (GuardV.plain _)) rfl (c (oq hN 32 (OpJ.eqlI (L rfl) (q 33) (Opd.int .i64 (0))) (OptL.opt OptL.nil) (GuardV.plain _)) rfl (c (OpJ.pickAnd rfl (L rfl) (q 32) (q 34)) rfl (c (mv hN (q 35)) rfl (c (oq hN 36 (mv hN (q 3)) (OptL.keep (by rfl) OptL.nil) (GuardV.plain _)) rfl (c (oq hN 36 (OpJ.eqlI (L rfl) (q 37) (Opd.int .i64 (200000))) (OptL.opt OptL.nil) (GuardV.plain _)) rfl (c (OpJ.pickAnd rfl (L rfl) (q 36) (q 38)) rfl (c (OpJ.assign (L rfl) (q 39)) rfl cn)))))))))))))) ?_
    refine gh [(0, _)] [] hB rfl rfl (by rfl) ?_
    refine AWp.ret ?_
    obtain rfl := Option.some.inj h
    exact ⟨.inl rfl, _, _, (kp [(0, _)] [] hB rfl rfl (by rfl)), [(bo ((((x6.fFrom == (101 : Int)) && ((x6.fTo == (102 : Int)) && ((x6.fSamples == (2 : Int)) && ((x6.fBytes == (400 : Int)) && true)))) && (r5.2 == (0 : Int))) && (r5.1 == (200000 : Int))))], (Res.tmp (by rfl) (by rfl) Res.nil), rfl, by rfl, by rfl, by rfl⟩

noncomputable def exchangepointlaw38_MatrixEstimates_L1 (a0 : api_Cell) (r1 : Int) (r2 : Int) (x81 : (List Int)) (s82 : Int) : Option (((Unit) ⊕ (Unit)) ⊕ (Int)) :=
  (if (decide (s82 < (([a0, (api_Cell.mk (0 : Int) (0 : Int) r1 r2)] : List api_Cell).length : Int))) = true then
  (idx ([a0, (api_Cell.mk (0 : Int) (0 : Int) r1 r2)] : List api_Cell) s82).bind fun x104 =>
  (idx x81 (0 : Int)).bind fun x105 =>
  (idx x81 (1 : Int)).bind fun x106 =>
  (matrix_Estimate x104 x105 x106).bind fun r107 =>
  (idx x81 (0 : Int)).bind fun x108 =>
  (idx x81 (1 : Int)).bind fun x109 =>
  (exchangepointref38_Estimate x104 x108 x109).bind fun r110 =>
  (if ((r107.1 != r110.1) || (r107.2 != r110.2)) = true then
  some (.inl (.inl ()))
  else
  some (.inr (w64 (s82 + (1 : Int)))))
  else
  some (.inl (.inr ())))
noncomputable def exchangepointlaw38_MatrixEstimates_L0 (a0 : api_Cell) (a1 : Int) (a2 : Int) (r1 : Int) (r2 : Int) (r3 : Int) (r4 : Int) (r5 : Int) (r6 : Int) (s7 : Int) : Option (((Unit) ⊕ (Unit)) ⊕ (Int)) :=
  (if (decide (s7 < (([([a1, a2] : List Int), ([(w64 ((1 : Int) + r3)), r4] : List Int), ([r5, r6] : List Int)] : List (List Int)).length : Int))) = true then
  (idx ([([a1, a2] : List Int), ([(w64 ((1 : Int) + r3)), r4] : List Int), ([r5, r6] : List Int)] : List (List Int)) s7).bind fun x81 =>
  (loop (exchangepointlaw38_MatrixEstimates_L1 a0 r1 r2 x81) (0 : Int)).bind fun x112 => match x112 with
  | (.inl _) =>
    some (.inl (.inl ()))
  | (.inr _) =>
    some (.inr (w64 (s7 + (1 : Int))))
  else
  some (.inl (.inr ())))
noncomputable def exchangepointlaw38_MatrixEstimates (a0 : api_Cell) (a1 : Int) (a2 : Int) : Option (Bool) :=
  (exchangepointmill_Mod a0.fSamples (30 : Int)).bind fun r1 =>
  (exchangepointmill_Mod a0.fBytes (2147483648 : Int)).bind fun r2 =>
  (exchangepointmill_Mod a1 (40 : Int)).bind fun r3 =>
  (exchangepointmill_Mod a2 (2199023255552 : Int)).bind fun r4 =>
  (exchangepointmill_Mod a1 (2097152 : Int)).bind fun r5 =>
  (exchangepointmill_Mod a2 (3000 : Int)).bind fun r6 =>
  (loop (exchangepointlaw38_MatrixEstimates_L0 a0 a1 a2 r1 r2 r3 r4 r5 r6) (0 : Int)).bind fun x114 => match x114 with
  | (.inl _) =>
    some false
  | (.inr _) =>
    (exchangepointlaw38_awake).bind fun r116 =>
    some r116
set_option maxHeartbeats 4000000 in
set_option maxRecDepth 100000 in
theorem exchangepointlaw38_MatrixEstimates_ac (a0 : api_Cell) (a1 : Int) (a2 : Int) (r : Bool) (h : exchangepointlaw38_MatrixEstimates a0 a1 a2 = some r) : AC Try.prog 3 [(.d (e_api_Cell a0)), (.d (.int .i64 a1)), (.d (.int .i64 a2))] [] (.d (.bool r)) [] := by
  refine AC.of_code2 Try.func3 rfl rfl (Nat.le_of_ble_eq_true (by rfl)) fun B hB hN => ?_
  have L {d : Nat} (h : Nat.blt d Try.f3.ntmps = true) : d < B.N := ltN hN h
  delta exchangepointlaw38_MatrixEstimates at h
  refine sr (cg (OpJ.box hB (nm := 1003) (by decide) (by simp) rfl (L rfl) (q 0)) rfl (c (OpJ.assign (L rfl) (Opd.bool false)) rfl cn)) ?_
  refine gh [(1, _), (2, _), (3, _)] [(1003, some _)] hB rfl rfl (by rfl) ?_
  obtain ⟨r1, hr1, h⟩ := bindS h
  obtain ⟨r2, hr2, h⟩ := bindS h
  refine sd (c (ov (.ptr 1003 2 [2]) (fp hN Try.underlying23 2 tyS3 _ (q 3))) rfl (c (lb hN 23 _ _ tyS3 (ad _) (q 16)) rfl (cg (OpJ.callFn hB fnOk7 (exchangepointmill_Mod_ac a0.fSamples (30 : Int) r1 hr1) [] (by kernel_rfl) (L rfl) (by kernel_rfl) (OpdL.cons (q 17) (OpdL.cons (Opd.int .i64 (30)) OpdL.nil))) rfl (c (ov (.ptr 1003 3 [3]) (fp hN Try.underlying23 3 tyS3 _ (q 3))) rfl (c (lb hN 23 _ _ tyS3 (ad _) (q 19)) rfl (cg (OpJ.callFn hB fnOk7 (exchangepointmill_Mod_ac a0.fBytes (2147483648 : Int) r2 hr2) [] (by kernel_rfl) (L rfl) (by kernel_rfl) (OpdL.cons (q 20) (OpdL.cons (Opd.int .i64 (2147483648)) OpdL.nil))) rfl (c (OpJ.coe (v := (.st [(i6 0), (i6 0), (i6 r1), (i6 r2)])) (y := (.st [(.int .i64 0), (.int .i64 0), (.int .i64 r1), (.int .i64 r2)])) (Co.st (CoL.cons (Co.d _) (CoL.cons (Co.d _) (CoL.cons (Co.d _) (CoL.cons (Co.d _) CoL.nil))))) rfl (OpJ.build (places := [(0, 1), (1, 1), (2, 1), (3, 1)]) ⟨Try.underlying23, fun w => by kernel_rfl⟩ tyZS23 (Opds.cons (q 18) (Opds.cons (q 21) Opds.nil)) (by kernel_rfl) (r := (.st [(i6 0), (i6 0), (i6 r1), (i6 r2)])) (by rfl) (L rfl))) rfl (cg (OpJ.alloc hB tyZ23 (nm := 1007) (by decide) (L rfl)) rfl (cg (OpJ.storeB tyS23 (SetAt.here _ _) (by rfl) (by rfl) (by simp) rfl (q 7) (q 22)) rfl cn))))))))) (by kernel_rfl) (by kernel_rfl) ?_
  refine gh [(1, _), (2, _), (3, _), (7, _)] [(1003, some _), (1007, some _)] hB rfl rfl (by rfl) ?_
  refine AWp.seq ?_
  obtain ⟨r3, hr3, h⟩ := bindS h
  obtain ⟨r4, hr4, h⟩ := bindS h
  obtain ⟨r5, hr5, h⟩ := bindS h
  obtain ⟨r6, hr6, h⟩ := bindS h
  refine sr (c (mv hN (q 1)) rfl (c (mv hN (q 2)) rfl (c (OpJ.buildSlice Try.underlying25 tyS3 tyZD3 (by rfl) (by decide) (by decide) (Opds.cons (q 23) (Opds.cons (q 24) Opds.nil)) (by kernel_rfl) (es := ([(.int .i64 a1), (.int .i64 a2)] : List D)) (by rfl) (by rfl) (by kernel_rfl) (by simp) (L rfl)) rfl (c (mv hN (q 1)) rfl (cg (OpJ.callFn hB fnOk7 (exchangepointmill_Mod_ac a1 (40 : Int) r3 hr3) [] (by kernel_rfl) (L rfl) (by kernel_rfl) (OpdL.cons (q 26) (OpdL.cons (Opd.int .i64 (40)) OpdL.nil))) rfl (c (add6 (L rfl) (Opd.int .i64 (1)) (q 27)) rfl (c (mv hN (q 2)) rfl (cg (OpJ.callFn hB fnOk7 (exchangepointmill_Mod_ac a2 (2199023255552 : Int) r4 hr4) [] (by kernel_rfl) (L rfl) (by kernel_rfl) (OpdL.cons (q 29) (OpdL.cons (Opd.int .i64 (2199023255552)) OpdL.nil))) rfl (c (OpJ.buildSlice Try.underlying25 tyS3 tyZD3 (by rfl) (by decide) (by decide) (Opds.cons (q 28) (Opds.cons (q 30) Opds.nil)) (by kernel_rfl) (es := ([(.int .i64 (w64 ((1 : Int) + r3))), (.int .i64 r4)] : List D)) (by rfl) (by rfl) (by kernel_rfl) (by simp) (L rfl)) rfl (c (mv hN (q 1)) rfl (cg (OpJ.callFn hB fnOk7 (exchangepointmill_Mod_ac a1 (2097152 : Int) r5 hr5) [] (by kernel_rfl) (L rfl) (by kernel_rfl) (OpdL.cons (q 32) (OpdL.cons (Opd.int .i64 (2097152)) OpdL.nil))) rfl (c (mv hN (q 2)) rfl (cg (OpJ.callFn hB fnOk7 (exchangepointmill_Mod_ac a2 (3000 : Int) r6 hr6) [] (by kernel_rfl) (L rfl) (by kernel_rfl) (OpdL.cons (q 34) (OpdL.cons (Opd.int .i64 (3000)) OpdL.nil))) rfl (c (OpJ.buildSlice Try.underlying25 tyS3 tyZD3 (by rfl) (by decide) (by decide) (Opds.cons (q 33) (Opds.cons (q 35) Opds.nil)) (by kernel_rfl) (es := ([(.int .i64 r5), (.int .i64 r6)] : List D)) (by rfl) (by rfl) (by kernel_rfl) (by simp) (L rfl)) rfl (c (OpJ.buildSlice Try.underlying26 tyS25 tyZD25 (by rfl) (by decide) (by decide) (Opds.cons (q 25) (Opds.cons (q 31) (Opds.cons (q 36) Opds.nil))) (by kernel_rfl) (es := ([(.list 1 (([a1, a2] : List Int).map (eI .i64))), (.list 1 (([(w64 ((1 : Int) + r3)), r4] : List Int).map (eI .i64))), (.list 1 (([r5, r6] : List Int).map (eI .i64)))] : List D)) (by rfl) (by rfl) (by kernel_rfl) (by simp) (L rfl)) rfl (c (OpJ.val (v' := (i6 (([([a1, a2] : List Int), ([(w64 ((1 : Int) + r3)), r4] : List Int), ([r5, r6] : List Int)] : List (List Int)).length : Int))) (by simp) (OpJ.lenD Try.underlying26 (L rfl) (q 37))) rfl (c (mv hN (Opd.int .i64 (0))) rfl cn))))))))))))))))) ?_
  refine gh [(3, _), (7, _), (37, _), (38, _), (39, _)] [(1003, some _), (1007, some _)] hB rfl rfl (by rfl) ?_
  refine AWp.block ?_
  obtain ⟨x114, hx115, h⟩ := bindS h
  refine lg (exchangepointlaw38_MatrixEstimates_L0 a0 a1 a2 r1 r2 r3 r4 r5 r6) (fun s7 : Int => ([(3, (.ptr 1003 0 [])), (7, (.ptr 1007 0 [])), (37, (.d (.list 1 (([([a1, a2] : List Int), ([(w64 ((1 : Int) + r3)), r4] : List Int), ([r5, r6] : List Int)] : List (List Int)).map e_LeIi64)))), (38, (i6 (([([a1, a2] : List Int), ([(w64 ((1 : Int) + r3)), r4] : List Int), ([r5, r6] : List Int)] : List (List Int)).length : Int))), (39, (i6 s7))] : EL)) (fun s7 : Int => ([(1003, some (.box 23 (.d (e_api_Cell a0)))), (1007, some (.box 23 (.d (.st [(.int .i64 0), (.int .i64 0), (.int .i64 r1), (.int .i64 r2)]))))] : OL)) (fun (x : (Unit) ⊕ (Unit)) e E' O' => match x with | (.inl _p) => e = .ret ∧ Mat B E' O' ([(6, (bo false))] : EL) ([] : OL) | (.inr _p) => e = .exit 0 ∧ Mat B E' O' ([] : EL) ([] : OL)) hx115 (mp [] _ _ hB) (fun s7 y h => ?_) (fun e E' O' hR => ?_)
  · unfold exchangepointlaw38_MatrixEstimates_L0 at h
    refine sr (c (OpJ.lss (L rfl) (q 39) (q 38)) rfl cn) ?_
    refine gh [(3, _), (7, _), (37, _), (38, _), (39, _), (40, _)] [(1003, some _), (1007, some _)] hB rfl rfl (by rfl) ?_
    refine AWp.seq ?_
    refine AWp.cond rfl (fun hg80 => ?_) (fun hg80 => ?_)
    · replace h := ite_t hg80 h
      refine AWp.skip ?_
      refine seqQ_n ?_
      refine AWp.seq ?_
      refine AWp.block ?_
      obtain ⟨x81, hx81, h⟩ := bindS h
      refine sr (c (OpJ.indexD Try.underlying26 tyS25 (idx_some hx81).1 (get_map e_LeIi64 (idx_some hx81).2) (L rfl) (q 37) (q 39)) rfl (c (OpJ.loadD tyS25 (by rfl) (by rfl) (L rfl) (q 41)) rfl (c (OpJ.assign (L rfl) (q 42)) rfl cn))) ?_
      refine gh [(3, _), (7, _), (9, _), (37, _), (38, _), (39, _)] [(1003, some _), (1007, some _)] hB rfl rfl (by rfl) ?_
      refine sr (c (lb hN 23 _ _ tyS23 (At.here _) (q 3)) rfl (c (lb hN 23 _ _ tyS23 (At.here _) (q 7)) rfl (c (OpJ.buildSlice Try.underlying27 tyS23 tyZD23 (by rfl) (by decide) (by decide) (Opds.cons (q 43) (Opds.cons (q 44) Opds.nil)) (by kernel_rfl) (es := ([(e_api_Cell a0), (.st [(.int .i64 0), (.int .i64 0), (.int .i64 r1), (.int .i64 r2)])] : List D)) (by rfl) (by rfl) (by kernel_rfl) (by simp) (L rfl)) rfl (c (OpJ.val (v' := (i6 (([a0, (api_Cell.mk (0 : Int) (0 : Int) r1 r2)] : List api_Cell).length : Int))) (by simp) (OpJ.lenD Try.underlying27 (L rfl) (q 45))) rfl (c (mv hN (Opd.int .i64 (0))) rfl cn))))) ?_
      refine gh [(3, _), (7, _), (9, _), (37, _), (38, _), (39, _), (45, _), (46, _), (47, _)] [(1003, some _), (1007, some _)] hB rfl rfl (by rfl) ?_
      refine AWp.block ?_
      obtain ⟨x112, hx113, h⟩ := bindS h
      refine lg (exchangepointlaw38_MatrixEstimates_L1 a0 r1 r2 x81) (fun s82 : Int => ([(3, (.ptr 1003 0 [])), (7, (.ptr 1007 0 [])), (9, (qI_1 x81)), (37, (.d (.list 1 (([([a1, a2] : List Int), ([(w64 ((1 : Int) + r3)), r4] : List Int), ([r5, r6] : List Int)] : List (List Int)).map e_LeIi64)))), (38, (i6 (([([a1, a2] : List Int), ([(w64 ((1 : Int) + r3)), r4] : List Int), ([r5, r6] : List Int)] : List (List Int)).length : Int))), (39, (i6 s7)), (45, (qe_api_Cell_4 ([a0, (api_Cell.mk (0 : Int) (0 : Int) r1 r2)] : List api_Cell))), (46, (i6 (([a0, (api_Cell.mk (0 : Int) (0 : Int) r1 r2)] : List api_Cell).length : Int))), (47, (i6 s82))] : EL)) (fun s82 : Int => ([(1003, some (.box 23 (.d (e_api_Cell a0)))), (1007, some (.box 23 (.d (.st [(.int .i64 0), (.int .i64 0), (.int .i64 r1), (.int .i64 r2)]))))] : OL)) (fun (x : (Unit) ⊕ (Unit)) e E' O' => match x with | (.inl _p) => e = .ret ∧ Mat B E' O' ([(6, (bo false))] : EL) ([] : OL) | (.inr _p) => e = .exit 2 ∧ Mat B E' O' ([(3, (.ptr 1003 0 [])), (7, (.ptr 1007 0 [])), (37, (.d (.list 1 (([([a1, a2] : List Int), ([(w64 ((1 : Int) + r3)), r4] : List Int), ([r5, r6] : List Int)] : List (List Int)).map e_LeIi64)))), (38, (i6 (([([a1, a2] : List Int), ([(w64 ((1 : Int) + r3)), r4] : List Int), ([r5, r6] : List Int)] : List (List Int)).length : Int))), (39, (i6 s7))] : EL) ([(1003, some (.box 23 (.d (e_api_Cell a0)))), (1007, some (.box 23 (.d (.st [(.int .i64 0), (.int .i64 0), (.int .i64 r1), (.int .i64 r2)]))))] : OL)) hx113 (mp [] _ _ hB) (fun s82 y h => ?_) (fun e E' O' hR => ?_)
      · unfold exchangepointlaw38_MatrixEstimates_L1 at h
        refine sr (c (OpJ.lss (L rfl) (q 47) (q 46)) rfl cn) ?_
        refine gh [(3, _), (7, _), (9, _), (37, _), (38, _), (39, _), (45, _), (46, _), (47, _), (48, _)] [(1003, some _), (1007, some _)] hB rfl rfl (by rfl) ?_
        refine AWp.seq ?_
        refine AWp.cond rfl (fun hg103 => ?_) (fun hg103 => ?_)
        · replace h := ite_t hg103 h
          refine AWp.skip ?_
          refine seqQ_n ?_
          refine AWp.seq ?_
          refine AWp.block ?_
          obtain ⟨x104, hx104, h⟩ := bindS h
          refine sr (c (OpJ.indexD Try.underlying27 tyS23 (idx_some hx104).1 (get_map e_api_Cell (idx_some hx104).2) (L rfl) (q 45) (q 47)) rfl (c (OpJ.loadD tyS23 (by rfl) (by rfl) (L rfl) (q 49)) rfl (cg (OpJ.alloc hB tyZ23 (nm := 1011) (by decide) (L rfl)) rfl (cg (OpJ.storeB tyS23 (SetAt.here _ _) (by rfl) (by rfl) (by simp) rfl (q 11) (q 50)) rfl cn)))) ?_
          refine gh [(3, _), (7, _), (9, _), (11, _), (37, _), (38, _), (39, _), (45, _), (46, _), (47, _)] [(1003, some _), (1007, some _), (1011, some _)] hB rfl rfl (by rfl) ?_
          obtain ⟨x105, hx105, h⟩ := bindS h
          obtain ⟨x106, hx106, h⟩ := bindS h
          obtain ⟨r107, hr107, h⟩ := bindS h
          refine sd (c (lb hN 23 _ _ tyS23 (At.here _) (q 11)) rfl (c (mv hN (q 9)) rfl (c (OpJ.indexD Try.underlying25 tyS3 (idx_some hx105).1 (get_map (eI .i64) (idx_some hx105).2) (L rfl) (q 53) (Opd.int .i64 (0))) rfl (c (OpJ.loadD tyS3 (by rfl) (by rfl) (L rfl) (q 54)) rfl (c (mv hN (q 9)) rfl (c (OpJ.indexD Try.underlying25 tyS3 (idx_some hx106).1 (get_map (eI .i64) (idx_some hx106).2) (L rfl) (q 56) (Opd.int .i64 (1))) rfl (c (OpJ.loadD tyS3 (by rfl) (by rfl) (L rfl) (q 57)) rfl (cg (OpJ.callFn hB fnOk8 (matrix_Estimate_ac x104 x105 x106 r107 hr107) [] (by kernel_rfl) (L rfl) (by kernel_rfl) (OpdL.cons (q 52) (OpdL.cons (q 55) (OpdL.cons (q 58) OpdL.nil)))) rfl (c (mv hN (q 59)) rfl (c (OpJ.extract (by rfl) rfl (L rfl) (q 51)) rfl (c (OpJ.extract (by rfl) rfl (L rfl) (q 51)) rfl (c (OpJ.assign (L rfl) (q 60)) rfl (c (OpJ.assign (L rfl) (q 61)) rfl cn))))))))))))) (by kernel_rfl) (by kernel_rfl) ?_
          refine gh [(3, _), (7, _), (9, _), (11, _), (12, _), (13, _), (37, _), (38, _), (39, _), (45, _), (46, _), (47, _)] [(1003, some _), (1007, some _), (1011, some _)] hB rfl rfl (by rfl) ?_
          obtain ⟨x108, hx108, h⟩ := bindS h
          obtain ⟨x109, hx109, h⟩ := bindS h
          obtain ⟨r110, hr110, h⟩ := bindS h
          refine sd (c (lb hN 23 _ _ tyS23 (At.here _) (q 11)) rfl (c (mv hN (q 9)) rfl (c (OpJ.indexD Try.underlying25 tyS3 (idx_some hx108).1 (get_map (eI .i64) (idx_some hx108).2) (L rfl) (q 64) (Opd.int .i64 (0))) rfl (c (OpJ.loadD tyS3 (by rfl) (by rfl) (L rfl) (q 65)) rfl (c (mv hN (q 9)) rfl (c (OpJ.indexD Try.underlying25 tyS3 (idx_some hx109).1 (get_map (eI .i64) (idx_some hx109).2) (L rfl) (q 67) (Opd.int .i64 (1))) rfl (c (OpJ.loadD tyS3 (by rfl) (by rfl) (L rfl) (q 68)) rfl (cg (OpJ.callFn hB fnOk9 (exchangepointref38_Estimate_ac x104 x108 x109 r110 hr110) [] (by kernel_rfl) (L rfl) (by kernel_rfl) (OpdL.cons (q 63) (OpdL.cons (q 66) (OpdL.cons (q 69) OpdL.nil)))) rfl (c (mv hN (q 70)) rfl (c (OpJ.extract (by rfl) rfl (L rfl) (q 62)) rfl (c (OpJ.extract (by rfl) rfl (L rfl) (q 62)) rfl (c (OpJ.assign (L rfl) (q 71)) rfl (c (OpJ.assign (L rfl) (q 72)) rfl cn))))))))))))) (by kernel_rfl) (by kernel_rfl) ?_
          refine gh [(3, _), (7, _), (9, _), (12, _), (13, _), (14, _), (15, _), (37, _), (38, _), (39, _), (45, _), (46, _), (47, _)] [(1003, some _), (1007, some _)] hB rfl rfl (by rfl) ?_
          refine sr (c (mv hN (q 12)) rfl (c (mv hN (q 14)) rfl (c (OpJ.neqI (L rfl) (q 73) (q 74)) rfl (c (mv hN (q 75)) rfl (c (oq hN 76 (mv hN (q 13)) (OptL.keep (by rfl) OptL.nil) (GuardV.plain _)) rfl (c (oq hN 76 (mv hN (q 15)) (OptL.keep (by rfl) OptL.nil) (GuardV.plain _)) rfl (c (oq hN 76 (OpJ.neqI (L rfl) (q 77) (q 78)) (OptL.opt (OptL.opt OptL.nil)) (GuardV.plain _)) rfl (c (OpJ.pickOr rfl (L rfl) (q 76) (q 79)) rfl cn)))))))) ?_
          refine gh [(3, _), (7, _), (9, _), (37, _), (38, _), (39, _), (45, _), (46, _), (47, _), (80, _)] [(1003, some _), (1007, some _)] hB rfl rfl (by rfl) ?_
          refine AWp.cond rfl (fun hg111 => ?_) (fun hg111 => ?_)
          · replace h := ite_t hg111 h
            refine sr (c (OpJ.assign (L rfl) (Opd.bool false)) rfl cn) ?_
            refine gh [(6, _)] [] hB rfl rfl (by rfl) ?_
            refine AWp.ret ?_
            refine blkQ_r ?_
            refine seqQ_r ?_
            obtain rfl := Option.some.inj h
            exact ⟨(fun hc => by cases hc), rfl, (mp [] _ _ hB)⟩
          · replace h := ite_f hg111 h
            refine AWp.skip ?_
            refine blkQ_n ?_
            refine seqQ_n ?_
            refine rg (c (add6 (L rfl) (q 47) (Opd.int .i64 (1))) rfl (c (mv hN (q 81)) rfl cn)) ?_
            obtain rfl := Option.some.inj h
            exact ⟨rfl, (Mat.trans (mp [] [(3, (.ptr 1003 0 [])), (7, (.ptr 1007 0 [])), (9, (qI_1 x81)), (37, (.d (.list 1 (([([a1, a2] : List Int), ([(w64 ((1 : Int) + r3)), r4] : List Int), ([r5, r6] : List Int)] : List (List Int)).map e_LeIi64)))), (38, (i6 (([([a1, a2] : List Int), ([(w64 ((1 : Int) + r3)), r4] : List Int), ([r5, r6] : List Int)] : List (List Int)).length : Int))), (39, (i6 s7)), (45, (qe_api_Cell_4 ([a0, (api_Cell.mk (0 : Int) (0 : Int) r1 r2)] : List api_Cell))), (46, (i6 (([a0, (api_Cell.mk (0 : Int) (0 : Int) r1 r2)] : List api_Cell).length : Int))), (47, (i6 (w64 (s82 + (1 : Int)))))] [(1003, some (.box 23 (.d (e_api_Cell a0)))), (1007, some (.box 23 (.d (.st [(.int .i64 0), (.int .i64 0), (.int .i64 r1), (.int .i64 r2)]))))] hB) (mp [] _ _ hB))⟩
        · replace h := ite_f hg103 h
          refine AWp.exit ?_
          refine seqQ_e ?_
          obtain rfl := Option.some.inj h
          exact ⟨(fun hc => by cases hc), rfl, (mp [] _ _ hB)⟩
      · rcases x112 with _ | _
        · obtain ⟨rfl, hmat⟩ := hR
          refine blkQ_r ?_
          refine blkQ_r ?_
          refine seqQ_r ?_
          obtain rfl := Option.some.inj h
          exact ⟨(fun hc => by cases hc), rfl, (Mat.trans hmat (mp [] _ _ hB))⟩
        · obtain ⟨rfl, hmat⟩ := hR
          refine blkQ_hit ?_
          refine blkQ_n ?_
          refine seqQ_n ?_
          refine AWp.ghost hmat ?_
          refine rg (c (add6 (L rfl) (q 39) (Opd.int .i64 (1))) rfl (c (mv hN (q 82)) rfl cn)) ?_
          obtain rfl := Option.some.inj h
          exact ⟨rfl, (Mat.trans (mp [] [(3, (.ptr 1003 0 [])), (7, (.ptr 1007 0 [])), (37, (.d (.list 1 (([([a1, a2] : List Int), ([(w64 ((1 : Int) + r3)), r4] : List Int), ([r5, r6] : List Int)] : List (List Int)).map e_LeIi64)))), (38, (i6 (([([a1, a2] : List Int), ([(w64 ((1 : Int) + r3)), r4] : List Int), ([r5, r6] : List Int)] : List (List Int)).length : Int))), (39, (i6 (w64 (s7 + (1 : Int)))))] [(1003, some (.box 23 (.d (e_api_Cell a0)))), (1007, some (.box 23 (.d (.st [(.int .i64 0), (.int .i64 0), (.int .i64 r1), (.int .i64 r2)]))))] hB) (mp [] _ _ hB))⟩
    · replace h := ite_f hg80 h
      refine AWp.exit ?_
      refine seqQ_e ?_
      obtain rfl := Option.some.inj h
      exact ⟨(fun hc => by cases hc), rfl, (mp [] _ _ hB)⟩
  · rcases x114 with _ | _
    · obtain ⟨rfl, hmat⟩ := hR
      refine blkQ_r ?_
      refine seqQ_r ?_
      obtain rfl := Option.some.inj h
      exact ⟨.inl rfl, _, _, (Mat.trans hmat (mp [] [(6, (bo false))] [] hB)), [(bo false)], (Res.tmp (by rfl) (by rfl) Res.nil), rfl, by rfl, by rfl, by rfl⟩
    · obtain ⟨rfl, hmat⟩ := hR
      refine blkQ_hit ?_
      refine seqQ_n ?_
      refine AWp.ghost hmat ?_
      obtain ⟨r116, hr116, h⟩ := bindS h
      refine sr (cg (OpJ.callFn hB fnOk10 (exchangepointlaw38_awake_ac r116 hr116) [] (by kernel_rfl) (L rfl) (by kernel_rfl) OpdL.nil) rfl (c (OpJ.assign (L rfl) (q 83)) rfl cn)) ?_
      refine gh [(6, _)] [] hB rfl rfl (by rfl) ?_
      refine AWp.ret ?_
      obtain rfl := Option.some.inj h
      exact ⟨.inl rfl, _, _, (kp [(6, _)] [] hB rfl rfl (by rfl)), [(bo r116)], (Res.tmp (by rfl) (by rfl) Res.nil), rfl, by rfl, by rfl, by rfl⟩

noncomputable def exchangepointmill_New (a0 : (List Int)) : Option (exchangepointmill_Deck) :=
  some (exchangepointmill_Deck.mk a0 (0 : Int))
set_option maxHeartbeats 4000000 in
set_option maxRecDepth 100000 in
theorem exchangepointmill_New_ac (a0 : (List Int)) (r : exchangepointmill_Deck) (h : exchangepointmill_New a0 = some r) : AC Try.prog 11 [(.d (.list 1 (a0.map (eI .i64))))] [] (.ptr 1005 0 []) [(1005, some (.box 60 (.d (e_exchangepointmill_Deck r))))] := by
  refine AC.of_code2 Try.func11 rfl rfl (Nat.le_of_ble_eq_true (by rfl)) fun B hB hN => ?_
  delta exchangepointmill_New at h
  refine sr (c (OpJ.assign (v := .junk) (ltN hN rfl) (Opd.junk _)) rfl cn) ?_
  refine gh [(0, _)] [] hB rfl rfl (by rfl) ?_
  refine sr (c (mv hN (q 0)) rfl (c (OpJ.coe (v := (.st [(qI_1 a0), (i6 0)])) (y := (.st [(.list 1 (a0.map (eI .i64))), (.int .i64 0)])) (Co.st (CoL.cons (Co.d _) (CoL.cons (Co.d _) CoL.nil))) rfl (OpJ.build (places := [(0, 1), (1, 1)]) ⟨Try.underlying60, fun w => by kernel_rfl⟩ tyZS60 (Opds.cons (q 3) Opds.nil) (by kernel_rfl) (r := (.st [(qI_1 a0), (i6 0)])) (by rfl) (ltN hN rfl))) rfl (cg (OpJ.box hB (nm := 1005) (by decide) (by simp) rfl (ltN hN rfl) (q 4)) rfl (c (OpJ.assign (ltN hN rfl) (q 5)) rfl cn)))) ?_
  refine gh [(2, _)] [(1005, some _)] hB rfl rfl (by rfl) ?_
  refine AWp.ret ?_
  obtain rfl := Option.some.inj h
  exact ⟨.inl rfl, _, _, (kp [(2, _)] [(1005, some _)] hB rfl rfl (by rfl)), [(.ptr 1005 0 [])], (Res.tmp (by rfl) (by rfl) Res.nil), rfl, by rfl, by rfl, by rfl⟩

noncomputable def exchangepointmill_Deck_Next (a0 : exchangepointmill_Deck) (a1 : Int) : Option (Int × exchangepointmill_Deck) :=
  (if (decide ((a0.fL.length : Int) ≤ a0.fAt)) = true then
  some ((0 : Int), a0)
  else
  (idx a0.fL (w64 ((w64 (a0.fAt + (1 : Int))) - (1 : Int)))).bind fun x2 =>
  (exchangepointmill_Mod x2 a1).bind fun r3 =>
  some (r3, (exchangepointmill_Deck.mk a0.fL (w64 (a0.fAt + (1 : Int))))))
set_option maxHeartbeats 4000000 in
set_option maxRecDepth 100000 in
theorem exchangepointmill_Deck_Next_ac (a0 : exchangepointmill_Deck) (a1 : Int) (r : Int × exchangepointmill_Deck) (h : exchangepointmill_Deck_Next a0 a1 = some r) : AC Try.prog 30 [(.ptr 0 0 []), (.d (.int .i64 a1))] [(0, (.box 60 (.d (e_exchangepointmill_Deck a0))))] (.d (.int .i64 r.1)) [(0, some (.box 60 (.d (e_exchangepointmill_Deck r.2))))] := by
  refine AC.of_code2 Try.func30 rfl rfl (Nat.le_of_ble_eq_true (by rfl)) fun B hB hN => ?_
  have L {d : Nat} (h : Nat.blt d Try.f30.ntmps = true) : d < B.N := ltN hN h
  delta exchangepointmill_Deck_Next at h
  refine sr (c (OpJ.assign (L rfl) (Opd.int .i64 (0))) rfl cn) ?_
  refine gh [(0, _), (1, _)] [(0, some _)] hB rfl rfl (by rfl) ?_
  refine AWp.seq ?_
  refine sd (c (mv hN (q 0)) rfl (c (OpJ.nilP (L rfl) (q 5)) rfl (c (ov (.ptr 0 1 [1]) (fp hN Try.underlying60 1 tyS3 _ (q 6))) rfl (c (lb hN 60 _ _ tyS3 (ad _) (q 7)) rfl (c (mv hN (q 0)) rfl (c (OpJ.nilP (L rfl) (q 9)) rfl (c (ov (.ptr 0 0 [0]) (fp hN Try.underlying60 0 tyS25 _ (q 10))) rfl (c (lb hN 60 _ _ tyS25 (ad _) (q 11)) rfl (c (OpJ.val (v' := (i6 (a0.fL.length : Int))) (by simp) (OpJ.lenD Try.underlying25 (L rfl) (q 12))) rfl (c (OpJ.geq (L rfl) (q 8) (q 13)) rfl cn)))))))))) (by kernel_rfl) (by kernel_rfl) ?_
  refine gh [(0, _), (1, _), (14, _)] [(0, some _)] hB rfl rfl (by rfl) ?_
  refine AWp.cond rfl (fun hg1 => ?_) (fun hg1 => ?_)
  · replace h := ite_t hg1 h
    refine sr (c (OpJ.assign (L rfl) (Opd.int .i64 (0))) rfl cn) ?_
    refine gh [(4, _)] [(0, some _)] hB rfl rfl (by rfl) ?_
    refine AWp.ret ?_
    refine seqQ_r ?_
    obtain rfl := Option.some.inj h
    exact ⟨.inl rfl, _, _, (kp [(4, _)] [(0, some _)] hB rfl rfl (by rfl)), [(i6 0)], (Res.tmp (by rfl) (by rfl) Res.nil), rfl, by rfl, by rfl, by rfl⟩
  · replace h := ite_f hg1 h
    refine AWp.skip ?_
    refine seqQ_n ?_
    refine sr (c (mv hN (q 0)) rfl (c (OpJ.nilP (L rfl) (q 15)) rfl (c (ov (.ptr 0 1 [1]) (fp hN Try.underlying60 1 tyS3 _ (q 16))) rfl (c (lb hN 60 _ _ tyS3 (ad _) (q 17)) rfl (c (add6 (L rfl) (q 18) (Opd.int .i64 (1))) rfl (c (OpJ.nilP (L rfl) (q 15)) rfl (c (ov (.ptr 0 1 [1]) (fp hN Try.underlying60 1 tyS3 _ (q 20))) rfl (cg (OpJ.storeB tyS3 (SetAt.dst1 (by rfl) (by rfl) (SetAt.here _ _) (by rfl) (by rfl) (by first | rfl | omega)) (by rfl) (by rfl) (by simp) rfl (q 21) (q 19)) rfl cn)))))))) ?_
    refine gh [(0, _), (1, _)] [(0, some _)] hB rfl rfl (by rfl) ?_
    obtain ⟨x2, hx2, h⟩ := bindS h
    obtain ⟨r3, hr3, h⟩ := bindS h
    refine sd (c (mv hN (q 0)) rfl (c (OpJ.nilP (L rfl) (q 22)) rfl (c (ov (.ptr 0 0 [0]) (fp hN Try.underlying60 0 tyS25 _ (q 23))) rfl (c (lb hN 60 _ _ tyS25 (ad _) (q 24)) rfl (c (mv hN (q 0)) rfl (c (OpJ.nilP (L rfl) (q 26)) rfl (c (ov (.ptr 0 1 [1]) (fp hN Try.underlying60 1 tyS3 _ (q 27))) rfl (c (lb hN 60 _ _ tyS3 (ad _) (q 28)) rfl (c (sub6 (L rfl) (q 29) (Opd.int .i64 (1))) rfl (c (OpJ.indexD Try.underlying25 tyS3 (idx_some hx2).1 (get_map (eI .i64) (idx_some hx2).2) (L rfl) (q 25) (q 30)) rfl (c (OpJ.loadD tyS3 (by rfl) (by rfl) (L rfl) (q 31)) rfl (c (mv hN (q 1)) rfl (cg (OpJ.callFn hB fnOk7 (exchangepointmill_Mod_ac x2 a1 r3 hr3) [] (by kernel_rfl) (L rfl) (by kernel_rfl) (OpdL.cons (q 32) (OpdL.cons (q 33) OpdL.nil))) rfl (c (OpJ.assign (L rfl) (q 34)) rfl cn)))))))))))))) (by kernel_rfl) (by kernel_rfl) ?_
    refine gh [(4, _)] [(0, some _)] hB rfl rfl (by rfl) ?_
    refine AWp.ret ?_
    obtain rfl := Option.some.inj h
    exact ⟨.inl rfl, _, _, (kp [(4, _)] [(0, some _)] hB rfl rfl (by rfl)), [(i6 r3)], (Res.tmp (by rfl) (by rfl) Res.nil), rfl, by rfl, by rfl, by rfl⟩

noncomputable def exchangepointmill_Deck_Samples_L0 (s5 : Int × Int × Int × Int × Int × Int × Int × (List api_Sample) × exchangepointmill_Deck) : Option (((exchangepointmill_Deck × (List api_Sample))) ⊕ (Int × Int × Int × Int × Int × Int × Int × (List api_Sample) × exchangepointmill_Deck)) :=
  (if (decide ((0 : Int) < s5.1)) = true then
  (exchangepointmill_Deck_Next s5.2.2.2.2.2.2.2.2 (3 : Int)).bind fun r24 =>
  (exchangepointmill_Deck_Next r24.2 (5 : Int)).bind fun r25 =>
  (exchangepointmill_Deck_Next r25.2 (50 : Int)).bind fun r26 =>
  (exchangepointmill_Deck_Next r26.2 (6 : Int)).bind fun r27 =>
  (exchangepointmill_Deck_Next r27.2 (6 : Int)).bind fun r28 =>
  (exchangepointmill_Deck_Next r28.2 (1500 : Int)).bind fun r29 =>
  chk (decide ((s5.2.2.2.2.2.2.2.1 ++ ([(api_Sample.mk (w64 (s5.2.1 + r25.1)) (w64 (s5.2.2.1 + (w64 ((1 : Int) + r24.1)))) (w64 (s5.2.2.2.1 + (w64 ((w64 ((1 : Int) + r24.1)) + r26.1)))) (w64 ((1 : Int) + r27.1)) (w64 ((1 : Int) + r28.1)) (w64 ((60 : Int) + r29.1)))] : List api_Sample)).length ≤ LIM)) <|
  some (.inr ((w64 (s5.1 - (1 : Int))), (w64 (s5.2.1 + r25.1)), (w64 (s5.2.2.1 + (w64 ((1 : Int) + r24.1)))), (w64 (s5.2.2.2.1 + (w64 ((w64 ((1 : Int) + r24.1)) + r26.1)))), (w64 ((1 : Int) + r27.1)), (w64 ((1 : Int) + r28.1)), (w64 ((60 : Int) + r29.1)), (s5.2.2.2.2.2.2.2.1 ++ ([(api_Sample.mk (w64 (s5.2.1 + r25.1)) (w64 (s5.2.2.1 + (w64 ((1 : Int) + r24.1)))) (w64 (s5.2.2.2.1 + (w64 ((w64 ((1 : Int) + r24.1)) + r26.1)))) (w64 ((1 : Int) + r27.1)) (w64 ((1 : Int) + r28.1)) (w64 ((60 : Int) + r29.1)))] : List api_Sample)), r29.2))
  else
  some (.inl (s5.2.2.2.2.2.2.2.2, s5.2.2.2.2.2.2.2.1)))
noncomputable def exchangepointmill_Deck_Samples (a0 : exchangepointmill_Deck) : Option ((List api_Sample) × exchangepointmill_Deck) :=
  (exchangepointmill_Deck_Next a0 (100 : Int)).bind fun r1 =>
  (exchangepointmill_Deck_Next r1.2 (9 : Int)).bind fun r2 =>
  (exchangepointmill_Deck_Next r2.2 (1000 : Int)).bind fun r3 =>
  (exchangepointmill_Deck_Next r3.2 (16 : Int)).bind fun r4 =>
  (loop (exchangepointmill_Deck_Samples_L0) (r4.1, r1.1, r2.1, r3.1, (0 : Int), (0 : Int), (0 : Int), ([] : List api_Sample), r4.2)).bind fun p22 =>
  some (p22.2, p22.1)
set_option maxHeartbeats 4000000 in
set_option maxRecDepth 100000 in
theorem exchangepointmill_Deck_Samples_ac (a0 : exchangepointmill_Deck) (r : (List api_Sample) × exchangepointmill_Deck) (h : exchangepointmill_Deck_Samples a0 = some r) : AC Try.prog 12 [(.ptr 0 0 [])] [(0, (.box 60 (.d (e_exchangepointmill_Deck a0))))] (.d (.list 6 (r.1.map e_api_Sample))) [(0, some (.box 60 (.d (e_exchangepointmill_Deck r.2))))] := by
  refine AC.of_code2 Try.func12 rfl rfl (Nat.le_of_ble_eq_true (by rfl)) fun B hB hN => ?_
  have L {d : Nat} (h : Nat.blt d Try.f12.ntmps = true) : d < B.N := ltN hN h
  delta exchangepointmill_Deck_Samples at h
  refine sr (c (OpJ.assign (L rfl) Opd.nils) rfl cn) ?_
  refine gh [(0, _)] [(0, some _)] hB rfl rfl (by rfl) ?_
  refine sr (c (OpJ.assign (L rfl) Opd.nils) rfl cn) ?_
  refine gh [(0, _), (3, _)] [(0, some _)] hB rfl rfl (by rfl) ?_
  refine AWp.seq ?_
  obtain ⟨r1, hr1, h⟩ := bindS h
  obtain ⟨r2, hr2, h⟩ := bindS h
  obtain ⟨r3, hr3, h⟩ := bindS h
  refine AWp.region (oc (mv hN (ot 0 (.ptr 0 0 [])))
  (oc (OpJ.callFn hB fnOk30 (exchangepointmill_Deck_Next_ac a0 (100 : Int) r1 hr1) [(0, 0)] (by kernel_rfl) (L rfl) (by kernel_rfl) (OpdL.cons (ot 7 (.ptr 0 0 [])) (OpdL.cons (Opd.int .i64 (100)) OpdL.nil)))
  (oc (mv hN (ot 0 (.ptr 0 0 [])))
  (oc (OpJ.callFn hB fnOk30 (exchangepointmill_Deck_Next_ac r1.2 (9 : Int) r2 hr2) [(0, 0)] (by kernel_rfl) (L rfl) (by kernel_rfl) (OpdL.cons (ot 9 (.ptr 0 0 [])) (OpdL.cons (Opd.int .i64 (9)) OpdL.nil)))
  (oc (mv hN (ot 0 (.ptr 0 0 [])))
  (oc (OpJ.callFn hB fnOk30 (exchangepointmill_Deck_Next_ac r2.2 (1000 : Int) r3 hr3) [(0, 0)] (by kernel_rfl) (L rfl) (by kernel_rfl) (OpdL.cons (ot 11 (.ptr 0 0 [])) (OpdL.cons (Opd.int .i64 (1000)) OpdL.nil)))
  (oc (OpJ.coe (v := (.st [(i6 r1.1), (i6 r2.1), (i6 r3.1), (i6 0), (i6 0), (i6 0)])) (y := (.st [(.int .i64 r1.1), (.int .i64 r2.1), (.int .i64 r3.1), (.int .i64 0), (.int .i64 0), (.int .i64 0)])) (Co.st (CoL.cons (Co.d _) (CoL.cons (Co.d _) (CoL.cons (Co.d _) (CoL.cons (Co.d _) (CoL.cons (Co.d _) (CoL.cons (Co.d _) CoL.nil))))))) rfl (OpJ.build (places := [(0, 1), (1, 1), (2, 1), (3, 1), (4, 1), (5, 1)]) ⟨Try.underlying54, fun w => by kernel_rfl⟩ tyZS54 (Opds.cons (ot 8 (i6 r1.1)) (Opds.cons (ot 10 (i6 r2.1)) (Opds.cons (ot 12 (i6 r3.1)) Opds.nil))) (by kernel_rfl) (r := (.st [(i6 r1.1), (i6 r2.1), (i6 r3.1), (i6 0), (i6 0), (i6 0)])) (by rfl) (L rfl)))
  (oc (OpJ.alloc hB tyZ54 (nm := 1004) (by decide) (L rfl))
  (oc (OpJ.storeB (bt := 54) (c := (.d (.st [(.int .i64 0), (.int .i64 0), (.int .i64 0), (.int .i64 0), (.int .i64 0), (.int .i64 0)]))) (v := (.d (.st [(.int .i64 r1.1), (.int .i64 r2.1), (.int .i64 r3.1), (.int .i64 0), (.int .i64 0), (.int .i64 0)]))) (c' := (.d (.st [(.int .i64 r1.1), (.int .i64 r2.1), (.int .i64 r3.1), (.int .i64 0), (.int .i64 0), (.int .i64 0)]))) tyS54 (SetAt.here _ _) (by rfl) (by rfl) (by simp) rfl (ot 4 (.ptr 1004 0 [])) (ot 13 (.d (.st [(.int .i64 r1.1), (.int .i64 r2.1), (.int .i64 r3.1), (.int .i64 0), (.int .i64 0), (.int .i64 0)]))))
  (OpJs.nil)))))))))) (by rfl) (by rfl) ?_
  refine seqQ_n ?_
  refine AWp.ghost (mp [] [(0, (.ptr 0 0 [])), (3, .nils), (4, (.ptr 1004 0 []))] [(0, some (.box 60 (.d (e_exchangepointmill_Deck r3.2)))), (1004, some (.box 54 (.d (.st [(.int .i64 r1.1), (.int .i64 r2.1), (.int .i64 r3.1), (.int .i64 0), (.int .i64 0), (.int .i64 0)]))))] hB) ?_
  refine AWp.seq ?_
  refine AWp.seq ?_
  obtain ⟨r4, hr4, h⟩ := bindS h
  refine AWp.region (oc (mv hN (ot 0 (.ptr 0 0 [])))
  (oc (OpJ.callFn hB fnOk30 (exchangepointmill_Deck_Next_ac r3.2 (16 : Int) r4 hr4) [(0, 0)] (by kernel_rfl) (L rfl) (by kernel_rfl) (OpdL.cons (ot 14 (.ptr 0 0 [])) (OpdL.cons (Opd.int .i64 (16)) OpdL.nil)))
  (oc (OpJ.assign (L rfl) (ot 15 (i6 r4.1)))
  (OpJs.nil)))) (by rfl) (by rfl) ?_
  refine seqQ_n ?_
  refine AWp.ghost (mp [] [(0, (.ptr 0 0 [])), (3, .nils), (4, (.ptr 1004 0 [])), (5, (i6 r4.1))] [(0, some (.box 60 (.d (e_exchangepointmill_Deck r4.2)))), (1004, some (.box 54 (.d (.st [(.int .i64 r1.1), (.int .i64 r2.1), (.int .i64 r3.1), (.int .i64 0), (.int .i64 0), (.int .i64 0)]))))] hB) ?_
  refine AWp.block ?_
  obtain ⟨p22, hx32, h⟩ := bindS h
  refine lg (exchangepointmill_Deck_Samples_L0) (fun s5 : Int × Int × Int × Int × Int × Int × Int × (List api_Sample) × exchangepointmill_Deck => ([(0, (.ptr 0 0 [])), (3, (.sref 3003 6 0 s5.2.2.2.2.2.2.2.1.length)), (4, (.ptr 1004 0 [])), (5, (i6 s5.1))] : EL)) (fun s5 : Int × Int × Int × Int × Int × Int × Int × (List api_Sample) × exchangepointmill_Deck => ([(0, some (.box 60 (.d (e_exchangepointmill_Deck s5.2.2.2.2.2.2.2.2)))), (1004, some (.box 54 (.d (.st [(.int .i64 s5.2.1), (.int .i64 s5.2.2.1), (.int .i64 s5.2.2.2.1), (.int .i64 s5.2.2.2.2.1), (.int .i64 s5.2.2.2.2.2.1), (.int .i64 s5.2.2.2.2.2.2.1)])))), (3003, some (we_api_Sample_54_6 s5.2.2.2.2.2.2.2.1))] : OL)) (fun (p22 : (exchangepointmill_Deck × (List api_Sample))) e E' O' => e = .exit 0 ∧ Mat B E' O' ([(3, (.sref 3003 6 0 p22.2.length))] : EL) ([(0, some (.box 60 (.d (e_exchangepointmill_Deck p22.1)))), (3003, some (we_api_Sample_54_6 p22.2))] : OL)) hx32 (Mat.trans (Mat.beginP (n := 3003) (e := 54) (sz := 6) (Ts := [(3, (.sref 3003 6 0 0))]) (Bs := []) hB (by decide) (by rfl) (by decide) (TwT.cons (x := .nils) (by rfl) (Tw.leaf ⟨rfl, rfl⟩) TwT.nil) TwB.nil) (mp [] _ _ hB)) (fun s5 y h => ?_) (fun e E' O' hR => ?_)
  · unfold exchangepointmill_Deck_Samples_L0 at h
    refine AWp.seq ?_
    refine sr (c (mv hN (q 5)) rfl (c (OpJ.gtr (L rfl) (q 16) (Opd.int .i64 (0))) rfl cn)) ?_
    refine gh [(0, _), (3, _), (4, _), (5, _), (17, _)] [(0, some _), (1004, some _), (3003, some _)] hB rfl rfl (by rfl) ?_
    refine AWp.cond rfl (fun hg23 => ?_) (fun hg23 => ?_)
    · replace h := ite_t hg23 h
      refine AWp.skip ?_
      refine seqQ_n ?_
      refine AWp.seq ?_
      refine AWp.block ?_
      refine AWp.seq ?_
      obtain ⟨r24, hr24, h⟩ := bindS h
      refine AWp.region (oc (mv hN (ot 0 (.ptr 0 0 [])))
        (oc (OpJ.callFn hB fnOk30 (exchangepointmill_Deck_Next_ac s5.2.2.2.2.2.2.2.2 (3 : Int) r24 hr24) [(0, 0)] (by kernel_rfl) (L rfl) (by kernel_rfl) (OpdL.cons (ot 20 (.ptr 0 0 [])) (OpdL.cons (Opd.int .i64 (3)) OpdL.nil)))
        (oc (add6 (L rfl) (Opd.int .i64 (1)) (ot 21 (i6 r24.1)))
        (oc (OpJ.assign (L rfl) (ot 22 (i6 (w64 ((1 : Int) + r24.1)))))
        (OpJs.nil))))) (by rfl) (by rfl) ?_
      refine seqQ_n ?_
      refine AWp.ghost (mp [] [(0, (.ptr 0 0 [])), (3, (.sref 3003 6 0 s5.2.2.2.2.2.2.2.1.length)), (4, (.ptr 1004 0 [])), (5, (i6 s5.1)), (6, (i6 (w64 ((1 : Int) + r24.1))))] [(0, some (.box 60 (.d (e_exchangepointmill_Deck r24.2)))), (1004, some (.box 54 (.d (.st [(.int .i64 s5.2.1), (.int .i64 s5.2.2.1), (.int .i64 s5.2.2.2.1), (.int .i64 s5.2.2.2.2.1), (.int .i64 s5.2.2.2.2.2.1), (.int .i64 s5.2.2.2.2.2.2.1)])))), (3003, some (we_api_Sample_54_6 s5.2.2.2.2.2.2.2.1))] hB) ?_
      refine AWp.seq ?_
      obtain ⟨r25, hr25, h⟩ := bindS h
      refine AWp.draws (by kernel_rfl) (oc (ov (.ptr 1004 0 [0]) (fp hN Try.underlying54 0 tyS3 (.box 54 (.d (.st [(.int .i64 s5.2.1), (.int .i64 s5.2.2.1), (.int .i64 s5.2.2.2.1), (.int .i64 s5.2.2.2.2.1), (.int .i64 s5.2.2.2.2.2.1), (.int .i64 s5.2.2.2.2.2.2.1)]))) (ot 4 (.ptr 1004 0 []))))
        (oc (lb hN 54 (.d (.st [(.int .i64 s5.2.1), (.int .i64 s5.2.2.1), (.int .i64 s5.2.2.2.1), (.int .i64 s5.2.2.2.2.1), (.int .i64 s5.2.2.2.2.2.1), (.int .i64 s5.2.2.2.2.2.2.1)])) (i6 s5.2.1) tyS3 (ad (.int .i64 s5.2.1)) (ot 23 (.ptr 1004 0 [0])))
        (oc (mv hN (ot 0 (.ptr 0 0 [])))
        (oc (OpJ.callFn hB fnOk30 (exchangepointmill_Deck_Next_ac r24.2 (5 : Int) r25 hr25) [(0, 0)] (by kernel_rfl) (L rfl) (by kernel_rfl) (OpdL.cons (ot 25 (.ptr 0 0 [])) (OpdL.cons (Opd.int .i64 (5)) OpdL.nil)))
        (oc (add6 (L rfl) (ot 24 (i6 s5.2.1)) (ot 26 (i6 r25.1)))
        (oc (ov (.ptr 1004 0 [0]) (fp hN Try.underlying54 0 tyS3 (.box 54 (.d (.st [(.int .i64 s5.2.1), (.int .i64 s5.2.2.1), (.int .i64 s5.2.2.2.1), (.int .i64 s5.2.2.2.2.1), (.int .i64 s5.2.2.2.2.2.1), (.int .i64 s5.2.2.2.2.2.2.1)]))) (ot 4 (.ptr 1004 0 []))))
        (oc (OpJ.storeB (bt := 54) (c := (.d (.st [(.int .i64 s5.2.1), (.int .i64 s5.2.2.1), (.int .i64 s5.2.2.2.1), (.int .i64 s5.2.2.2.2.1), (.int .i64 s5.2.2.2.2.2.1), (.int .i64 s5.2.2.2.2.2.2.1)]))) (v := (i6 (w64 (s5.2.1 + r25.1)))) (c' := (.d (.st [(.int .i64 (w64 (s5.2.1 + r25.1))), (.int .i64 s5.2.2.1), (.int .i64 s5.2.2.2.1), (.int .i64 s5.2.2.2.2.1), (.int .i64 s5.2.2.2.2.2.1), (.int .i64 s5.2.2.2.2.2.2.1)]))) tyS3 (SetAt.dst1 (f := (.int .i64 s5.2.1)) (f' := (.int .i64 (w64 (s5.2.1 + r25.1)))) (by rfl) (by rfl) (SetAt.here _ _) (by rfl) (by rfl) (by first | rfl | omega)) (by rfl) (by rfl) (by simp) rfl (ot 28 (.ptr 1004 0 [0])) (ot 27 (i6 (w64 (s5.2.1 + r25.1)))))
        (OpJs.nil)))))))) (by kernel_rfl) (by rfl) (by rfl) ?_
      refine seqQ_n ?_
      refine AWp.ghost (mp [] [(0, (.ptr 0 0 [])), (3, (.sref 3003 6 0 s5.2.2.2.2.2.2.2.1.length)), (4, (.ptr 1004 0 [])), (5, (i6 s5.1)), (6, (i6 (w64 ((1 : Int) + r24.1))))] [(0, some (.box 60 (.d (e_exchangepointmill_Deck r25.2)))), (1004, some (.box 54 (.d (.st [(.int .i64 (w64 (s5.2.1 + r25.1))), (.int .i64 s5.2.2.1), (.int .i64 s5.2.2.2.1), (.int .i64 s5.2.2.2.2.1), (.int .i64 s5.2.2.2.2.2.1), (.int .i64 s5.2.2.2.2.2.2.1)])))), (3003, some (we_api_Sample_54_6 s5.2.2.2.2.2.2.2.1))] hB) ?_
      refine sr (c (ov (.ptr 1004 1 [1]) (fp hN Try.underlying54 1 tyS3 _ (q 4))) rfl (c (lb hN 54 _ _ tyS3 (ad _) (q 29)) rfl (c (mv hN (q 6)) rfl (c (add6 (L rfl) (q 30) (q 31)) rfl (c (ov (.ptr 1004 1 [1]) (fp hN Try.underlying54 1 tyS3 _ (q 4))) rfl (cg (OpJ.storeB tyS3 (SetAt.dst1 (by rfl) (by rfl) (SetAt.here _ _) (by rfl) (by rfl) (by first | rfl | omega)) (by rfl) (by rfl) (by simp) rfl (q 33) (q 32)) rfl cn)))))) ?_
      refine gh [(0, _), (3, _), (4, _), (5, _), (6, _)] [(0, some _), (1004, some _), (3003, some _)] hB rfl rfl (by rfl) ?_
      refine AWp.seq ?_
      obtain ⟨r26, hr26, h⟩ := bindS h
      refine AWp.draws (by kernel_rfl) (oc (ov (.ptr 1004 2 [2]) (fp hN Try.underlying54 2 tyS3 (.box 54 (.d (.st [(.int .i64 (w64 (s5.2.1 + r25.1))), (.int .i64 (w64 (s5.2.2.1 + (w64 ((1 : Int) + r24.1))))), (.int .i64 s5.2.2.2.1), (.int .i64 s5.2.2.2.2.1), (.int .i64 s5.2.2.2.2.2.1), (.int .i64 s5.2.2.2.2.2.2.1)]))) (ot 4 (.ptr 1004 0 []))))
        (oc (lb hN 54 (.d (.st [(.int .i64 (w64 (s5.2.1 + r25.1))), (.int .i64 (w64 (s5.2.2.1 + (w64 ((1 : Int) + r24.1))))), (.int .i64 s5.2.2.2.1), (.int .i64 s5.2.2.2.2.1), (.int .i64 s5.2.2.2.2.2.1), (.int .i64 s5.2.2.2.2.2.2.1)])) (i6 s5.2.2.2.1) tyS3 (ad (.int .i64 s5.2.2.2.1)) (ot 34 (.ptr 1004 2 [2])))
        (oc (mv hN (ot 6 (i6 (w64 ((1 : Int) + r24.1)))))
        (oc (mv hN (ot 0 (.ptr 0 0 [])))
        (oc (OpJ.callFn hB fnOk30 (exchangepointmill_Deck_Next_ac r25.2 (50 : Int) r26 hr26) [(0, 0)] (by kernel_rfl) (L rfl) (by kernel_rfl) (OpdL.cons (ot 37 (.ptr 0 0 [])) (OpdL.cons (Opd.int .i64 (50)) OpdL.nil)))
        (oc (add6 (L rfl) (ot 36 (i6 (w64 ((1 : Int) + r24.1)))) (ot 38 (i6 r26.1)))
        (oc (add6 (L rfl) (ot 35 (i6 s5.2.2.2.1)) (ot 39 (i6 (w64 ((w64 ((1 : Int) + r24.1)) + r26.1)))))
        (oc (ov (.ptr 1004 2 [2]) (fp hN Try.underlying54 2 tyS3 (.box 54 (.d (.st [(.int .i64 (w64 (s5.2.1 + r25.1))), (.int .i64 (w64 (s5.2.2.1 + (w64 ((1 : Int) + r24.1))))), (.int .i64 s5.2.2.2.1), (.int .i64 s5.2.2.2.2.1), (.int .i64 s5.2.2.2.2.2.1), (.int .i64 s5.2.2.2.2.2.2.1)]))) (ot 4 (.ptr 1004 0 []))))
        (oc (OpJ.storeB (bt := 54) (c := (.d (.st [(.int .i64 (w64 (s5.2.1 + r25.1))), (.int .i64 (w64 (s5.2.2.1 + (w64 ((1 : Int) + r24.1))))), (.int .i64 s5.2.2.2.1), (.int .i64 s5.2.2.2.2.1), (.int .i64 s5.2.2.2.2.2.1), (.int .i64 s5.2.2.2.2.2.2.1)]))) (v := (i6 (w64 (s5.2.2.2.1 + (w64 ((w64 ((1 : Int) + r24.1)) + r26.1)))))) (c' := (.d (.st [(.int .i64 (w64 (s5.2.1 + r25.1))), (.int .i64 (w64 (s5.2.2.1 + (w64 ((1 : Int) + r24.1))))), (.int .i64 (w64 (s5.2.2.2.1 + (w64 ((w64 ((1 : Int) + r24.1)) + r26.1))))), (.int .i64 s5.2.2.2.2.1), (.int .i64 s5.2.2.2.2.2.1), (.int .i64 s5.2.2.2.2.2.2.1)]))) tyS3 (SetAt.dst1 (f := (.int .i64 s5.2.2.2.1)) (f' := (.int .i64 (w64 (s5.2.2.2.1 + (w64 ((w64 ((1 : Int) + r24.1)) + r26.1)))))) (by rfl) (by rfl) (SetAt.here _ _) (by rfl) (by rfl) (by first | rfl | omega)) (by rfl) (by rfl) (by simp) rfl (ot 41 (.ptr 1004 2 [2])) (ot 40 (i6 (w64 (s5.2.2.2.1 + (w64 ((w64 ((1 : Int) + r24.1)) + r26.1)))))))
        (OpJs.nil)))))))))) (by kernel_rfl) (by rfl) (by rfl) ?_
      refine seqQ_n ?_
      refine AWp.ghost (mp [] [(0, (.ptr 0 0 [])), (3, (.sref 3003 6 0 s5.2.2.2.2.2.2.2.1.length)), (4, (.ptr 1004 0 [])), (5, (i6 s5.1))] [(0, some (.box 60 (.d (e_exchangepointmill_Deck r26.2)))), (1004, some (.box 54 (.d (.st [(.int .i64 (w64 (s5.2.1 + r25.1))), (.int .i64 (w64 (s5.2.2.1 + (w64 ((1 : Int) + r24.1))))), (.int .i64 (w64 (s5.2.2.2.1 + (w64 ((w64 ((1 : Int) + r24.1)) + r26.1))))), (.int .i64 s5.2.2.2.2.1), (.int .i64 s5.2.2.2.2.2.1), (.int .i64 s5.2.2.2.2.2.2.1)])))), (3003, some (we_api_Sample_54_6 s5.2.2.2.2.2.2.2.1))] hB) ?_
      refine AWp.seq ?_
      obtain ⟨r27, hr27, h⟩ := bindS h
      obtain ⟨r28, hr28, h⟩ := bindS h
      obtain ⟨r29, hr29, h⟩ := bindS h
      refine AWp.region (oc (mv hN (ot 0 (.ptr 0 0 [])))
        (oc (OpJ.callFn hB fnOk30 (exchangepointmill_Deck_Next_ac r26.2 (6 : Int) r27 hr27) [(0, 0)] (by kernel_rfl) (L rfl) (by kernel_rfl) (OpdL.cons (ot 42 (.ptr 0 0 [])) (OpdL.cons (Opd.int .i64 (6)) OpdL.nil)))
        (oc (add6 (L rfl) (Opd.int .i64 (1)) (ot 43 (i6 r27.1)))
        (oc (mv hN (ot 0 (.ptr 0 0 [])))
        (oc (OpJ.callFn hB fnOk30 (exchangepointmill_Deck_Next_ac r27.2 (6 : Int) r28 hr28) [(0, 0)] (by kernel_rfl) (L rfl) (by kernel_rfl) (OpdL.cons (ot 45 (.ptr 0 0 [])) (OpdL.cons (Opd.int .i64 (6)) OpdL.nil)))
        (oc (add6 (L rfl) (Opd.int .i64 (1)) (ot 46 (i6 r28.1)))
        (oc (mv hN (ot 0 (.ptr 0 0 [])))
        (oc (OpJ.callFn hB fnOk30 (exchangepointmill_Deck_Next_ac r28.2 (1500 : Int) r29 hr29) [(0, 0)] (by kernel_rfl) (L rfl) (by kernel_rfl) (OpdL.cons (ot 48 (.ptr 0 0 [])) (OpdL.cons (Opd.int .i64 (1500)) OpdL.nil)))
        (oc (add6 (L rfl) (Opd.int .i64 (60)) (ot 49 (i6 r29.1)))
        (oc (ov (.ptr 1004 3 [3]) (fp hN Try.underlying54 3 tyS3 (.box 54 (.d (.st [(.int .i64 (w64 (s5.2.1 + r25.1))), (.int .i64 (w64 (s5.2.2.1 + (w64 ((1 : Int) + r24.1))))), (.int .i64 (w64 (s5.2.2.2.1 + (w64 ((w64 ((1 : Int) + r24.1)) + r26.1))))), (.int .i64 s5.2.2.2.2.1), (.int .i64 s5.2.2.2.2.2.1), (.int .i64 s5.2.2.2.2.2.2.1)]))) (ot 4 (.ptr 1004 0 []))))
        (oc (OpJ.storeB (bt := 54) (c := (.d (.st [(.int .i64 (w64 (s5.2.1 + r25.1))), (.int .i64 (w64 (s5.2.2.1 + (w64 ((1 : Int) + r24.1))))), (.int .i64 (w64 (s5.2.2.2.1 + (w64 ((w64 ((1 : Int) + r24.1)) + r26.1))))), (.int .i64 s5.2.2.2.2.1), (.int .i64 s5.2.2.2.2.2.1), (.int .i64 s5.2.2.2.2.2.2.1)]))) (v := (i6 (w64 ((1 : Int) + r27.1)))) (c' := (.d (.st [(.int .i64 (w64 (s5.2.1 + r25.1))), (.int .i64 (w64 (s5.2.2.1 + (w64 ((1 : Int) + r24.1))))), (.int .i64 (w64 (s5.2.2.2.1 + (w64 ((w64 ((1 : Int) + r24.1)) + r26.1))))), (.int .i64 (w64 ((1 : Int) + r27.1))), (.int .i64 s5.2.2.2.2.2.1), (.int .i64 s5.2.2.2.2.2.2.1)]))) tyS3 (SetAt.dst1 (f := (.int .i64 s5.2.2.2.2.1)) (f' := (.int .i64 (w64 ((1 : Int) + r27.1)))) (by rfl) (by rfl) (SetAt.here _ _) (by rfl) (by rfl) (by first | rfl | omega)) (by rfl) (by rfl) (by simp) rfl (ot 51 (.ptr 1004 3 [3])) (ot 44 (i6 (w64 ((1 : Int) + r27.1)))))
        (oc (ov (.ptr 1004 4 [4]) (fp hN Try.underlying54 4 tyS3 (.box 54 (.d (.st [(.int .i64 (w64 (s5.2.1 + r25.1))), (.int .i64 (w64 (s5.2.2.1 + (w64 ((1 : Int) + r24.1))))), (.int .i64 (w64 (s5.2.2.2.1 + (w64 ((w64 ((1 : Int) + r24.1)) + r26.1))))), (.int .i64 (w64 ((1 : Int) + r27.1))), (.int .i64 s5.2.2.2.2.2.1), (.int .i64 s5.2.2.2.2.2.2.1)]))) (ot 4 (.ptr 1004 0 []))))
        (oc (OpJ.storeB (bt := 54) (c := (.d (.st [(.int .i64 (w64 (s5.2.1 + r25.1))), (.int .i64 (w64 (s5.2.2.1 + (w64 ((1 : Int) + r24.1))))), (.int .i64 (w64 (s5.2.2.2.1 + (w64 ((w64 ((1 : Int) + r24.1)) + r26.1))))), (.int .i64 (w64 ((1 : Int) + r27.1))), (.int .i64 s5.2.2.2.2.2.1), (.int .i64 s5.2.2.2.2.2.2.1)]))) (v := (i6 (w64 ((1 : Int) + r28.1)))) (c' := (.d (.st [(.int .i64 (w64 (s5.2.1 + r25.1))), (.int .i64 (w64 (s5.2.2.1 + (w64 ((1 : Int) + r24.1))))), (.int .i64 (w64 (s5.2.2.2.1 + (w64 ((w64 ((1 : Int) + r24.1)) + r26.1))))), (.int .i64 (w64 ((1 : Int) + r27.1))), (.int .i64 (w64 ((1 : Int) + r28.1))), (.int .i64 s5.2.2.2.2.2.2.1)]))) tyS3 (SetAt.dst1 (f := (.int .i64 s5.2.2.2.2.2.1)) (f' := (.int .i64 (w64 ((1 : Int) + r28.1)))) (by rfl) (by rfl) (SetAt.here _ _) (by rfl) (by rfl) (by first | rfl | omega)) (by rfl) (by rfl) (by simp) rfl (ot 52 (.ptr 1004 4 [4])) (ot 47 (i6 (w64 ((1 : Int) + r28.1)))))
        (oc (ov (.ptr 1004 5 [5]) (fp hN Try.underlying54 5 tyS3 (.box 54 (.d (.st [(.int .i64 (w64 (s5.2.1 + r25.1))), (.int .i64 (w64 (s5.2.2.1 + (w64 ((1 : Int) + r24.1))))), (.int .i64 (w64 (s5.2.2.2.1 + (w64 ((w64 ((1 : Int) + r24.1)) + r26.1))))), (.int .i64 (w64 ((1 : Int) + r27.1))), (.int .i64 (w64 ((1 : Int) + r28.1))), (.int .i64 s5.2.2.2.2.2.2.1)]))) (ot 4 (.ptr 1004 0 []))))
        (oc (OpJ.storeB (bt := 54) (c := (.d (.st [(.int .i64 (w64 (s5.2.1 + r25.1))), (.int .i64 (w64 (s5.2.2.1 + (w64 ((1 : Int) + r24.1))))), (.int .i64 (w64 (s5.2.2.2.1 + (w64 ((w64 ((1 : Int) + r24.1)) + r26.1))))), (.int .i64 (w64 ((1 : Int) + r27.1))), (.int .i64 (w64 ((1 : Int) + r28.1))), (.int .i64 s5.2.2.2.2.2.2.1)]))) (v := (i6 (w64 ((60 : Int) + r29.1)))) (c' := (.d (.st [(.int .i64 (w64 (s5.2.1 + r25.1))), (.int .i64 (w64 (s5.2.2.1 + (w64 ((1 : Int) + r24.1))))), (.int .i64 (w64 (s5.2.2.2.1 + (w64 ((w64 ((1 : Int) + r24.1)) + r26.1))))), (.int .i64 (w64 ((1 : Int) + r27.1))), (.int .i64 (w64 ((1 : Int) + r28.1))), (.int .i64 (w64 ((60 : Int) + r29.1)))]))) tyS3 (SetAt.dst1 (f := (.int .i64 s5.2.2.2.2.2.2.1)) (f' := (.int .i64 (w64 ((60 : Int) + r29.1)))) (by rfl) (by rfl) (SetAt.here _ _) (by rfl) (by rfl) (by first | rfl | omega)) (by rfl) (by rfl) (by simp) rfl (ot 53 (.ptr 1004 5 [5])) (ot 50 (i6 (w64 ((60 : Int) + r29.1)))))
        (OpJs.nil)))))))))))))))) (by rfl) (by rfl) ?_
      refine seqQ_n ?_
      refine AWp.ghost (mp [] [(0, (.ptr 0 0 [])), (3, (.sref 3003 6 0 s5.2.2.2.2.2.2.2.1.length)), (4, (.ptr 1004 0 [])), (5, (i6 s5.1))] [(0, some (.box 60 (.d (e_exchangepointmill_Deck r29.2)))), (1004, some (.box 54 (.d (.st [(.int .i64 (w64 (s5.2.1 + r25.1))), (.int .i64 (w64 (s5.2.2.1 + (w64 ((1 : Int) + r24.1))))), (.int .i64 (w64 (s5.2.2.2.1 + (w64 ((w64 ((1 : Int) + r24.1)) + r26.1))))), (.int .i64 (w64 ((1 : Int) + r27.1))), (.int .i64 (w64 ((1 : Int) + r28.1))), (.int .i64 (w64 ((60 : Int) + r29.1)))])))), (3003, some (we_api_Sample_54_6 s5.2.2.2.2.2.2.2.1))] hB) ?_
      obtain ⟨hc30, h⟩ := chk_some h
      refine rg (c (mv hN (q 3)) rfl (c (lb hN 54 _ _ tyS54 (At.here _) (q 4)) rfl (c (OpJ.buildSlice Try.underlying33 tyS54 tyZD54 (by rfl) (by decide) (by decide) (Opds.cons (q 55) Opds.nil) (by kernel_rfl) (es := ([(.st [(.int .i64 (w64 (s5.2.1 + r25.1))), (.int .i64 (w64 (s5.2.2.1 + (w64 ((1 : Int) + r24.1))))), (.int .i64 (w64 (s5.2.2.2.1 + (w64 ((w64 ((1 : Int) + r24.1)) + r26.1))))), (.int .i64 (w64 ((1 : Int) + r27.1))), (.int .i64 (w64 ((1 : Int) + r28.1))), (.int .i64 (w64 ((60 : Int) + r29.1)))])] : List D)) (by rfl) (by rfl) (by kernel_rfl) (by simp) (L rfl)) rfl (cg (OpJ.append hB Try.underlying33 tyE54 (nm := 1057) (by decide) (es := s5.2.2.2.2.2.2.2.1.map e_api_Sample) (ys := ([(api_Sample.mk (w64 (s5.2.1 + r25.1)) (w64 (s5.2.2.1 + (w64 ((1 : Int) + r24.1)))) (w64 (s5.2.2.2.1 + (w64 ((w64 ((1 : Int) + r24.1)) + r26.1)))) (w64 ((1 : Int) + r27.1)) (w64 ((1 : Int) + r28.1)) (w64 ((60 : Int) + r29.1)))] : List api_Sample).map e_api_Sample) (es' := (s5.2.2.2.2.2.2.2.1 ++ ([(api_Sample.mk (w64 (s5.2.1 + r25.1)) (w64 (s5.2.2.1 + (w64 ((1 : Int) + r24.1)))) (w64 (s5.2.2.2.1 + (w64 ((w64 ((1 : Int) + r24.1)) + r26.1)))) (w64 ((1 : Int) + r27.1)) (w64 ((1 : Int) + r28.1)) (w64 ((60 : Int) + r29.1)))] : List api_Sample)).map e_api_Sample) (len := (s5.2.2.2.2.2.2.2.1 ++ ([(api_Sample.mk (w64 (s5.2.1 + r25.1)) (w64 (s5.2.2.1 + (w64 ((1 : Int) + r24.1)))) (w64 (s5.2.2.2.1 + (w64 ((w64 ((1 : Int) + r24.1)) + r26.1)))) (w64 ((1 : Int) + r27.1)) (w64 ((1 : Int) + r28.1)) (w64 ((60 : Int) + r29.1)))] : List api_Sample)).length) (by simp) (by simp) (map_sz (f := e_api_Sample) (fun _ => rfl)) (by rw [List.length_map]; exact lim_mulN hc30 (by decide)) (by rw [List.length_map]; exact lim_leN hc30) (L rfl) (by simp) (q 54) (q 56)) rfl (c (OpJ.assign (L rfl) (q 57)) rfl cn))))) ?_
      refine blkQ_n ?_
      refine seqQ_n ?_
      refine gh [(0, _), (3, _), (4, _), (5, _)] [(0, some _), (1004, some _), (1057, some _)] hB rfl rfl (by rfl) ?_
      refine rg (c (mv hN (q 5)) rfl (c (sub6 (L rfl) (q 18) (Opd.int .i64 (1))) rfl (c (OpJ.assign (L rfl) (q 19)) rfl cn))) ?_
      obtain rfl := Option.some.inj h
      exact ⟨rfl, (Mat.trans (mp [] [(0, (.ptr 0 0 [])), (3, (.sref 1057 6 0 ((s5.2.2.2.2.2.2.2.1 ++ ([(api_Sample.mk (w64 (s5.2.1 + r25.1)) (w64 (s5.2.2.1 + (w64 ((1 : Int) + r24.1)))) (w64 (s5.2.2.2.1 + (w64 ((w64 ((1 : Int) + r24.1)) + r26.1)))) (w64 ((1 : Int) + r27.1)) (w64 ((1 : Int) + r28.1)) (w64 ((60 : Int) + r29.1)))] : List api_Sample)).length))), (4, (.ptr 1004 0 [])), (5, (i6 (w64 (s5.1 - (1 : Int)))))] [(0, some (.box 60 (.d (e_exchangepointmill_Deck r29.2)))), (1004, some (.box 54 (.d (.st [(.int .i64 (w64 (s5.2.1 + r25.1))), (.int .i64 (w64 (s5.2.2.1 + (w64 ((1 : Int) + r24.1))))), (.int .i64 (w64 (s5.2.2.2.1 + (w64 ((w64 ((1 : Int) + r24.1)) + r26.1))))), (.int .i64 (w64 ((1 : Int) + r27.1))), (.int .i64 (w64 ((1 : Int) + r28.1))), (.int .i64 (w64 ((60 : Int) + r29.1)))])))), (1057, some (we_api_Sample_54_6 (s5.2.2.2.2.2.2.2.1 ++ ([(api_Sample.mk (w64 (s5.2.1 + r25.1)) (w64 (s5.2.2.1 + (w64 ((1 : Int) + r24.1)))) (w64 (s5.2.2.2.1 + (w64 ((w64 ((1 : Int) + r24.1)) + r26.1)))) (w64 ((1 : Int) + r27.1)) (w64 ((1 : Int) + r28.1)) (w64 ((60 : Int) + r29.1)))] : List api_Sample))))] hB) (mp [(3003, 1057)] _ _ hB))⟩
    · replace h := ite_f hg23 h
      refine AWp.exit ?_
      refine seqQ_e ?_
      obtain rfl := Option.some.inj h
      exact ⟨(fun hc => by cases hc), rfl, (mp [] _ _ hB)⟩
  · obtain ⟨rfl, hmat⟩ := hR
    refine blkQ_hit ?_
    refine seqQ_n ?_
    refine AWp.ghost hmat ?_
    refine sr (c (mv hN (q 3)) rfl (c (OpJ.assign (L rfl) (q 58)) rfl cn)) ?_
    refine gh [(2, _)] [(0, some _), (3003, some _)] hB rfl rfl (by rfl) ?_
    refine AWp.ret ?_
    obtain rfl := Option.some.inj h
    exact ⟨.inl rfl, _, _, (Mat.trans (Mat.freezeP (n := 3003) (e := 54) (sz := 6) (es := p22.2.map e_api_Sample) (Ts := [(2, (qe_api_Sample_6 p22.2))]) (Bs := []) (by rfl) (TwT.cons (x := (.sref 3003 6 0 p22.2.length)) (by rfl) (FrzL.all (by first | rfl | (simp; done) | (simp; omega))) TwT.nil) TwB.nil) (mp [] [(2, (qe_api_Sample_6 p22.2))] [(0, some (.box 60 (.d (e_exchangepointmill_Deck p22.1))))] hB)), [(qe_api_Sample_6 p22.2)], (Res.tmp (by rfl) (by rfl) Res.nil), rfl, by rfl, by rfl, by rfl⟩

noncomputable def exchangepointref37_Valid_L0 (a0 : (List api_Sample)) (s1 : Int) : Option (((Unit) ⊕ (Unit)) ⊕ (Int)) :=
  (if (decide (s1 < (a0.length : Int))) = true then
  (idx a0 s1).bind fun x23 =>
  jn (fun m26 : Bool =>
  (if (!m26) = true then
  some (.inl (.inl ()))
  else
  some (.inr (w64 (s1 + (1 : Int)))))) (fun j27 =>
  (if (decide ((0 : Int) < s1)) = true then
  (idx a0 (w64 (s1 - (1 : Int)))).bind fun x30 =>
  j27 (((((((((((((((decide ((0 : Int) ≤ x23.fTick)) && (decide (x23.fTick ≤ (1073741824 : Int)))) && (decide ((0 : Int) ≤ x23.fSeq))) && (decide (x23.fSeq ≤ (1099511627776 : Int)))) && (decide ((0 : Int) ≤ x23.fPool))) && (decide (x23.fPool ≤ (1099511627776 : Int)))) && (decide ((1 : Int) ≤ x23.fIn))) && (decide (x23.fIn ≤ (999 : Int)))) && (decide ((1 : Int) ≤ x23.fOut))) && (decide (x23.fOut ≤ (999 : Int)))) && (decide ((0 : Int) ≤ x23.fBytes))) && (decide (x23.fBytes ≤ (65535 : Int)))) && (decide (x30.fSeq < x23.fSeq))) && (decide ((w64 (x23.fSeq - x30.fSeq)) ≤ (w64 (x23.fPool - x30.fPool))))) && (decide (x30.fTick ≤ x23.fTick)))
  else
  j27 ((((((((((((decide ((0 : Int) ≤ x23.fTick)) && (decide (x23.fTick ≤ (1073741824 : Int)))) && (decide ((0 : Int) ≤ x23.fSeq))) && (decide (x23.fSeq ≤ (1099511627776 : Int)))) && (decide ((0 : Int) ≤ x23.fPool))) && (decide (x23.fPool ≤ (1099511627776 : Int)))) && (decide ((1 : Int) ≤ x23.fIn))) && (decide (x23.fIn ≤ (999 : Int)))) && (decide ((1 : Int) ≤ x23.fOut))) && (decide (x23.fOut ≤ (999 : Int)))) && (decide ((0 : Int) ≤ x23.fBytes))) && (decide (x23.fBytes ≤ (65535 : Int))))))
  else
  some (.inl (.inr ())))
noncomputable def exchangepointref37_Valid (a0 : (List api_Sample)) : Option (Bool) :=
  (loop (exchangepointref37_Valid_L0 a0) (0 : Int)).bind fun x31 => match x31 with
  | (.inl _) =>
    some false
  | (.inr _) =>
    some (decide ((a0.length : Int) ≤ (1000 : Int)))
set_option maxHeartbeats 4000000 in
set_option maxRecDepth 100000 in
theorem exchangepointref37_Valid_ac (a0 : (List api_Sample)) (r : Bool) (h : exchangepointref37_Valid a0 = some r) : AC Try.prog 31 [(.d (.list 6 (a0.map e_api_Sample)))] [] (.d (.bool r)) [] := by
  refine AC.of_code2 Try.func31 rfl rfl (Nat.le_of_ble_eq_true (by rfl)) fun B hB hN => ?_
  have L {d : Nat} (h : Nat.blt d Try.f31.ntmps = true) : d < B.N := ltN hN h
  delta exchangepointref37_Valid at h
  refine sr (c (OpJ.assign (L rfl) (Opd.bool false)) rfl cn) ?_
  refine gh [(0, _)] [] hB rfl rfl (by rfl) ?_
  refine AWp.seq ?_
  refine sr (c (mv hN (q 0)) rfl (c (OpJ.val (v' := (i6 (a0.length : Int))) (by simp) (OpJ.lenD Try.underlying33 (L rfl) (q 7))) rfl (c (mv hN (Opd.int .i64 (0))) rfl cn))) ?_
  refine gh [(0, _), (7, _), (8, _), (9, _)] [] hB rfl rfl (by rfl) ?_
  refine AWp.block ?_
  obtain ⟨x31, hx32, h⟩ := bindS h
  refine lg (exchangepointref37_Valid_L0 a0) (fun s1 : Int => ([(0, (qe_api_Sample_6 a0)), (7, (qe_api_Sample_6 a0)), (8, (i6 (a0.length : Int))), (9, (i6 s1))] : EL)) (fun s1 : Int => ([] : OL)) (fun (x : (Unit) ⊕ (Unit)) e E' O' => match x with | (.inl _p) => e = .ret ∧ Mat B E' O' ([(2, (bo false))] : EL) ([] : OL) | (.inr _p) => e = .exit 0 ∧ Mat B E' O' ([(0, (qe_api_Sample_6 a0))] : EL) ([] : OL)) hx32 (mp [] _ _ hB) (fun s1 y h => ?_) (fun e E' O' hR => ?_)
  · unfold exchangepointref37_Valid_L0 at h
    refine sr (c (OpJ.lss (L rfl) (q 9) (q 8)) rfl cn) ?_
    refine gh [(0, _), (7, _), (8, _), (9, _), (10, _)] [] hB rfl rfl (by rfl) ?_
    refine AWp.seq ?_
    refine AWp.cond rfl (fun hg22 => ?_) (fun hg22 => ?_)
    · replace h := ite_t hg22 h
      refine AWp.skip ?_
      refine seqQ_n ?_
      refine AWp.seq ?_
      refine AWp.block ?_
      obtain ⟨x23, hx23, h⟩ := bindS h
      refine sr (c (mv hN (q 9)) rfl (c (OpJ.indexD Try.underlying33 tyS54 (idx_some hx23).1 (get_map e_api_Sample (idx_some hx23).2) (L rfl) (q 7) (q 9)) rfl (c (OpJ.loadD tyS54 (by rfl) (by rfl) (L rfl) (q 12)) rfl (cg (OpJ.alloc hB tyZ54 (nm := 1004) (by decide) (L rfl)) rfl (c (OpJ.assign (L rfl) (q 11)) rfl (cg (OpJ.storeB tyS54 (SetAt.here _ _) (by rfl) (by rfl) (by simp) rfl (q 4) (q 13)) rfl cn)))))) ?_
      refine gh [(0, _), (3, _), (4, _), (7, _), (8, _), (9, _)] [(1004, some _)] hB rfl rfl (by rfl) ?_
      refine sr (c (ov (.ptr 1004 0 [0]) (fp hN Try.underlying54 0 tyS3 _ (q 4))) rfl (c (lb hN 54 _ _ tyS3 (ad _) (q 14)) rfl (c (OpJ.geq (L rfl) (q 15) (Opd.int .i64 (0))) rfl (c (mv hN (q 16)) rfl (c (oq hN 17 (ov (.ptr 1004 0 [0]) (fp hN Try.underlying54 0 tyS3 _ (q 4))) (OptL.keep (by rfl) OptL.nil) (GuardV.plain _)) rfl (c (oq hN 17 (lb hN 54 _ _ tyS3 (ad _) (q 18)) (OptL.opt OptL.nil) (GuardV.plain _)) rfl (c (oq hN 17 (OpJ.leq (L rfl) (q 19) (Opd.int .i64 (1073741824))) (OptL.opt OptL.nil) (GuardV.plain _)) rfl (c (OpJ.pickAnd rfl (L rfl) (q 17) (q 20)) rfl (c (mv hN (q 21)) rfl (c (oq hN 22 (ov (.ptr 1004 1 [1]) (fp hN Try.underlying54 1 tyS3 _ (q 4))) (OptL.keep (by rfl) OptL.nil) (GuardV.plain _)) rfl (c (oq hN 22 (lb hN 54 _ _ tyS3 (ad _) (q 23)) (OptL.opt OptL.nil) (GuardV.plain _)) rfl (c (oq hN 22 (OpJ.geq (L rfl) (q 24) (Opd.int .i64 (0))) (OptL.opt OptL.nil) (GuardV.plain _)) rfl (c (OpJ.pickAnd rfl (L rfl) (q 22) (q 25)) rfl (c (mv hN (q 26)) rfl (c (oq hN 27 (ov (.ptr 1004 1 [1]) (fp hN Try.underlying54 1 tyS3 _ (q 4))) (OptL.keep (by rfl) OptL.nil) (GuardV.plain _)) rfl (c (oq hN 27 (lb hN 54 _ _ tyS3 (ad _) (q 28)) (OptL.opt OptL.nil) (GuardV.plain _)) rfl (c (oq hN 27 (OpJ.leq (L rfl) (q 29) (Opd.int .i64 (1099511627776))) (OptL.opt OptL.nil) (GuardV.plain _)) rfl (c (OpJ.pickAnd rfl (L rfl) (q 27) (q 30)) rfl (c (mv hN (q 31)) rfl (c (oq hN 32 (ov (.ptr 1004 2 [2]) (fp hN Try.underlying54 2 tyS3 _ (q 4))) (OptL.keep (by rfl) OptL.nil) (GuardV.plain _)) rfl (c (oq hN 32 (lb hN 54 _ _ tyS3 (ad _) (q 33)) (OptL.opt OptL.nil) (GuardV.plain _)) rfl (c (oq hN 32 (OpJ.geq (L rfl) (q 34) (Opd.int .i64 (0))) (OptL.opt OptL.nil) (GuardV.plain _)) rfl (c (OpJ.pickAnd rfl (L rfl) (q 32) (q 35)) rfl (c (mv hN (q 36)) rfl (c (oq hN 37 (ov (.ptr 1004 2 [2]) (fp hN Try.underlying54 2 tyS3 _ (q 4))) (OptL.keep (by rfl) OptL.nil) (GuardV.plain _)) rfl (c (oq hN 37 (lb hN 54 _ _ tyS3 (ad _) (q 38)) (OptL.opt OptL.nil) (GuardV.plain _)) rfl (c (oq hN 37 (OpJ.leq (L rfl) (q 39) (Opd.int .i64 (1099511627776))) (OptL.opt OptL.nil) (GuardV.plain _)) rfl (c (OpJ.pickAnd rfl (L rfl) (q 37) (q 40)) rfl (c (mv hN (q 41)) rfl (c (oq hN 42 (ov (.ptr 1004 3 [3]) (fp hN Try.underlying54 3 tyS3 _ (q 4))) (OptL.keep (by rfl) OptL.nil) (GuardV.plain _)) rfl (c (oq hN 42 (lb hN 54 _ _ tyS3 (ad _) (q 43)) (OptL.opt OptL.nil) (GuardV.plain _)) rfl (c (oq hN 42 (OpJ.geq (L rfl) (q 44) (Opd.int .i64 (1))) (OptL.opt OptL.nil) (GuardV.plain _)) rfl (c (OpJ.pickAnd rfl (L rfl) (q 42) (q 45)) rfl (c (mv hN (q 46)) rfl (c (oq hN 47 (ov (.ptr 1004 3 [3]) (fp hN Try.underlying54 3 tyS3 _ (q 4))) (OptL.keep (by rfl) OptL.nil) (GuardV.plain _)) rfl (c (oq hN 47 (lb hN 54 _ _ tyS3 (ad _) (q 48)) (OptL.opt OptL.nil) (GuardV.plain _)) rfl (c (oq hN 47 (OpJ.leq (L rfl) (q 49) (Opd.int .i64 (999))) (OptL.opt OptL.nil) (GuardV.plain _)) rfl (c (OpJ.pickAnd rfl (L rfl) (q 47) (q 50)) rfl (c (mv hN (q 51)) rfl (c (oq hN 52 (ov (.ptr 1004 4 [4]) (fp hN Try.underlying54 4 tyS3 _ (q 4))) (OptL.keep (by rfl) OptL.nil) (GuardV.plain _)) rfl (c (oq hN 52 (lb hN 54 _ _ tyS3 (ad _) (q 53)) (OptL.opt OptL.nil) (GuardV.plain _)) rfl (c (oq hN 52 (OpJ.geq (L rfl) (q 54) (Opd.int .i64 (1))) (OptL.opt OptL.nil) (GuardV.plain _)) rfl (c (OpJ.pickAnd rfl (L rfl) (q 52) (q 55)) rfl (c (mv hN (q 56)) rfl (c (oq hN 57 (ov (.ptr 1004 4 [4]) (fp hN Try.underlying54 4 tyS3 _ (q 4))) (OptL.keep (by rfl) OptL.nil) (GuardV.plain _)) rfl (c (oq hN 57 (lb hN 54 _ _ tyS3 (ad _) (q 58)) (OptL.opt OptL.nil) (GuardV.plain _)) rfl (c (oq hN 57 (OpJ.leq (L rfl) (q 59) (Opd.int .i64 (999))) (OptL.opt OptL.nil) (GuardV.plain _)) rfl (c (OpJ.pickAnd rfl (L rfl) (q 57) (q 60)) rfl (c (mv hN (q 61)) rfl (c (oq hN 62 (ov (.ptr 1004 5 [5]) (fp hN Try.underlying54 5 tyS3 _ (q 4))) (OptL.keep (by rfl) OptL.nil) (GuardV.plain _)) rfl (c (oq hN 62 (lb hN 54 _ _ tyS3 (ad _) (q 63)) (OptL.opt OptL.nil) (GuardV.plain _)) rfl (c (oq hN 62 (OpJ.geq (L rfl) (q 64) (Opd.int .i64 (0))) (OptL.opt OptL.nil) (GuardV.plain _)) rfl (c (OpJ.pickAnd rfl (L rfl) (q 62) (q 65)) rfl (c (mv hN (q 66)) rfl (c (oq hN 67 (ov (.ptr 1004 5 [5]) (fp hN Try.underlying54 5 tyS3 _ (q 4))) (OptL.keep (by rfl) OptL.nil) (GuardV.plain _)) rfl (c (oq hN 67 (lb hN 54 _ _ tyS3 (ad _) (q 68)) (OptL.opt OptL.nil) (GuardV.plain _)) rfl (c (oq hN 67 (OpJ.leq (L rfl) (q 69) (Opd.int .i64 (65535))) (OptL.opt OptL.nil) (GuardV.plain _)) rfl (c (OpJ.pickAnd rfl (L rfl) (q 67) (q 70)) rfl (c (OpJ.assign (L rfl) (q 71)) rfl cn))))))))))))))))))))))))))))))))))))))))))))))))))))))))))) ?_
      refine gh [(0, _), (3, _), (4, _), (5, _), (7, _), (8, _), (9, _)] [(1004, some _)] hB rfl rfl (by rfl) ?_
      refine AWp.seq ?_
      refine sr (c (mv hN (q 3)) rfl (c (OpJ.gtr (L rfl) (q 72) (Opd.int .i64 (0))) rfl cn)) ?_
      refine gh [(0, _), (3, _), (4, _), (5, _), (7, _), (8, _), (9, _), (73, _)] [(1004, some _)] hB rfl rfl (by rfl) ?_
      refine AWp.cut h (fun m26 : Bool => ([(0, (qe_api_Sample_6 a0)), (5, (bo m26)), (7, (qe_api_Sample_6 a0)), (8, (i6 (a0.length : Int))), (9, (i6 s1))] : EL)) (fun m26 : Bool => ([] : OL)) (fun m26 h E' O' hmat => ?_) (fun j27 hjj27 h => ?_)
      · refine seqQ_n ?_
        refine AWp.ghost hmat ?_
        refine sr (c (mv hN (q 5)) rfl (c (OpJ.not (L rfl) (q 107)) rfl cn)) ?_
        refine gh [(0, _), (7, _), (8, _), (9, _), (108, _)] [] hB rfl rfl (by rfl) ?_
        refine AWp.cond rfl (fun hg28 => ?_) (fun hg28 => ?_)
        · replace h := ite_t hg28 h
          refine sr (c (OpJ.assign (L rfl) (Opd.bool false)) rfl cn) ?_
          refine gh [(2, _)] [] hB rfl rfl (by rfl) ?_
          refine AWp.ret ?_
          refine blkQ_r ?_
          refine seqQ_r ?_
          obtain rfl := Option.some.inj h
          exact ⟨(fun hc => by cases hc), rfl, (mp [] _ _ hB)⟩
        · replace h := ite_f hg28 h
          refine AWp.skip ?_
          refine blkQ_n ?_
          refine seqQ_n ?_
          refine rg (c (add6 (L rfl) (q 9) (Opd.int .i64 (1))) rfl (c (mv hN (q 109)) rfl cn)) ?_
          obtain rfl := Option.some.inj h
          exact ⟨rfl, (Mat.trans (mp [] [(0, (qe_api_Sample_6 a0)), (7, (qe_api_Sample_6 a0)), (8, (i6 (a0.length : Int))), (9, (i6 (w64 (s1 + (1 : Int)))))] [] hB) (mp [] _ _ hB))⟩
      · refine AWp.cond rfl (fun hg29 => ?_) (fun hg29 => ?_)
        · replace h := ite_t hg29 h
          obtain ⟨x30, hx30, h⟩ := bindS h
          refine sr (c (mv hN (q 0)) rfl (c (mv hN (q 3)) rfl (c (sub6 (L rfl) (q 75) (Opd.int .i64 (1))) rfl (c (OpJ.indexD Try.underlying33 tyS54 (idx_some hx30).1 (get_map e_api_Sample (idx_some hx30).2) (L rfl) (q 74) (q 76)) rfl (c (OpJ.loadD tyS54 (by rfl) (by rfl) (L rfl) (q 77)) rfl (cg (OpJ.alloc hB tyZ54 (nm := 1006) (by decide) (L rfl)) rfl (cg (OpJ.storeB tyS54 (SetAt.here _ _) (by rfl) (by rfl) (by simp) rfl (q 6) (q 78)) rfl cn))))))) ?_
          refine gh [(0, _), (4, _), (5, _), (6, _), (7, _), (8, _), (9, _)] [(1004, some _), (1006, some _)] hB rfl rfl (by rfl) ?_
          refine rg (c (mv hN (q 5)) rfl (c (mv hN (q 79)) rfl (c (oq hN 80 (ov (.ptr 1004 1 [1]) (fp hN Try.underlying54 1 tyS3 _ (q 4))) (OptL.keep (by rfl) OptL.nil) (GuardV.plain _)) rfl (c (oq hN 80 (lb hN 54 _ _ tyS3 (ad _) (q 81)) (OptL.opt OptL.nil) (GuardV.plain _)) rfl (c (oq hN 80 (ov (.ptr 1006 1 [1]) (fp hN Try.underlying54 1 tyS3 _ (q 6))) (OptL.keep (by rfl) OptL.nil) (GuardV.plain _)) rfl (c (oq hN 80 (lb hN 54 _ _ tyS3 (ad _) (q 83)) (OptL.opt OptL.nil) (GuardV.plain _)) rfl (c (oq hN 80 (OpJ.gtr (L rfl) (q 82) (q 84)) (OptL.opt (OptL.opt OptL.nil)) (GuardV.plain _)) rfl (c (OpJ.pickAnd rfl (L rfl) (q 80) (q 85)) rfl (c (mv hN (q 86)) rfl (c (oq hN 87 (ov (.ptr 1004 2 [2]) (fp hN Try.underlying54 2 tyS3 _ (q 4))) (OptL.keep (by rfl) OptL.nil) (GuardV.plain _)) rfl (c (oq hN 87 (lb hN 54 _ _ tyS3 (ad _) (q 88)) (OptL.opt OptL.nil) (GuardV.plain _)) rfl (c (oq hN 87 (ov (.ptr 1006 2 [2]) (fp hN Try.underlying54 2 tyS3 _ (q 6))) (OptL.keep (by rfl) OptL.nil) (GuardV.plain _)) rfl (c (oq hN 87 (lb hN 54 _ _ tyS3 (ad _) (q 90)) (OptL.opt OptL.nil) (GuardV.plain _)) rfl (c (oq hN 87 (sub6 (L rfl) (q 89) (q 91)) (OptL.opt (OptL.opt OptL.nil)) (GuardV.plain _)) rfl (c (oq hN 87 (ov (.ptr 1004 1 [1]) (fp hN Try.underlying54 1 tyS3 _ (q 4))) (OptL.keep (by rfl) OptL.nil) (GuardV.plain _)) rfl (c (oq hN 87 (lb hN 54 _ _ tyS3 (ad _) (q 93)) (OptL.opt OptL.nil) (GuardV.plain _)) rfl (c (oq hN 87 (ov (.ptr 1006 1 [1]) (fp hN Try.underlying54 1 tyS3 _ (q 6))) (OptL.keep (by rfl) OptL.nil) (GuardV.plain _)) rfl (c (oq hN 87 (lb hN 54 _ _ tyS3 (ad _) (q 95)) (OptL.opt OptL.nil) (GuardV.plain _)) rfl (c (oq hN 87 (sub6 (L rfl) (q 94) (q 96)) (OptL.opt (OptL.opt OptL.nil)) (GuardV.plain _)) rfl (c (oq hN 87 (OpJ.geq (L rfl) (q 92) (q 97)) (OptL.opt (OptL.opt OptL.nil)) (GuardV.plain _)) rfl (c (OpJ.pickAnd rfl (L rfl) (q 87) (q 98)) rfl (c (mv hN (q 99)) rfl (c (oq hN 100 (ov (.ptr 1004 0 [0]) (fp hN Try.underlying54 0 tyS3 _ (q 4))) (OptL.keep (by rfl) OptL.nil) (GuardV.plain _)) rfl (c (oq hN 100 (lb hN 54 _ _ tyS3 (ad _) (q 101)) (OptL.opt OptL.nil) (GuardV.plain _)) rfl (c (oq hN 100 (ov (.ptr 1006 0 [0]) (fp hN Try.underlying54 0 tyS3 _ (q 6))) (OptL.keep (by rfl) OptL.nil) (GuardV.plain _)) rfl (c (oq hN 100 (lb hN 54 _ _ tyS3 (ad _) (q 103)) (OptL.opt OptL.nil) (GuardV.plain _)) rfl (c (oq hN 100 (OpJ.geq (L rfl) (q 102) (q 104)) (OptL.opt (OptL.opt OptL.nil)) (GuardV.plain _)) rfl (c (OpJ.pickAnd rfl (L rfl) (q 100) (q 105)) rfl (c (OpJ.assign (L rfl) (q 106)) rfl cn))))))))))))))))))))))))))))) ?_
          exact hjj27 _ h _ _ (Mat.trans (mp [] [(0, (qe_api_Sample_6 a0)), (5, (bo (((((((((((((((decide ((0 : Int) ≤ x23.fTick)) && (decide (x23.fTick ≤ (1073741824 : Int)))) && (decide ((0 : Int) ≤ x23.fSeq))) && (decide (x23.fSeq ≤ (1099511627776 : Int)))) && (decide ((0 : Int) ≤ x23.fPool))) && (decide (x23.fPool ≤ (1099511627776 : Int)))) && (decide ((1 : Int) ≤ x23.fIn))) && (decide (x23.fIn ≤ (999 : Int)))) && (decide ((1 : Int) ≤ x23.fOut))) && (decide (x23.fOut ≤ (999 : Int)))) && (decide ((0 : Int) ≤ x23.fBytes))) && (decide (x23.fBytes ≤ (65535 : Int)))) && (decide (x30.fSeq < x23.fSeq))) && (decide ((w64 (x23.fSeq - x30.fSeq)) ≤ (w64 (x23.fPool - x30.fPool))))) && (decide (x30.fTick ≤ x23.fTick))))), (7, (qe_api_Sample_6 a0)), (8, (i6 (a0.length : Int))), (9, (i6 s1))] [] hB) (mp [] _ _ hB))
        · replace h := ite_f hg29 h
          refine AWp.skip ?_
          exact hjj27 _ h _ _ (mp [] _ _ hB)
    · replace h := ite_f hg22 h
      refine AWp.exit ?_
      refine seqQ_e ?_
      obtain rfl := Option.some.inj h
      exact ⟨(fun hc => by cases hc), rfl, (mp [] _ _ hB)⟩
  · rcases x31 with _ | _
    · obtain ⟨rfl, hmat⟩ := hR
      refine blkQ_r ?_
      refine seqQ_r ?_
      obtain rfl := Option.some.inj h
      exact ⟨.inl rfl, _, _, (Mat.trans hmat (mp [] [(2, (bo false))] [] hB)), [(bo false)], (Res.tmp (by rfl) (by rfl) Res.nil), rfl, by rfl, by rfl, by rfl⟩
    · obtain ⟨rfl, hmat⟩ := hR
      refine blkQ_hit ?_
      refine seqQ_n ?_
      refine AWp.ghost hmat ?_
      refine sr (c (mv hN (q 0)) rfl (c (OpJ.val (v' := (i6 (a0.length : Int))) (by simp) (OpJ.lenD Try.underlying33 (L rfl) (q 110))) rfl (c (OpJ.leq (L rfl) (q 111) (Opd.int .i64 (1000))) rfl (c (OpJ.assign (L rfl) (q 112)) rfl cn)))) ?_
      refine gh [(2, _)] [] hB rfl rfl (by rfl) ?_
      refine AWp.ret ?_
      obtain rfl := Option.some.inj h
      exact ⟨.inl rfl, _, _, (kp [(2, _)] [] hB rfl rfl (by rfl)), [(bo (decide ((a0.length : Int) ≤ (1000 : Int))))], (Res.tmp (by rfl) (by rfl) Res.nil), rfl, by rfl, by rfl, by rfl⟩

noncomputable def exchangepointref38_owner_L0 (a0 : (List api_Rule)) (a1 : Int) (s1 : Int) : Option (((Int) ⊕ (Unit)) ⊕ (Int)) :=
  (if (decide (s1 < (a0.length : Int))) = true then
  (idx a0 s1).bind fun x11 =>
  (if (x11.fPort == a1) = true then
  some (.inl (.inl x11.fASN))
  else
  some (.inr (w64 (s1 + (1 : Int)))))
  else
  some (.inl (.inr ())))
noncomputable def exchangepointref38_owner (a0 : (List api_Rule)) (a1 : Int) : Option (Int × Bool) :=
  (loop (exchangepointref38_owner_L0 a0 a1) (0 : Int)).bind fun x13 => match x13 with
  | (.inl p8) =>
    some (p8, true)
  | (.inr _) =>
    some ((0 : Int), false)
set_option maxHeartbeats 4000000 in
set_option maxRecDepth 100000 in
theorem exchangepointref38_owner_ac (a0 : (List api_Rule)) (a1 : Int) (r : Int × Bool) (h : exchangepointref38_owner a0 a1 = some r) : AC Try.prog 32 [(.d (.list 8 (a0.map e_api_Rule))), (.d (.int .i64 a1))] [] (.tup [(.d (.int .i64 r.1)), (.d (.bool r.2))]) [] := by
  refine AC.of_code2 Try.func32 rfl rfl (Nat.le_of_ble_eq_true (by rfl)) fun B hB hN => ?_
  have L {d : Nat} (h : Nat.blt d Try.f32.ntmps = true) : d < B.N := ltN hN h
  delta exchangepointref38_owner at h
  refine sr (c (OpJ.assign (L rfl) (Opd.int .i64 (0))) rfl (c (OpJ.assign (L rfl) (Opd.bool false)) rfl cn)) ?_
  refine gh [(0, _), (1, _)] [] hB rfl rfl (by rfl) ?_
  refine AWp.seq ?_
  refine sr (c (mv hN (q 0)) rfl (c (OpJ.val (v' := (i6 (a0.length : Int))) (by simp) (OpJ.lenD Try.underlying39 (L rfl) (q 8))) rfl (c (mv hN (Opd.int .i64 (0))) rfl cn))) ?_
  refine gh [(1, _), (8, _), (9, _), (10, _)] [] hB rfl rfl (by rfl) ?_
  refine AWp.block ?_
  obtain ⟨x13, hx14, h⟩ := bindS h
  refine lg (exchangepointref38_owner_L0 a0 a1) (fun s1 : Int => ([(1, (i6 a1)), (8, (qe_api_Rule_8 a0)), (9, (i6 (a0.length : Int))), (10, (i6 s1))] : EL)) (fun s1 : Int => ([] : OL)) (fun (x : (Int) ⊕ (Unit)) e E' O' => match x with | (.inl p8) => e = .ret ∧ Mat B E' O' ([(4, (i6 p8)), (5, (bo true))] : EL) ([] : OL) | (.inr _p) => e = .exit 0 ∧ Mat B E' O' ([] : EL) ([] : OL)) hx14 (mp [] _ _ hB) (fun s1 y h => ?_) (fun e E' O' hR => ?_)
  · unfold exchangepointref38_owner_L0 at h
    refine sr (c (OpJ.lss (L rfl) (q 10) (q 9)) rfl cn) ?_
    refine gh [(1, _), (8, _), (9, _), (10, _), (11, _)] [] hB rfl rfl (by rfl) ?_
    refine AWp.seq ?_
    refine AWp.cond rfl (fun hg10 => ?_) (fun hg10 => ?_)
    · replace h := ite_t hg10 h
      refine AWp.skip ?_
      refine seqQ_n ?_
      refine AWp.seq ?_
      refine AWp.block ?_
      obtain ⟨x11, hx11, h⟩ := bindS h
      refine sr (c (OpJ.indexD Try.underlying39 tyS70 (idx_some hx11).1 (get_map e_api_Rule (idx_some hx11).2) (L rfl) (q 8) (q 10)) rfl (c (OpJ.loadD tyS70 (by rfl) (by rfl) (L rfl) (q 12)) rfl (cg (OpJ.alloc hB tyZ70 (nm := 1007) (by decide) (L rfl)) rfl (cg (OpJ.storeB tyS70 (SetAt.here _ _) (by rfl) (by rfl) (by simp) rfl (q 7) (q 13)) rfl cn)))) ?_
      refine gh [(1, _), (7, _), (8, _), (9, _), (10, _)] [(1007, some _)] hB rfl rfl (by rfl) ?_
      refine sr (c (ov (.ptr 1007 0 [0]) (fp hN Try.underlying70 0 tyS3 _ (q 7))) rfl (c (lb hN 70 _ _ tyS3 (ad _) (q 14)) rfl (c (mv hN (q 1)) rfl (c (OpJ.eqlI (L rfl) (q 15) (q 16)) rfl cn)))) ?_
      refine gh [(1, _), (7, _), (8, _), (9, _), (10, _), (17, _)] [(1007, some _)] hB rfl rfl (by rfl) ?_
      refine AWp.cond rfl (fun hg12 => ?_) (fun hg12 => ?_)
      · replace h := ite_t hg12 h
        refine sr (c (ov (.ptr 1007 1 [1]) (fp hN Try.underlying70 1 tyS3 _ (q 7))) rfl (c (lb hN 70 _ _ tyS3 (ad _) (q 18)) rfl (c (OpJ.assign (L rfl) (q 19)) rfl (c (OpJ.assign (L rfl) (Opd.bool true)) rfl cn)))) ?_
        refine gh [(4, _), (5, _)] [] hB rfl rfl (by rfl) ?_
        refine AWp.ret ?_
        refine blkQ_r ?_
        refine seqQ_r ?_
        obtain rfl := Option.some.inj h
        exact ⟨(fun hc => by cases hc), rfl, (mp [] _ _ hB)⟩
      · replace h := ite_f hg12 h
        refine AWp.skip ?_
        refine blkQ_n ?_
        refine seqQ_n ?_
        refine rg (c (add6 (L rfl) (q 10) (Opd.int .i64 (1))) rfl (c (mv hN (q 20)) rfl cn)) ?_
        obtain rfl := Option.some.inj h
        exact ⟨rfl, (Mat.trans (mp [] [(1, (i6 a1)), (8, (qe_api_Rule_8 a0)), (9, (i6 (a0.length : Int))), (10, (i6 (w64 (s1 + (1 : Int)))))] [] hB) (mp [] _ _ hB))⟩
    · replace h := ite_f hg10 h
      refine AWp.exit ?_
      refine seqQ_e ?_
      obtain rfl := Option.some.inj h
      exact ⟨(fun hc => by cases hc), rfl, (mp [] _ _ hB)⟩
  · rcases x13 with p8 | _
    · obtain ⟨rfl, hmat⟩ := hR
      refine blkQ_r ?_
      refine seqQ_r ?_
      obtain rfl := Option.some.inj h
      exact ⟨.inl rfl, _, _, (Mat.trans hmat (mp [] [(4, (i6 p8)), (5, (bo true))] [] hB)), [(i6 p8), (bo true)], (Res.tmp (by rfl) (by rfl) (Res.tmp (by rfl) (by rfl) Res.nil)), rfl, by rfl, by rfl, by rfl⟩
    · obtain ⟨rfl, hmat⟩ := hR
      refine blkQ_hit ?_
      refine seqQ_n ?_
      refine AWp.ghost hmat ?_
      refine sr (c (OpJ.assign (L rfl) (Opd.int .i64 (0))) rfl (c (OpJ.assign (L rfl) (Opd.bool false)) rfl cn)) ?_
      refine gh [(4, _), (5, _)] [] hB rfl rfl (by rfl) ?_
      refine AWp.ret ?_
      obtain rfl := Option.some.inj h
      exact ⟨.inl rfl, _, _, (kp [(4, _), (5, _)] [] hB rfl rfl (by rfl)), [(i6 0), (bo false)], (Res.tmp (by rfl) (by rfl) (Res.tmp (by rfl) (by rfl) Res.nil)), rfl, by rfl, by rfl, by rfl⟩

noncomputable def exchangepointref38_asn (a0 : Int) : Option (Bool) :=
  some ((decide ((1 : Int) ≤ a0)) && (decide (a0 ≤ (4294967295 : Int))))
set_option maxHeartbeats 4000000 in
set_option maxRecDepth 100000 in
theorem exchangepointref38_asn_ac (a0 : Int) (r : Bool) (h : exchangepointref38_asn a0 = some r) : AC Try.prog 33 [(.d (.int .i64 a0))] [] (.d (.bool r)) [] := by
  refine AC.of_code2 Try.func33 rfl rfl (Nat.le_of_ble_eq_true (by rfl)) fun B hB hN => ?_
  delta exchangepointref38_asn at h
  refine sr (c (OpJ.assign (ltN hN rfl) (Opd.bool false)) rfl cn) ?_
  refine gh [(0, _)] [] hB rfl rfl (by rfl) ?_
  refine sr (c (mv hN (q 0)) rfl (c (OpJ.geq (ltN hN rfl) (q 3) (Opd.int .i64 (1))) rfl (c (mv hN (q 4)) rfl (c (oq hN 5 (mv hN (q 0)) (OptL.keep (by rfl) OptL.nil) (GuardV.plain _)) rfl (c (oq hN 5 (OpJ.leq (ltN hN rfl) (q 6) (Opd.int .i64 (4294967295))) (OptL.opt OptL.nil) (GuardV.plain _)) rfl (c (OpJ.pickAnd rfl (ltN hN rfl) (q 5) (q 7)) rfl (c (OpJ.assign (ltN hN rfl) (q 8)) rfl cn))))))) ?_
  refine gh [(2, _)] [] hB rfl rfl (by rfl) ?_
  refine AWp.ret ?_
  obtain rfl := Option.some.inj h
  exact ⟨.inl rfl, _, _, (kp [(2, _)] [] hB rfl rfl (by rfl)), [(bo ((decide ((1 : Int) ≤ a0)) && (decide (a0 ≤ (4294967295 : Int)))))], (Res.tmp (by rfl) (by rfl) Res.nil), rfl, by rfl, by rfl, by rfl⟩


end Go.Proofs.Ytpdfmjkfplgkfaa
