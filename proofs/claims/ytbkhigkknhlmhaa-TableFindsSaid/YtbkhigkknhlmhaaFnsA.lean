/- Printed by gen.py: the Go functions as plain functions, and that the code does what they say. -/
import Derived.Test.YtbkhigkknhlmhaaChecked
import Derived.Test.YtbkhigkknhlmhaaVcYB
import Derived.Test.YtbkhigkknhlmhaaVcZ
import Derived.KernelRfl
import Derived.Test.YtbkhigkknhlmhaaVcMD
import Derived.Test.YtbkhigkknhlmhaaVcMQ
import Derived.Test.YtbkhigkknhlmhaaVcSG
import Derived.Test.YtbkhigkknhlmhaaExt
import Derived.Test.YtbkhigkknhlmhaaVcV
import Derived.Test.YtbkhigkknhlmhaaVcQ
import Derived.Test.YtbkhigkknhlmhaaVcDel
namespace Go.Proofs.Ytbkhigkknhlmhaa
open Go Go.Vc
def e_LeIi64 (x : (List Int)) : D := (.list 1 (x.map (eI .i64)))

structure exchangepointmake_Deck where
  fL : (List Int)
  fAt : Int
def e_exchangepointmake_Deck (x : exchangepointmake_Deck) : D := .st [(.list 1 (x.fL.map (eI .i64))), (.int .i64 x.fAt)]

structure api_Addr where
  fV6 : Bool
  fHi : Int
  fLo : Int
def e_api_Addr (x : api_Addr) : D := .st [(.bool x.fV6), (.int .u64 x.fHi), (.int .u64 x.fLo)]

structure api_Prefix where
  fAddr : api_Addr
  fLen : Int
def e_api_Prefix (x : api_Prefix) : D := .st [(e_api_Addr x.fAddr), (.int .i64 x.fLen)]

structure api_Entry where
  fPrefix : api_Prefix
  fValue : Int
def e_api_Entry (x : api_Entry) : D := .st [(e_api_Prefix x.fPrefix), (.int .i64 x.fValue)]

def keq37 (a b : api_Prefix) : Bool := (((a.fAddr.fV6 == b.fAddr.fV6) && ((a.fAddr.fHi == b.fAddr.fHi) && ((a.fAddr.fLo == b.fAddr.fLo) && true))) && ((a.fLen == b.fLen) && true))

def e_LeapiEntry (x : (List api_Entry)) : D := (.list 5 (x.map e_api_Entry))

@[reducible] noncomputable def qI_1 (x : List Int) : V := .d (.list 1 (x.map (eI .i64)))
@[reducible] noncomputable def qe_api_Entry_5 (x : List api_Entry) : V := .d (.list 5 (x.map e_api_Entry))
@[reducible] noncomputable def we_api_Entry_39_5 (x : List api_Entry) : Ob := .row 39 5 (x.map e_api_Entry)
@[reducible] noncomputable def qe_api_Prefix_4 (x : List api_Prefix) : V := .d (.list 4 (x.map e_api_Prefix))
@[reducible] noncomputable def qe_api_Addr_3 (x : List api_Addr) : V := .d (.list 3 (x.map e_api_Addr))
theorem tyZS65 : TyZ Try.prog 65 (.st [.nils, (.d (.int .i64 (0 : Int)))]) := ⟨by kernel_rfl, fun w => by kernel_rfl⟩

theorem fnOk10 : FnOk Try.prog 10 := ⟨by kernel_rfl⟩

theorem tyS3 : TyS Try.prog 3 1 false := ⟨by kernel_rfl, by kernel_rfl⟩

theorem tyS22 : TyS Try.prog 22 1 false := ⟨by kernel_rfl, by kernel_rfl⟩

theorem fnOk39 : FnOk Try.prog 39 := ⟨by kernel_rfl⟩

theorem fnOk17 : FnOk Try.prog 17 := ⟨by kernel_rfl⟩

theorem tyZ37 : TyZ Try.prog 37 (.d (.st [(.st [(.bool false), (.int .u64 (0 : Int)), (.int .u64 (0 : Int))]), (.int .i64 (0 : Int))])) := ⟨by kernel_rfl, fun w => by kernel_rfl⟩

theorem tyZ33 : TyZ Try.prog 33 (.d (.st [(.bool false), (.int .u64 (0 : Int)), (.int .u64 (0 : Int))])) := ⟨by kernel_rfl, fun w => by kernel_rfl⟩

theorem tyZS33 : TyZ Try.prog 33 (.st [(.d (.bool false)), (.d (.int .u64 (0 : Int))), (.d (.int .u64 (0 : Int)))]) := ⟨by kernel_rfl, fun w => by kernel_rfl⟩

theorem tyS33 : TyS Try.prog 33 3 true := ⟨by kernel_rfl, by kernel_rfl⟩

theorem tyS31 : TyS Try.prog 31 1 false := ⟨by kernel_rfl, by kernel_rfl⟩

theorem tyZD31 : TyZ Try.prog 31 (.d (.int .u64 (0 : Int))) := ⟨by kernel_rfl, fun w => by kernel_rfl⟩

theorem fnOk16 : FnOk Try.prog 16 := ⟨by kernel_rfl⟩

theorem tyS4 : TyS Try.prog 4 1 false := ⟨by kernel_rfl, by kernel_rfl⟩

theorem tyZD3 : TyZ Try.prog 3 (.d (.int .i64 (0 : Int))) := ⟨by kernel_rfl, fun w => by kernel_rfl⟩

theorem fnOk50 : FnOk Try.prog 50 := ⟨by kernel_rfl⟩

theorem tyZS37 : TyZ Try.prog 37 (.st [(.d (.st [(.bool false), (.int .u64 (0 : Int)), (.int .u64 (0 : Int))])), (.d (.int .i64 (0 : Int)))]) := ⟨by kernel_rfl, fun w => by kernel_rfl⟩

theorem tyS37 : TyS Try.prog 37 4 true := ⟨by kernel_rfl, by kernel_rfl⟩

theorem fnOk51 : FnOk Try.prog 51 := ⟨by kernel_rfl⟩

theorem tyS5 : TyS Try.prog 5 1 false := ⟨by kernel_rfl, by kernel_rfl⟩

theorem tyZD5 : TyZ Try.prog 5 (.d (.int .u8 (0 : Int))) := ⟨by kernel_rfl, fun w => by kernel_rfl⟩

theorem tyE5 : TyE Try.prog 5 1 1 := ⟨by kernel_rfl, by decide⟩

theorem fnOk52 : FnOk Try.prog 52 := ⟨by kernel_rfl⟩

theorem fnOk53 : FnOk Try.prog 53 := ⟨by kernel_rfl⟩

theorem fnOk18 : FnOk Try.prog 18 := ⟨by kernel_rfl⟩

theorem fnOk26 : FnOk Try.prog 26 := ⟨by kernel_rfl⟩

theorem held33 : Program.stoodInHeld Try.prog 33 = false := by kernel_rfl

theorem held37 : Program.stoodInHeld Try.prog 37 = false := by kernel_rfl

theorem eqg37 : Program.eqGuardType Try.prog (Program.depth Try.prog) 37 = false := by kernel_rfl

theorem fnOk61 : FnOk Try.prog 61 := ⟨by kernel_rfl⟩

theorem fnOk40 : FnOk Try.prog 40 := ⟨by kernel_rfl⟩

theorem tyZD37 : TyZ Try.prog 37 (.d (.st [(.st [(.bool false), (.int .u64 (0 : Int)), (.int .u64 (0 : Int))]), (.int .i64 (0 : Int))])) := ⟨by kernel_rfl, fun w => by kernel_rfl⟩

theorem tyS39 : TyS Try.prog 39 5 true := ⟨by kernel_rfl, by kernel_rfl⟩

theorem tyZ39 : TyZ Try.prog 39 (.d (.st [(.st [(.st [(.bool false), (.int .u64 (0 : Int)), (.int .u64 (0 : Int))]), (.int .i64 (0 : Int))]), (.int .i64 (0 : Int))])) := ⟨by kernel_rfl, fun w => by kernel_rfl⟩

theorem eqg33 : Program.eqGuardType Try.prog (Program.depth Try.prog) 33 = false := by kernel_rfl

theorem fnOk79 : FnOk Try.prog 79 := ⟨by kernel_rfl⟩

theorem fnOk62 : FnOk Try.prog 62 := ⟨by kernel_rfl⟩

theorem fnOk27 : FnOk Try.prog 27 := ⟨by kernel_rfl⟩

theorem tyE39 : TyE Try.prog 39 5 40 := ⟨by kernel_rfl, by decide⟩

theorem tyZS39 : TyZ Try.prog 39 (.st [(.d (.st [(.st [(.bool false), (.int .u64 (0 : Int)), (.int .u64 (0 : Int))]), (.int .i64 (0 : Int))])), (.d (.int .i64 (0 : Int)))]) := ⟨by kernel_rfl, fun w => by kernel_rfl⟩

theorem tyZD39 : TyZ Try.prog 39 (.d (.st [(.st [(.st [(.bool false), (.int .u64 (0 : Int)), (.int .u64 (0 : Int))]), (.int .i64 (0 : Int))]), (.int .i64 (0 : Int))])) := ⟨by kernel_rfl, fun w => by kernel_rfl⟩

theorem fnOk48 : FnOk Try.prog 48 := ⟨by kernel_rfl⟩

theorem fnOk36 : FnOk Try.prog 36 := ⟨by kernel_rfl⟩

theorem fnOk11 : FnOk Try.prog 11 := ⟨by kernel_rfl⟩

theorem keyEq37 : KeyEq Try.prog 37 e_api_Prefix keq37 := ⟨⟨3, by decide, fun a b => (FitE.st Try.underlying37 rfl held37 (FitF.cons (x := (e_api_Addr a.fAddr)) (y := (e_api_Addr b.fAddr)) (by decide) rfl tyS33 ⟨rfl, rfl⟩ ⟨rfl, rfl⟩ (FitE.st Try.underlying33 rfl held33 (FitF.cons (x := (.bool a.fAddr.fV6)) (y := (.bool b.fAddr.fV6)) (by decide) rfl tyS4 ⟨rfl, rfl⟩ ⟨rfl, rfl⟩ (FitE.bool (h := 0) a.fAddr.fV6 b.fAddr.fV6 Try.underlying4) (FitF.cons (x := (.int .u64 a.fAddr.fHi)) (y := (.int .u64 b.fAddr.fHi)) (by decide) rfl tyS31 ⟨rfl, rfl⟩ ⟨rfl, rfl⟩ (FitE.int (h := 0) a.fAddr.fHi b.fAddr.fHi Try.underlying31) (FitF.cons (x := (.int .u64 a.fAddr.fLo)) (y := (.int .u64 b.fAddr.fLo)) (by decide) rfl tyS31 ⟨rfl, rfl⟩ ⟨rfl, rfl⟩ (FitE.int (h := 0) a.fAddr.fLo b.fAddr.fLo Try.underlying31) FitF.nil)))) (FitF.cons (x := (.int .i64 a.fLen)) (y := (.int .i64 b.fLen)) (by decide) rfl tyS3 ⟨rfl, rfl⟩ ⟨rfl, rfl⟩ (FitE.int (h := 1) a.fLen b.fLen Try.underlying3) FitF.nil)))⟩, fun a b h => by
  unfold keq37 at h
  simp at h
  simp [eB, eI, e_api_Addr, e_api_Prefix, h]⟩

theorem tyU68 : Try.prog.underlying 68 = some (.map 37 3) := by kernel_rfl

theorem fnOk67 : FnOk Try.prog 67 := ⟨by kernel_rfl⟩

theorem fnOk76 : FnOk Try.prog 76 := ⟨by kernel_rfl⟩

theorem fnOk68 : FnOk Try.prog 68 := ⟨by kernel_rfl⟩

theorem fnOk78 : FnOk Try.prog 78 := ⟨by kernel_rfl⟩

theorem fnOk99 : FnOk Try.prog 99 := ⟨by kernel_rfl⟩

theorem fnOk77 : FnOk Try.prog 77 := ⟨by kernel_rfl⟩

theorem fnOk69 : FnOk Try.prog 69 := ⟨by kernel_rfl⟩

theorem fnOk60 : FnOk Try.prog 60 := ⟨by kernel_rfl⟩

theorem fnOk85 : FnOk Try.prog 85 := ⟨by kernel_rfl⟩

theorem fnOk70 : FnOk Try.prog 70 := ⟨by kernel_rfl⟩

theorem fnOk41 : FnOk Try.prog 41 := ⟨by kernel_rfl⟩

theorem fnOk96 : FnOk Try.prog 96 := ⟨by kernel_rfl⟩

theorem fnOk98 : FnOk Try.prog 98 := ⟨by kernel_rfl⟩

theorem fnOk75 : FnOk Try.prog 75 := ⟨by kernel_rfl⟩

theorem fnOk106 : FnOk Try.prog 106 := ⟨by kernel_rfl⟩

theorem fnOk97 : FnOk Try.prog 97 := ⟨by kernel_rfl⟩

theorem fnOk73 : FnOk Try.prog 73 := ⟨by kernel_rfl⟩

theorem fnOk74 : FnOk Try.prog 74 := ⟨by kernel_rfl⟩

theorem fnOk44 : FnOk Try.prog 44 := ⟨by kernel_rfl⟩

theorem fnOk43 : FnOk Try.prog 43 := ⟨by kernel_rfl⟩

theorem fnOk42 : FnOk Try.prog 42 := ⟨by kernel_rfl⟩

theorem fnOk56 : FnOk Try.prog 56 := ⟨by kernel_rfl⟩

theorem fnOk47 : FnOk Try.prog 47 := ⟨by kernel_rfl⟩

theorem fnOk46 : FnOk Try.prog 46 := ⟨by kernel_rfl⟩

theorem fnOk45 : FnOk Try.prog 45 := ⟨by kernel_rfl⟩

theorem fnOk13 : FnOk Try.prog 13 := ⟨by kernel_rfl⟩

theorem fnOk29 : FnOk Try.prog 29 := ⟨by kernel_rfl⟩

theorem fnOk49 : FnOk Try.prog 49 := ⟨by kernel_rfl⟩

theorem fnOk35 : FnOk Try.prog 35 := ⟨by kernel_rfl⟩

theorem fnOk21 : FnOk Try.prog 21 := ⟨by kernel_rfl⟩

theorem fnOk30 : FnOk Try.prog 30 := ⟨by kernel_rfl⟩

theorem held39 : Program.stoodInHeld Try.prog 39 = false := by kernel_rfl

theorem eqg39 : Program.eqGuardType Try.prog (Program.depth Try.prog) 39 = false := by kernel_rfl

theorem fnOk12 : FnOk Try.prog 12 := ⟨by kernel_rfl⟩

theorem fnOk55 : FnOk Try.prog 55 := ⟨by kernel_rfl⟩

theorem fnOk58 : FnOk Try.prog 58 := ⟨by kernel_rfl⟩

theorem fnOk57 : FnOk Try.prog 57 := ⟨by kernel_rfl⟩

theorem fnOk20 : FnOk Try.prog 20 := ⟨by kernel_rfl⟩

theorem fnOk15 : FnOk Try.prog 15 := ⟨by kernel_rfl⟩

theorem fnOk54 : FnOk Try.prog 54 := ⟨by kernel_rfl⟩

theorem fnOk19 : FnOk Try.prog 19 := ⟨by kernel_rfl⟩

theorem fnOk59 : FnOk Try.prog 59 := ⟨by kernel_rfl⟩

theorem fnOk22 : FnOk Try.prog 22 := ⟨by kernel_rfl⟩

theorem fnOk23 : FnOk Try.prog 23 := ⟨by kernel_rfl⟩

theorem tyZD33 : TyZ Try.prog 33 (.d (.st [(.bool false), (.int .u64 (0 : Int)), (.int .u64 (0 : Int))])) := ⟨by kernel_rfl, fun w => by kernel_rfl⟩

theorem fnOk24 : FnOk Try.prog 24 := ⟨by kernel_rfl⟩

theorem fnOk25 : FnOk Try.prog 25 := ⟨by kernel_rfl⟩

theorem fnOk81 : FnOk Try.prog 81 := ⟨by kernel_rfl⟩

theorem fnOk80 : FnOk Try.prog 80 := ⟨by kernel_rfl⟩

theorem fnOk63 : FnOk Try.prog 63 := ⟨by kernel_rfl⟩

theorem fnOk28 : FnOk Try.prog 28 := ⟨by kernel_rfl⟩

theorem fnOk31 : FnOk Try.prog 31 := ⟨by kernel_rfl⟩

theorem fnOk32 : FnOk Try.prog 32 := ⟨by kernel_rfl⟩

theorem fnOk64 : FnOk Try.prog 64 := ⟨by kernel_rfl⟩

theorem fnOk65 : FnOk Try.prog 65 := ⟨by kernel_rfl⟩

theorem fnOk66 : FnOk Try.prog 66 := ⟨by kernel_rfl⟩

noncomputable def exchangepointmake_New (a0 : (List Int)) : Option (exchangepointmake_Deck) :=
  some (exchangepointmake_Deck.mk a0 (0 : Int))
set_option maxHeartbeats 4000000 in
set_option maxRecDepth 100000 in
theorem exchangepointmake_New_ac (a0 : (List Int)) (r : exchangepointmake_Deck) (h : exchangepointmake_New a0 = some r) : AC Try.prog 10 [(.d (.list 1 (a0.map (eI .i64))))] [] (.ptr 1005 0 []) [(1005, some (.box 65 (.d (e_exchangepointmake_Deck r))))] := by
  refine AC.of_code2 Try.func10 rfl rfl (Nat.le_of_ble_eq_true (by rfl)) fun B hB hN => ?_
  delta exchangepointmake_New at h
  refine sr (c (OpJ.assign (v := .junk) (ltN hN rfl) (Opd.junk _)) rfl cn) ?_
  refine gh [(0, _)] [] hB rfl rfl (by rfl) ?_
  refine sr (c (mv hN (q 0)) rfl (c (OpJ.coe (v := (.st [(qI_1 a0), (i6 0)])) (y := (.st [(.list 1 (a0.map (eI .i64))), (.int .i64 0)])) (Co.st (CoL.cons (Co.d _) (CoL.cons (Co.d _) CoL.nil))) rfl (OpJ.build (places := [(0, 1), (1, 1)]) ⟨Try.underlying65, fun w => by kernel_rfl⟩ tyZS65 (Opds.cons (q 3) Opds.nil) (by kernel_rfl) (r := (.st [(qI_1 a0), (i6 0)])) (by rfl) (ltN hN rfl))) rfl (cg (OpJ.box hB (nm := 1005) (by decide) (by simp) rfl (ltN hN rfl) (q 4)) rfl (c (OpJ.assign (ltN hN rfl) (q 5)) rfl cn)))) ?_
  refine gh [(2, _)] [(1005, some _)] hB rfl rfl (by rfl) ?_
  refine AWp.ret ?_
  obtain rfl := Option.some.inj h
  exact ⟨.inl rfl, _, _, (kp [(2, _)] [(1005, some _)] hB rfl rfl (by rfl)), [(.ptr 1005 0 [])], (Res.tmp (by rfl) (by rfl) Res.nil), rfl, by rfl, by rfl, by rfl⟩

noncomputable def exchangepointmake_Mod (a0 : Int) (a1 : Int) : Option (Int) :=
  chk (decide (a1 ≠ 0)) <|
  jn (fun m3 : Int =>
  some m3) (fun j4 =>
  (if (decide ((Int.tmod a0 a1) < (0 : Int))) = true then
  j4 (w64 ((Int.tmod a0 a1) + a1))
  else
  j4 (Int.tmod a0 a1)))
set_option maxHeartbeats 4000000 in
set_option maxRecDepth 100000 in
theorem exchangepointmake_Mod_ac (a0 : Int) (a1 : Int) (r : Int) (h : exchangepointmake_Mod a0 a1 = some r) : AC Try.prog 39 [(.d (.int .i64 a0)), (.d (.int .i64 a1))] [] (.d (.int .i64 r)) [] := by
  refine AC.of_code2 Try.func39 rfl rfl (Nat.le_of_ble_eq_true (by rfl)) fun B hB hN => ?_
  delta exchangepointmake_Mod at h
  refine sr (c (OpJ.assign (ltN hN rfl) (Opd.int .i64 (0))) rfl cn) ?_
  refine gh [(0, _), (1, _)] [] hB rfl rfl (by rfl) ?_
  obtain ⟨hc1, h⟩ := chk_some h
  refine sr (c (mv hN (q 0)) rfl (c (mv hN (q 1)) rfl (c (OpJ.rem (ltN hN rfl) (q 6) (q 7) (of_decide_eq_true hc1)) rfl (c (OpJ.assign (ltN hN rfl) (q 8)) rfl cn)))) ?_
  refine gh [(1, _), (5, _)] [] hB rfl rfl (by rfl) ?_
  refine AWp.seq ?_
  refine sr (c (mv hN (q 5)) rfl (c (OpJ.lss (ltN hN rfl) (q 9) (Opd.int .i64 (0))) rfl cn)) ?_
  refine gh [(1, _), (5, _), (10, _)] [] hB rfl rfl (by rfl) ?_
  refine AWp.cut h (fun m3 : Int => ([(5, (i6 m3))] : EL)) (fun m3 : Int => ([] : OL)) (fun m3 h E' O' hmat => ?_) (fun j4 hjj4 h => ?_)
  · refine seqQ_n ?_
    refine AWp.ghost hmat ?_
    refine sr (c (mv hN (q 5)) rfl (c (OpJ.assign (ltN hN rfl) (q 14)) rfl cn)) ?_
    refine gh [(4, _)] [] hB rfl rfl (by rfl) ?_
    refine AWp.ret ?_
    obtain rfl := Option.some.inj h
    exact ⟨.inl rfl, _, _, (kp [(4, _)] [] hB rfl rfl (by rfl)), [(i6 m3)], (Res.tmp (by rfl) (by rfl) Res.nil), rfl, by rfl, by rfl, by rfl⟩
  · refine AWp.cond rfl (fun hg5 => ?_) (fun hg5 => ?_)
    · replace h := ite_t hg5 h
      refine rg (c (mv hN (q 5)) rfl (c (mv hN (q 1)) rfl (c (add6 (ltN hN rfl) (q 11) (q 12)) rfl (c (OpJ.assign (ltN hN rfl) (q 13)) rfl cn)))) ?_
      exact hjj4 _ h _ _ (Mat.trans (mp [] [(5, (i6 (w64 ((Int.tmod a0 a1) + a1))))] [] hB) (mp [] _ _ hB))
    · replace h := ite_f hg5 h
      refine AWp.skip ?_
      exact hjj4 _ h _ _ (mp [] _ _ hB)

noncomputable def exchangepointmake_Deck_Next (a0 : exchangepointmake_Deck) (a1 : Int) : Option (Int × exchangepointmake_Deck) :=
  (if (decide ((a0.fL.length : Int) ≤ a0.fAt)) = true then
  some ((0 : Int), a0)
  else
  (idx a0.fL (w64 ((w64 (a0.fAt + (1 : Int))) - (1 : Int)))).bind fun x2 =>
  (exchangepointmake_Mod x2 a1).bind fun r3 =>
  some (r3, (exchangepointmake_Deck.mk a0.fL (w64 (a0.fAt + (1 : Int))))))
set_option maxHeartbeats 4000000 in
set_option maxRecDepth 100000 in
theorem exchangepointmake_Deck_Next_ac (a0 : exchangepointmake_Deck) (a1 : Int) (r : Int × exchangepointmake_Deck) (h : exchangepointmake_Deck_Next a0 a1 = some r) : AC Try.prog 17 [(.ptr 0 0 []), (.d (.int .i64 a1))] [(0, (.box 65 (.d (e_exchangepointmake_Deck a0))))] (.d (.int .i64 r.1)) [(0, some (.box 65 (.d (e_exchangepointmake_Deck r.2))))] := by
  refine AC.of_code2 Try.func17 rfl rfl (Nat.le_of_ble_eq_true (by rfl)) fun B hB hN => ?_
  have L {d : Nat} (h : Nat.blt d Try.f17.ntmps = true) : d < B.N := ltN hN h
  delta exchangepointmake_Deck_Next at h
  refine sr (c (OpJ.assign (L rfl) (Opd.int .i64 (0))) rfl cn) ?_
  refine gh [(0, _), (1, _)] [(0, some _)] hB rfl rfl (by rfl) ?_
  refine AWp.seq ?_
  refine sd (c (mv hN (q 0)) rfl (c (OpJ.nilP (L rfl) (q 5)) rfl (c (ov (.ptr 0 1 [1]) (fp hN Try.underlying65 1 tyS3 _ (q 6))) rfl (c (lb hN 65 _ _ tyS3 (ad _) (q 7)) rfl (c (mv hN (q 0)) rfl (c (OpJ.nilP (L rfl) (q 9)) rfl (c (ov (.ptr 0 0 [0]) (fp hN Try.underlying65 0 tyS22 _ (q 10))) rfl (c (lb hN 65 _ _ tyS22 (ad _) (q 11)) rfl (c (OpJ.val (v' := (i6 (a0.fL.length : Int))) (by simp) (OpJ.lenD Try.underlying22 (L rfl) (q 12))) rfl (c (OpJ.geq (L rfl) (q 8) (q 13)) rfl cn)))))))))) (by kernel_rfl) (by kernel_rfl) ?_
  refine gh [(0, _), (1, _), (14, _)] [(0, some _)] hB rfl rfl (by rfl) ?_
  refine AWp.cond rfl (fun hg1 => ?_) (fun hg1 => ?_)
  · replace h := ite_t hg1 h
    refine sr (c (OpJ.assign (L rfl) (Opd.int .i64 (0))) rfl cn) ?_
    refine gh [(4, _)] [(0, some _)] hB rfl rfl (by rfl) ?_
    refine AWp.ret ?_
    refine seqQ_r ?_
    obtain rfl := Option.some.inj h
    exact ⟨.inl rfl, _, _, (kp [(4, _)] [(0, some _)] hB rfl rfl (by rfl)), [(i6 0)], (Res.tmp (by rfl) (by rfl) Res.nil), rfl, by rfl, by rfl, by rfl⟩
  · replace h := ite_f hg1 h
    refine AWp.skip ?_
    refine seqQ_n ?_
    refine sr (c (mv hN (q 0)) rfl (c (OpJ.nilP (L rfl) (q 15)) rfl (c (ov (.ptr 0 1 [1]) (fp hN Try.underlying65 1 tyS3 _ (q 16))) rfl (c (lb hN 65 _ _ tyS3 (ad _) (q 17)) rfl (c (add6 (L rfl) (q 18) (Opd.int .i64 (1))) rfl (c (OpJ.nilP (L rfl) (q 15)) rfl (c (ov (.ptr 0 1 [1]) (fp hN Try.underlying65 1 tyS3 _ (q 20))) rfl (cg (OpJ.storeB tyS3 (SetAt.dst1 (by rfl) (by rfl) (SetAt.here _ _) (by rfl) (by rfl) (by first | rfl | omega)) (by rfl) (by rfl) (by simp) rfl (q 21) (q 19)) rfl cn)))))))) ?_
    refine gh [(0, _), (1, _)] [(0, some _)] hB rfl rfl (by rfl) ?_
    obtain ⟨x2, hx2, h⟩ := bindS h
    obtain ⟨r3, hr3, h⟩ := bindS h
    refine sd (c (mv hN (q 0)) rfl (c (OpJ.nilP (L rfl) (q 22)) rfl (c (ov (.ptr 0 0 [0]) (fp hN Try.underlying65 0 tyS22 _ (q 23))) rfl (c (lb hN 65 _ _ tyS22 (ad _) (q 24)) rfl (c (mv hN (q 0)) rfl (c (OpJ.nilP (L rfl) (q 26)) rfl (c (ov (.ptr 0 1 [1]) (fp hN Try.underlying65 1 tyS3 _ (q 27))) rfl (c (lb hN 65 _ _ tyS3 (ad _) (q 28)) rfl (c (sub6 (L rfl) (q 29) (Opd.int .i64 (1))) rfl (c (OpJ.indexD Try.underlying22 tyS3 (idx_some hx2).1 (get_map (eI .i64) (idx_some hx2).2) (L rfl) (q 25) (q 30)) rfl (c (OpJ.loadD tyS3 (by rfl) (by rfl) (L rfl) (q 31)) rfl (c (mv hN (q 1)) rfl (cg (OpJ.callFn hB fnOk39 (exchangepointmake_Mod_ac x2 a1 r3 hr3) [] (by kernel_rfl) (L rfl) (by kernel_rfl) (OpdL.cons (q 32) (OpdL.cons (q 33) OpdL.nil))) rfl (c (OpJ.assign (L rfl) (q 34)) rfl cn)))))))))))))) (by kernel_rfl) (by kernel_rfl) ?_
    refine gh [(4, _)] [(0, some _)] hB rfl rfl (by rfl) ?_
    refine AWp.ret ?_
    obtain rfl := Option.some.inj h
    exact ⟨.inl rfl, _, _, (kp [(4, _)] [(0, some _)] hB rfl rfl (by rfl)), [(i6 r3)], (Res.tmp (by rfl) (by rfl) Res.nil), rfl, by rfl, by rfl, by rfl⟩

noncomputable def exchangepointmake_Deck_Addr (a0 : exchangepointmake_Deck) : Option (api_Addr × exchangepointmake_Deck) :=
  (exchangepointmake_Deck_Next a0 (6 : Int)).bind fun r1 =>
  (if (r1.1 == (0 : Int)) = true then
  (exchangepointmake_Deck_Next r1.2 (8 : Int)).bind fun r3 =>
  (exchangepointmake_Deck_Next r3.2 (4 : Int)).bind fun r4 =>
  some ((api_Addr.mk false (0 : Int) (IntKind.u64.wrap (w64 ((w64 ((167772160 : Int) + (shlI .i64 r3.1 (8 : Int)))) + r4.1)))), r4.2)
  else
  (if (r1.1 == (1 : Int)) = true then
  (exchangepointmake_Deck_Next r1.2 (4 : Int)).bind fun r6 =>
  (exchangepointmake_Deck_Next r6.2 (8 : Int)).bind fun r7 =>
  some ((api_Addr.mk true (IntKind.u64.wrap ((2306139568115548160 : Int) + (IntKind.u64.wrap r6.1))) (IntKind.u64.wrap r7.1)), r7.2)
  else
  (if (r1.1 == (2 : Int)) = true then
  (exchangepointmake_Deck_Next r1.2 (5 : Int)).bind fun r9 =>
  (idx ([(0 : Int), (1 : Int), (4294967295 : Int), (2147483647 : Int), (2147483648 : Int)] : List Int) r9.1).bind fun x10 =>
  some ((api_Addr.mk false (0 : Int) x10), r9.2)
  else
  (if (r1.1 == (3 : Int)) = true then
  (exchangepointmake_Deck_Next r1.2 (4 : Int)).bind fun r12 =>
  (idx ([(0 : Int), (1 : Int), (18446744073709551615 : Int), (9223372036854775808 : Int)] : List Int) r12.1).bind fun x13 =>
  (exchangepointmake_Deck_Next r12.2 (4 : Int)).bind fun r14 =>
  (idx ([(0 : Int), (1 : Int), (18446744073709551615 : Int), (9223372036854775808 : Int)] : List Int) r14.1).bind fun x15 =>
  some ((api_Addr.mk true x13 x15), r14.2)
  else
  (if (r1.1 == (4 : Int)) = true then
  (exchangepointmake_Deck_Next r1.2 (1073741824 : Int)).bind fun r17 =>
  (exchangepointmake_Deck_Next r17.2 (5 : Int)).bind fun r18 =>
  (exchangepointmake_Deck_Next r18.2 (1073741824 : Int)).bind fun r19 =>
  (exchangepointmake_Deck_Next r19.2 (5 : Int)).bind fun r20 =>
  some ((api_Addr.mk true (shlI .u64 (IntKind.u64.wrap r17.1) (IntKind.u64.wrap (w64 (r18.1 * (8 : Int))))) (shlI .u64 (IntKind.u64.wrap r19.1) (IntKind.u64.wrap (w64 (r20.1 * (8 : Int)))))), r20.2)
  else
  (exchangepointmake_Deck_Next r1.2 (1073741824 : Int)).bind fun r21 =>
  some ((api_Addr.mk false (0 : Int) (IntKind.u64.wrap r21.1)), r21.2))))))
set_option maxHeartbeats 4000000 in
set_option maxRecDepth 100000 in
theorem exchangepointmake_Deck_Addr_ac (a0 : exchangepointmake_Deck) (r : api_Addr × exchangepointmake_Deck) (h : exchangepointmake_Deck_Addr a0 = some r) : AC Try.prog 16 [(.ptr 0 0 [])] [(0, (.box 65 (.d (e_exchangepointmake_Deck a0))))] (.d (e_api_Addr r.1)) [(0, some (.box 65 (.d (e_exchangepointmake_Deck r.2))))] := by
  refine AC.of_code2 Try.func16 rfl rfl (Nat.le_of_ble_eq_true (by rfl)) fun B hB hN => ?_
  have L {d : Nat} (h : Nat.blt d Try.f16.ntmps = true) : d < B.N := ltN hN h
  delta exchangepointmake_Deck_Addr at h
  refine sr (cg (OpJ.alloc hB tyZ33 (nm := 1002) (by decide) (L rfl)) rfl cn) ?_
  refine gh [(0, _), (2, _)] [(0, some _), (1002, some _)] hB rfl rfl (by rfl) ?_
  refine AWp.seq ?_
  refine AWp.seq ?_
  obtain ⟨r1, hr1, h⟩ := bindS h
  refine AWp.region (oc (mv hN (ot 0 (.ptr 0 0 [])))
  (oc (OpJ.callFn hB fnOk17 (exchangepointmake_Deck_Next_ac a0 (6 : Int) r1 hr1) [(0, 0)] (by kernel_rfl) (L rfl) (by kernel_rfl) (OpdL.cons (ot 3 (.ptr 0 0 [])) (OpdL.cons (Opd.int .i64 (6)) OpdL.nil)))
  (OpJs.nil))) (by rfl) (by rfl) ?_
  refine seqQ_n ?_
  refine AWp.ghost (mp [] [(0, (.ptr 0 0 [])), (2, (.ptr 1002 0 [])), (4, (i6 r1.1))] [(0, some (.box 65 (.d (e_exchangepointmake_Deck r1.2)))), (1002, some (.box 33 (.d (.st [(.bool false), (.int .u64 0), (.int .u64 0)]))))] hB) ?_
  refine AWp.block ?_
  refine sr (c (OpJ.eqlI (L rfl) (q 4) (Opd.int .i64 (0))) rfl (c (OpJ.assign (L rfl) (q 6)) rfl cn)) ?_
  refine gh [(0, _), (2, _), (4, _), (5, _)] [(0, some _), (1002, some _)] hB rfl rfl (by rfl) ?_
  refine AWp.cond rfl (fun hg2 => ?_) (fun hg2 => ?_)
  · replace h := ite_t hg2 h
    refine AWp.seq ?_
    obtain ⟨r3, hr3, h⟩ := bindS h
    obtain ⟨r4, hr4, h⟩ := bindS h
    refine AWp.region (oc (mv hN (ot 0 (.ptr 0 0 [])))
      (oc (OpJ.callFn hB fnOk17 (exchangepointmake_Deck_Next_ac r1.2 (8 : Int) r3 hr3) [(0, 0)] (by kernel_rfl) (L rfl) (by kernel_rfl) (OpdL.cons (ot 7 (.ptr 0 0 [])) (OpdL.cons (Opd.int .i64 (8)) OpdL.nil)))
      (oc (OpJ.shl (L rfl) (ot 8 (i6 r3.1)) (Opd.int .u64 (8)) (by decide))
      (oc (add6 (L rfl) (Opd.int .i64 (167772160)) (ot 9 (i6 (shlI .i64 r3.1 (8 : Int)))))
      (oc (mv hN (ot 0 (.ptr 0 0 [])))
      (oc (OpJ.callFn hB fnOk17 (exchangepointmake_Deck_Next_ac r3.2 (4 : Int) r4 hr4) [(0, 0)] (by kernel_rfl) (L rfl) (by kernel_rfl) (OpdL.cons (ot 11 (.ptr 0 0 [])) (OpdL.cons (Opd.int .i64 (4)) OpdL.nil)))
      (oc (add6 (L rfl) (ot 10 (i6 (w64 ((167772160 : Int) + (shlI .i64 r3.1 (8 : Int)))))) (ot 12 (i6 r4.1)))
      (oc (OpJ.conv Try.underlying3 Try.underlying31 (L rfl) (ot 13 (i6 (w64 ((w64 ((167772160 : Int) + (shlI .i64 r3.1 (8 : Int)))) + r4.1)))))
      (oc (OpJ.coe (v := (.st [(bo false), (.d (.int .u64 0)), (.d (.int .u64 (IntKind.u64.wrap (w64 ((w64 ((167772160 : Int) + (shlI .i64 r3.1 (8 : Int)))) + r4.1)))))])) (y := (.st [(.bool false), (.int .u64 0), (.int .u64 (IntKind.u64.wrap (w64 ((w64 ((167772160 : Int) + (shlI .i64 r3.1 (8 : Int)))) + r4.1))))])) (Co.st (CoL.cons (Co.d _) (CoL.cons (Co.d _) (CoL.cons (Co.d _) CoL.nil)))) rfl (OpJ.build (places := [(0, 1), (1, 1), (2, 1)]) ⟨Try.underlying33, fun w => by kernel_rfl⟩ tyZS33 (Opds.cons (ot 14 (.d (.int .u64 (IntKind.u64.wrap (w64 ((w64 ((167772160 : Int) + (shlI .i64 r3.1 (8 : Int)))) + r4.1)))))) Opds.nil) (by kernel_rfl) (r := (.st [(bo false), (.d (.int .u64 0)), (.d (.int .u64 (IntKind.u64.wrap (w64 ((w64 ((167772160 : Int) + (shlI .i64 r3.1 (8 : Int)))) + r4.1)))))])) (by rfl) (L rfl)))
      (oc (OpJ.storeB (bt := 33) (c := (.d (.st [(.bool false), (.int .u64 0), (.int .u64 0)]))) (v := (.d (.st [(.bool false), (.int .u64 0), (.int .u64 (IntKind.u64.wrap (w64 ((w64 ((167772160 : Int) + (shlI .i64 r3.1 (8 : Int)))) + r4.1))))]))) (c' := (.d (.st [(.bool false), (.int .u64 0), (.int .u64 (IntKind.u64.wrap (w64 ((w64 ((167772160 : Int) + (shlI .i64 r3.1 (8 : Int)))) + r4.1))))]))) tyS33 (SetAt.here _ _) (by rfl) (by rfl) (by simp) rfl (ot 2 (.ptr 1002 0 [])) (ot 15 (.d (.st [(.bool false), (.int .u64 0), (.int .u64 (IntKind.u64.wrap (w64 ((w64 ((167772160 : Int) + (shlI .i64 r3.1 (8 : Int)))) + r4.1))))]))))
      (OpJs.nil))))))))))) (by rfl) (by rfl) ?_
    refine seqQ_n ?_
    refine AWp.ghost (mp [] [(2, (.ptr 1002 0 []))] [(0, some (.box 65 (.d (e_exchangepointmake_Deck r4.2)))), (1002, some (.box 33 (.d (.st [(.bool false), (.int .u64 0), (.int .u64 (IntKind.u64.wrap (w64 ((w64 ((167772160 : Int) + (shlI .i64 r3.1 (8 : Int)))) + r4.1))))]))))] hB) ?_
    refine AWp.ret ?_
    refine blkQ_r ?_
    refine seqQ_r ?_
    obtain rfl := Option.some.inj h
    exact ⟨.inl rfl, _, _, (kp [(2, _)] [(0, some _), (1002, some _)] hB rfl rfl (by rfl)), [(.d (.st [(.bool false), (.int .u64 0), (.int .u64 (IntKind.u64.wrap (w64 ((w64 ((167772160 : Int) + (shlI .i64 r3.1 (8 : Int)))) + r4.1))))]))], (Res.cell (c := (.d (.st [(.bool false), (.int .u64 0), (.int .u64 (IntKind.u64.wrap (w64 ((w64 ((167772160 : Int) + (shlI .i64 r3.1 (8 : Int)))) + r4.1))))]))) (by rfl) (by rfl) tyS33 (by rfl) (by rfl) (by rfl) Res.nil), rfl, by rfl, by rfl, by rfl⟩
  · replace h := ite_f hg2 h
    refine sr (c (OpJ.eqlI (L rfl) (q 4) (Opd.int .i64 (1))) rfl (c (OpJ.assign (L rfl) (q 17)) rfl cn)) ?_
    refine gh [(0, _), (2, _), (4, _), (16, _)] [(0, some _), (1002, some _)] hB rfl rfl (by rfl) ?_
    refine AWp.cond rfl (fun hg5 => ?_) (fun hg5 => ?_)
    · replace h := ite_t hg5 h
      refine AWp.seq ?_
      obtain ⟨r6, hr6, h⟩ := bindS h
      obtain ⟨r7, hr7, h⟩ := bindS h
      refine AWp.region (oc (mv hN (ot 0 (.ptr 0 0 [])))
        (oc (OpJ.callFn hB fnOk17 (exchangepointmake_Deck_Next_ac r1.2 (4 : Int) r6 hr6) [(0, 0)] (by kernel_rfl) (L rfl) (by kernel_rfl) (OpdL.cons (ot 18 (.ptr 0 0 [])) (OpdL.cons (Opd.int .i64 (4)) OpdL.nil)))
        (oc (OpJ.conv Try.underlying3 Try.underlying31 (L rfl) (ot 19 (i6 r6.1)))
        (oc (OpJ.add (L rfl) (Opd.int .u64 (2306139568115548160)) (ot 20 (.d (.int .u64 (IntKind.u64.wrap r6.1)))))
        (oc (mv hN (ot 0 (.ptr 0 0 [])))
        (oc (OpJ.callFn hB fnOk17 (exchangepointmake_Deck_Next_ac r6.2 (8 : Int) r7 hr7) [(0, 0)] (by kernel_rfl) (L rfl) (by kernel_rfl) (OpdL.cons (ot 22 (.ptr 0 0 [])) (OpdL.cons (Opd.int .i64 (8)) OpdL.nil)))
        (oc (OpJ.conv Try.underlying3 Try.underlying31 (L rfl) (ot 23 (i6 r7.1)))
        (oc (OpJ.coe (v := (.st [(bo true), (.d (.int .u64 (IntKind.u64.wrap ((2306139568115548160 : Int) + (IntKind.u64.wrap r6.1))))), (.d (.int .u64 (IntKind.u64.wrap r7.1)))])) (y := (.st [(.bool true), (.int .u64 (IntKind.u64.wrap ((2306139568115548160 : Int) + (IntKind.u64.wrap r6.1)))), (.int .u64 (IntKind.u64.wrap r7.1))])) (Co.st (CoL.cons (Co.d _) (CoL.cons (Co.d _) (CoL.cons (Co.d _) CoL.nil)))) rfl (OpJ.build (places := [(0, 1), (1, 1), (2, 1)]) ⟨Try.underlying33, fun w => by kernel_rfl⟩ tyZS33 (Opds.cons (Opd.bool true) (Opds.cons (ot 21 (.d (.int .u64 (IntKind.u64.wrap ((2306139568115548160 : Int) + (IntKind.u64.wrap r6.1)))))) (Opds.cons (ot 24 (.d (.int .u64 (IntKind.u64.wrap r7.1)))) Opds.nil))) (by kernel_rfl) (r := (.st [(bo true), (.d (.int .u64 (IntKind.u64.wrap ((2306139568115548160 : Int) + (IntKind.u64.wrap r6.1))))), (.d (.int .u64 (IntKind.u64.wrap r7.1)))])) (by rfl) (L rfl)))
        (oc (OpJ.storeB (bt := 33) (c := (.d (.st [(.bool false), (.int .u64 0), (.int .u64 0)]))) (v := (.d (.st [(.bool true), (.int .u64 (IntKind.u64.wrap ((2306139568115548160 : Int) + (IntKind.u64.wrap r6.1)))), (.int .u64 (IntKind.u64.wrap r7.1))]))) (c' := (.d (.st [(.bool true), (.int .u64 (IntKind.u64.wrap ((2306139568115548160 : Int) + (IntKind.u64.wrap r6.1)))), (.int .u64 (IntKind.u64.wrap r7.1))]))) tyS33 (SetAt.here _ _) (by rfl) (by rfl) (by simp) rfl (ot 2 (.ptr 1002 0 [])) (ot 25 (.d (.st [(.bool true), (.int .u64 (IntKind.u64.wrap ((2306139568115548160 : Int) + (IntKind.u64.wrap r6.1)))), (.int .u64 (IntKind.u64.wrap r7.1))]))))
        (OpJs.nil)))))))))) (by rfl) (by rfl) ?_
      refine seqQ_n ?_
      refine AWp.ghost (mp [] [(2, (.ptr 1002 0 []))] [(0, some (.box 65 (.d (e_exchangepointmake_Deck r7.2)))), (1002, some (.box 33 (.d (.st [(.bool true), (.int .u64 (IntKind.u64.wrap ((2306139568115548160 : Int) + (IntKind.u64.wrap r6.1)))), (.int .u64 (IntKind.u64.wrap r7.1))]))))] hB) ?_
      refine AWp.ret ?_
      refine blkQ_r ?_
      refine seqQ_r ?_
      obtain rfl := Option.some.inj h
      exact ⟨.inl rfl, _, _, (kp [(2, _)] [(0, some _), (1002, some _)] hB rfl rfl (by rfl)), [(.d (.st [(.bool true), (.int .u64 (IntKind.u64.wrap ((2306139568115548160 : Int) + (IntKind.u64.wrap r6.1)))), (.int .u64 (IntKind.u64.wrap r7.1))]))], (Res.cell (c := (.d (.st [(.bool true), (.int .u64 (IntKind.u64.wrap ((2306139568115548160 : Int) + (IntKind.u64.wrap r6.1)))), (.int .u64 (IntKind.u64.wrap r7.1))]))) (by rfl) (by rfl) tyS33 (by rfl) (by rfl) (by rfl) Res.nil), rfl, by rfl, by rfl, by rfl⟩
    · replace h := ite_f hg5 h
      refine sr (c (OpJ.eqlI (L rfl) (q 4) (Opd.int .i64 (2))) rfl (c (OpJ.assign (L rfl) (q 27)) rfl cn)) ?_
      refine gh [(0, _), (2, _), (4, _), (26, _)] [(0, some _), (1002, some _)] hB rfl rfl (by rfl) ?_
      refine AWp.cond rfl (fun hg8 => ?_) (fun hg8 => ?_)
      · replace h := ite_t hg8 h
        refine AWp.seq ?_
        obtain ⟨r9, hr9, h⟩ := bindS h
        obtain ⟨x10, hx10, h⟩ := bindS h
        refine AWp.region (oc (OpJ.buildSlice Try.underlying77 tyS31 tyZD31 (by rfl) (by decide) (by decide) (Opds.cons (Opd.int .u64 (0)) (Opds.cons (Opd.int .u64 (1)) (Opds.cons (Opd.int .u64 (4294967295)) (Opds.cons (Opd.int .u64 (2147483647)) (Opds.cons (Opd.int .u64 (2147483648)) Opds.nil))))) (by kernel_rfl) (es := ([(.int .u64 0), (.int .u64 1), (.int .u64 (4294967295 : Int)), (.int .u64 (2147483647 : Int)), (.int .u64 (2147483648 : Int))] : List D)) (by rfl) (by rfl) (by kernel_rfl) (by simp) (L rfl))
          (oc (mv hN (ot 0 (.ptr 0 0 [])))
          (oc (OpJ.callFn hB fnOk17 (exchangepointmake_Deck_Next_ac r1.2 (5 : Int) r9 hr9) [(0, 0)] (by kernel_rfl) (L rfl) (by kernel_rfl) (OpdL.cons (ot 29 (.ptr 0 0 [])) (OpdL.cons (Opd.int .i64 (5)) OpdL.nil)))
          (oc (OpJ.indexD (el := (.int .u64 x10)) Try.underlying77 tyS31 (idx_some hx10).1 (get_map (eI .u64) (idx_some hx10).2) (L rfl) (ot 28 (.d (.list 1 (([(0 : Int), (1 : Int), (4294967295 : Int), (2147483647 : Int), (2147483648 : Int)] : List Int).map (eI .u64))))) (ot 30 (i6 r9.1)))
          (oc (OpJ.loadD tyS31 (by rfl) (by rfl) (L rfl) (ot 31 (.dptr (.int .u64 x10))))
          (oc (OpJ.coe (v := (.st [(bo false), (.d (.int .u64 0)), (.d (.int .u64 x10))])) (y := (.st [(.bool false), (.int .u64 0), (.int .u64 x10)])) (Co.st (CoL.cons (Co.d _) (CoL.cons (Co.d _) (CoL.cons (Co.d _) CoL.nil)))) rfl (OpJ.build (places := [(0, 1), (1, 1), (2, 1)]) ⟨Try.underlying33, fun w => by kernel_rfl⟩ tyZS33 (Opds.cons (ot 32 (.d (.int .u64 x10))) Opds.nil) (by kernel_rfl) (r := (.st [(bo false), (.d (.int .u64 0)), (.d (.int .u64 x10))])) (by rfl) (L rfl)))
          (oc (OpJ.storeB (bt := 33) (c := (.d (.st [(.bool false), (.int .u64 0), (.int .u64 0)]))) (v := (.d (.st [(.bool false), (.int .u64 0), (.int .u64 x10)]))) (c' := (.d (.st [(.bool false), (.int .u64 0), (.int .u64 x10)]))) tyS33 (SetAt.here _ _) (by rfl) (by rfl) (by simp) rfl (ot 2 (.ptr 1002 0 [])) (ot 33 (.d (.st [(.bool false), (.int .u64 0), (.int .u64 x10)]))))
          (OpJs.nil)))))))) (by rfl) (by rfl) ?_
        refine seqQ_n ?_
        refine AWp.ghost (mp [] [(2, (.ptr 1002 0 []))] [(0, some (.box 65 (.d (e_exchangepointmake_Deck r9.2)))), (1002, some (.box 33 (.d (.st [(.bool false), (.int .u64 0), (.int .u64 x10)]))))] hB) ?_
        refine AWp.ret ?_
        refine blkQ_r ?_
        refine seqQ_r ?_
        obtain rfl := Option.some.inj h
        exact ⟨.inl rfl, _, _, (kp [(2, _)] [(0, some _), (1002, some _)] hB rfl rfl (by rfl)), [(.d (.st [(.bool false), (.int .u64 0), (.int .u64 x10)]))], (Res.cell (c := (.d (.st [(.bool false), (.int .u64 0), (.int .u64 x10)]))) (by rfl) (by rfl) tyS33 (by rfl) (by rfl) (by rfl) Res.nil), rfl, by rfl, by rfl, by rfl⟩
      · replace h := ite_f hg8 h
        refine sr (c (OpJ.eqlI (L rfl) (q 4) (Opd.int .i64 (3))) rfl (c (OpJ.assign (L rfl) (q 35)) rfl cn)) ?_
        refine gh [(0, _), (2, _), (4, _), (34, _)] [(0, some _), (1002, some _)] hB rfl rfl (by rfl) ?_
        refine AWp.cond rfl (fun hg11 => ?_) (fun hg11 => ?_)
        · replace h := ite_t hg11 h
          refine AWp.seq ?_
          obtain ⟨r12, hr12, h⟩ := bindS h
          obtain ⟨x13, hx13, h⟩ := bindS h
          obtain ⟨r14, hr14, h⟩ := bindS h
          obtain ⟨x15, hx15, h⟩ := bindS h
          refine AWp.draws (by kernel_rfl) (oc (OpJ.buildSlice Try.underlying77 tyS31 tyZD31 (by rfl) (by decide) (by decide) (Opds.cons (Opd.int .u64 (0)) (Opds.cons (Opd.int .u64 (1)) (Opds.cons (Opd.int .u64 (18446744073709551615)) (Opds.cons (Opd.int .u64 (9223372036854775808)) Opds.nil)))) (by kernel_rfl) (es := ([(.int .u64 0), (.int .u64 1), (.int .u64 (18446744073709551615 : Int)), (.int .u64 (9223372036854775808 : Int))] : List D)) (by rfl) (by rfl) (by kernel_rfl) (by simp) (L rfl))
            (oc (mv hN (ot 0 (.ptr 0 0 [])))
            (oc (OpJ.callFn hB fnOk17 (exchangepointmake_Deck_Next_ac r1.2 (4 : Int) r12 hr12) [(0, 0)] (by kernel_rfl) (L rfl) (by kernel_rfl) (OpdL.cons (ot 37 (.ptr 0 0 [])) (OpdL.cons (Opd.int .i64 (4)) OpdL.nil)))
            (oc (OpJ.indexD (el := (.int .u64 x13)) Try.underlying77 tyS31 (idx_some hx13).1 (get_map (eI .u64) (idx_some hx13).2) (L rfl) (ot 36 (.d (.list 1 (([(0 : Int), (1 : Int), (18446744073709551615 : Int), (9223372036854775808 : Int)] : List Int).map (eI .u64))))) (ot 38 (i6 r12.1)))
            (oc (OpJ.loadD tyS31 (by rfl) (by rfl) (L rfl) (ot 39 (.dptr (.int .u64 x13))))
            (oc (OpJ.buildSlice Try.underlying77 tyS31 tyZD31 (by rfl) (by decide) (by decide) (Opds.cons (Opd.int .u64 (0)) (Opds.cons (Opd.int .u64 (1)) (Opds.cons (Opd.int .u64 (18446744073709551615)) (Opds.cons (Opd.int .u64 (9223372036854775808)) Opds.nil)))) (by kernel_rfl) (es := ([(.int .u64 0), (.int .u64 1), (.int .u64 (18446744073709551615 : Int)), (.int .u64 (9223372036854775808 : Int))] : List D)) (by rfl) (by rfl) (by kernel_rfl) (by simp) (L rfl))
            (oc (mv hN (ot 0 (.ptr 0 0 [])))
            (oc (OpJ.callFn hB fnOk17 (exchangepointmake_Deck_Next_ac r12.2 (4 : Int) r14 hr14) [(0, 0)] (by kernel_rfl) (L rfl) (by kernel_rfl) (OpdL.cons (ot 42 (.ptr 0 0 [])) (OpdL.cons (Opd.int .i64 (4)) OpdL.nil)))
            (oc (OpJ.indexD (el := (.int .u64 x15)) Try.underlying77 tyS31 (idx_some hx15).1 (get_map (eI .u64) (idx_some hx15).2) (L rfl) (ot 41 (.d (.list 1 (([(0 : Int), (1 : Int), (18446744073709551615 : Int), (9223372036854775808 : Int)] : List Int).map (eI .u64))))) (ot 43 (i6 r14.1)))
            (oc (OpJ.loadD tyS31 (by rfl) (by rfl) (L rfl) (ot 44 (.dptr (.int .u64 x15))))
            (oc (OpJ.coe (v := (.st [(bo true), (.d (.int .u64 x13)), (.d (.int .u64 x15))])) (y := (.st [(.bool true), (.int .u64 x13), (.int .u64 x15)])) (Co.st (CoL.cons (Co.d _) (CoL.cons (Co.d _) (CoL.cons (Co.d _) CoL.nil)))) rfl (OpJ.build (places := [(0, 1), (1, 1), (2, 1)]) ⟨Try.underlying33, fun w => by kernel_rfl⟩ tyZS33 (Opds.cons (Opd.bool true) (Opds.cons (ot 40 (.d (.int .u64 x13))) (Opds.cons (ot 45 (.d (.int .u64 x15))) Opds.nil))) (by kernel_rfl) (r := (.st [(bo true), (.d (.int .u64 x13)), (.d (.int .u64 x15))])) (by rfl) (L rfl)))
            (oc (OpJ.storeB (bt := 33) (c := (.d (.st [(.bool false), (.int .u64 0), (.int .u64 0)]))) (v := (.d (.st [(.bool true), (.int .u64 x13), (.int .u64 x15)]))) (c' := (.d (.st [(.bool true), (.int .u64 x13), (.int .u64 x15)]))) tyS33 (SetAt.here _ _) (by rfl) (by rfl) (by simp) rfl (ot 2 (.ptr 1002 0 [])) (ot 46 (.d (.st [(.bool true), (.int .u64 x13), (.int .u64 x15)]))))
            (OpJs.nil))))))))))))) (by kernel_rfl) (by rfl) (by rfl) ?_
          refine seqQ_n ?_
          refine AWp.ghost (mp [] [(2, (.ptr 1002 0 []))] [(0, some (.box 65 (.d (e_exchangepointmake_Deck r14.2)))), (1002, some (.box 33 (.d (.st [(.bool true), (.int .u64 x13), (.int .u64 x15)]))))] hB) ?_
          refine AWp.ret ?_
          refine blkQ_r ?_
          refine seqQ_r ?_
          obtain rfl := Option.some.inj h
          exact ⟨.inl rfl, _, _, (kp [(2, _)] [(0, some _), (1002, some _)] hB rfl rfl (by rfl)), [(.d (.st [(.bool true), (.int .u64 x13), (.int .u64 x15)]))], (Res.cell (c := (.d (.st [(.bool true), (.int .u64 x13), (.int .u64 x15)]))) (by rfl) (by rfl) tyS33 (by rfl) (by rfl) (by rfl) Res.nil), rfl, by rfl, by rfl, by rfl⟩
        · replace h := ite_f hg11 h
          refine sr (c (OpJ.eqlI (L rfl) (q 4) (Opd.int .i64 (4))) rfl (c (OpJ.assign (L rfl) (q 48)) rfl cn)) ?_
          refine gh [(0, _), (2, _), (47, _)] [(0, some _), (1002, some _)] hB rfl rfl (by rfl) ?_
          refine AWp.cond rfl (fun hg16 => ?_) (fun hg16 => ?_)
          · replace h := ite_t hg16 h
            refine AWp.seq ?_
            obtain ⟨r17, hr17, h⟩ := bindS h
            obtain ⟨r18, hr18, h⟩ := bindS h
            obtain ⟨r19, hr19, h⟩ := bindS h
            obtain ⟨r20, hr20, h⟩ := bindS h
            refine AWp.region (oc (mv hN (ot 0 (.ptr 0 0 [])))
              (oc (OpJ.callFn hB fnOk17 (exchangepointmake_Deck_Next_ac r1.2 (1073741824 : Int) r17 hr17) [(0, 0)] (by kernel_rfl) (L rfl) (by kernel_rfl) (OpdL.cons (ot 49 (.ptr 0 0 [])) (OpdL.cons (Opd.int .i64 (1073741824)) OpdL.nil)))
              (oc (OpJ.conv Try.underlying3 Try.underlying31 (L rfl) (ot 50 (i6 r17.1)))
              (oc (mv hN (ot 0 (.ptr 0 0 [])))
              (oc (OpJ.callFn hB fnOk17 (exchangepointmake_Deck_Next_ac r17.2 (5 : Int) r18 hr18) [(0, 0)] (by kernel_rfl) (L rfl) (by kernel_rfl) (OpdL.cons (ot 52 (.ptr 0 0 [])) (OpdL.cons (Opd.int .i64 (5)) OpdL.nil)))
              (oc (mul6 (L rfl) (ot 53 (i6 r18.1)) (Opd.int .i64 (8)))
              (oc (OpJ.conv Try.underlying3 Try.underlying76 (L rfl) (ot 54 (i6 (w64 (r18.1 * (8 : Int))))))
              (oc (OpJ.shl (L rfl) (ot 51 (.d (.int .u64 (IntKind.u64.wrap r17.1)))) (ot 55 (.d (.int .u64 (IntKind.u64.wrap (w64 (r18.1 * (8 : Int))))))) (wrap_nonneg rfl _))
              (oc (mv hN (ot 0 (.ptr 0 0 [])))
              (oc (OpJ.callFn hB fnOk17 (exchangepointmake_Deck_Next_ac r18.2 (1073741824 : Int) r19 hr19) [(0, 0)] (by kernel_rfl) (L rfl) (by kernel_rfl) (OpdL.cons (ot 57 (.ptr 0 0 [])) (OpdL.cons (Opd.int .i64 (1073741824)) OpdL.nil)))
              (oc (OpJ.conv Try.underlying3 Try.underlying31 (L rfl) (ot 58 (i6 r19.1)))
              (oc (mv hN (ot 0 (.ptr 0 0 [])))
              (oc (OpJ.callFn hB fnOk17 (exchangepointmake_Deck_Next_ac r19.2 (5 : Int) r20 hr20) [(0, 0)] (by kernel_rfl) (L rfl) (by kernel_rfl) (OpdL.cons (ot 60 (.ptr 0 0 [])) (OpdL.cons (Opd.int .i64 (5)) OpdL.nil)))
              (oc (mul6 (L rfl) (ot 61 (i6 r20.1)) (Opd.int .i64 (8)))
              (oc (OpJ.conv Try.underlying3 Try.underlying76 (L rfl) (ot 62 (i6 (w64 (r20.1 * (8 : Int))))))
              (oc (OpJ.shl (L rfl) (ot 59 (.d (.int .u64 (IntKind.u64.wrap r19.1)))) (ot 63 (.d (.int .u64 (IntKind.u64.wrap (w64 (r20.1 * (8 : Int))))))) (wrap_nonneg rfl _))
              (oc (OpJ.coe (v := (.st [(bo true), (.d (.int .u64 (shlI .u64 (IntKind.u64.wrap r17.1) (IntKind.u64.wrap (w64 (r18.1 * (8 : Int))))))), (.d (.int .u64 (shlI .u64 (IntKind.u64.wrap r19.1) (IntKind.u64.wrap (w64 (r20.1 * (8 : Int)))))))])) (y := (.st [(.bool true), (.int .u64 (shlI .u64 (IntKind.u64.wrap r17.1) (IntKind.u64.wrap (w64 (r18.1 * (8 : Int)))))), (.int .u64 (shlI .u64 (IntKind.u64.wrap r19.1) (IntKind.u64.wrap (w64 (r20.1 * (8 : Int))))))])) (Co.st (CoL.cons (Co.d _) (CoL.cons (Co.d _) (CoL.cons (Co.d _) CoL.nil)))) rfl (OpJ.build (places := [(0, 1), (1, 1), (2, 1)]) ⟨Try.underlying33, fun w => by kernel_rfl⟩ tyZS33 (Opds.cons (Opd.bool true) (Opds.cons (ot 56 (.d (.int .u64 (shlI .u64 (IntKind.u64.wrap r17.1) (IntKind.u64.wrap (w64 (r18.1 * (8 : Int)))))))) (Opds.cons (ot 64 (.d (.int .u64 (shlI .u64 (IntKind.u64.wrap r19.1) (IntKind.u64.wrap (w64 (r20.1 * (8 : Int)))))))) Opds.nil))) (by kernel_rfl) (r := (.st [(bo true), (.d (.int .u64 (shlI .u64 (IntKind.u64.wrap r17.1) (IntKind.u64.wrap (w64 (r18.1 * (8 : Int))))))), (.d (.int .u64 (shlI .u64 (IntKind.u64.wrap r19.1) (IntKind.u64.wrap (w64 (r20.1 * (8 : Int)))))))])) (by rfl) (L rfl)))
              (oc (OpJ.storeB (bt := 33) (c := (.d (.st [(.bool false), (.int .u64 0), (.int .u64 0)]))) (v := (.d (.st [(.bool true), (.int .u64 (shlI .u64 (IntKind.u64.wrap r17.1) (IntKind.u64.wrap (w64 (r18.1 * (8 : Int)))))), (.int .u64 (shlI .u64 (IntKind.u64.wrap r19.1) (IntKind.u64.wrap (w64 (r20.1 * (8 : Int))))))]))) (c' := (.d (.st [(.bool true), (.int .u64 (shlI .u64 (IntKind.u64.wrap r17.1) (IntKind.u64.wrap (w64 (r18.1 * (8 : Int)))))), (.int .u64 (shlI .u64 (IntKind.u64.wrap r19.1) (IntKind.u64.wrap (w64 (r20.1 * (8 : Int))))))]))) tyS33 (SetAt.here _ _) (by rfl) (by rfl) (by simp) rfl (ot 2 (.ptr 1002 0 [])) (ot 65 (.d (.st [(.bool true), (.int .u64 (shlI .u64 (IntKind.u64.wrap r17.1) (IntKind.u64.wrap (w64 (r18.1 * (8 : Int)))))), (.int .u64 (shlI .u64 (IntKind.u64.wrap r19.1) (IntKind.u64.wrap (w64 (r20.1 * (8 : Int))))))]))))
              (OpJs.nil))))))))))))))))))) (by rfl) (by rfl) ?_
            refine seqQ_n ?_
            refine AWp.ghost (mp [] [(2, (.ptr 1002 0 []))] [(0, some (.box 65 (.d (e_exchangepointmake_Deck r20.2)))), (1002, some (.box 33 (.d (.st [(.bool true), (.int .u64 (shlI .u64 (IntKind.u64.wrap r17.1) (IntKind.u64.wrap (w64 (r18.1 * (8 : Int)))))), (.int .u64 (shlI .u64 (IntKind.u64.wrap r19.1) (IntKind.u64.wrap (w64 (r20.1 * (8 : Int))))))]))))] hB) ?_
            refine AWp.ret ?_
            refine blkQ_r ?_
            refine seqQ_r ?_
            obtain rfl := Option.some.inj h
            exact ⟨.inl rfl, _, _, (kp [(2, _)] [(0, some _), (1002, some _)] hB rfl rfl (by rfl)), [(.d (.st [(.bool true), (.int .u64 (shlI .u64 (IntKind.u64.wrap r17.1) (IntKind.u64.wrap (w64 (r18.1 * (8 : Int)))))), (.int .u64 (shlI .u64 (IntKind.u64.wrap r19.1) (IntKind.u64.wrap (w64 (r20.1 * (8 : Int))))))]))], (Res.cell (c := (.d (.st [(.bool true), (.int .u64 (shlI .u64 (IntKind.u64.wrap r17.1) (IntKind.u64.wrap (w64 (r18.1 * (8 : Int)))))), (.int .u64 (shlI .u64 (IntKind.u64.wrap r19.1) (IntKind.u64.wrap (w64 (r20.1 * (8 : Int))))))]))) (by rfl) (by rfl) tyS33 (by rfl) (by rfl) (by rfl) Res.nil), rfl, by rfl, by rfl, by rfl⟩
          · replace h := ite_f hg16 h
            refine AWp.skip ?_
            refine blkQ_n ?_
            refine seqQ_n ?_
            refine AWp.seq ?_
            obtain ⟨r21, hr21, h⟩ := bindS h
            refine AWp.region (oc (mv hN (ot 0 (.ptr 0 0 [])))
              (oc (OpJ.callFn hB fnOk17 (exchangepointmake_Deck_Next_ac r1.2 (1073741824 : Int) r21 hr21) [(0, 0)] (by kernel_rfl) (L rfl) (by kernel_rfl) (OpdL.cons (ot 66 (.ptr 0 0 [])) (OpdL.cons (Opd.int .i64 (1073741824)) OpdL.nil)))
              (oc (OpJ.conv Try.underlying3 Try.underlying31 (L rfl) (ot 67 (i6 r21.1)))
              (oc (OpJ.coe (v := (.st [(bo false), (.d (.int .u64 0)), (.d (.int .u64 (IntKind.u64.wrap r21.1)))])) (y := (.st [(.bool false), (.int .u64 0), (.int .u64 (IntKind.u64.wrap r21.1))])) (Co.st (CoL.cons (Co.d _) (CoL.cons (Co.d _) (CoL.cons (Co.d _) CoL.nil)))) rfl (OpJ.build (places := [(0, 1), (1, 1), (2, 1)]) ⟨Try.underlying33, fun w => by kernel_rfl⟩ tyZS33 (Opds.cons (ot 68 (.d (.int .u64 (IntKind.u64.wrap r21.1)))) Opds.nil) (by kernel_rfl) (r := (.st [(bo false), (.d (.int .u64 0)), (.d (.int .u64 (IntKind.u64.wrap r21.1)))])) (by rfl) (L rfl)))
              (oc (OpJ.storeB (bt := 33) (c := (.d (.st [(.bool false), (.int .u64 0), (.int .u64 0)]))) (v := (.d (.st [(.bool false), (.int .u64 0), (.int .u64 (IntKind.u64.wrap r21.1))]))) (c' := (.d (.st [(.bool false), (.int .u64 0), (.int .u64 (IntKind.u64.wrap r21.1))]))) tyS33 (SetAt.here _ _) (by rfl) (by rfl) (by simp) rfl (ot 2 (.ptr 1002 0 [])) (ot 69 (.d (.st [(.bool false), (.int .u64 0), (.int .u64 (IntKind.u64.wrap r21.1))]))))
              (OpJs.nil)))))) (by rfl) (by rfl) ?_
            refine seqQ_n ?_
            refine AWp.ghost (mp [] [(2, (.ptr 1002 0 []))] [(0, some (.box 65 (.d (e_exchangepointmake_Deck r21.2)))), (1002, some (.box 33 (.d (.st [(.bool false), (.int .u64 0), (.int .u64 (IntKind.u64.wrap r21.1))]))))] hB) ?_
            refine AWp.ret ?_
            obtain rfl := Option.some.inj h
            exact ⟨.inl rfl, _, _, (kp [(2, _)] [(0, some _), (1002, some _)] hB rfl rfl (by rfl)), [(.d (.st [(.bool false), (.int .u64 0), (.int .u64 (IntKind.u64.wrap r21.1))]))], (Res.cell (c := (.d (.st [(.bool false), (.int .u64 0), (.int .u64 (IntKind.u64.wrap r21.1))]))) (by rfl) (by rfl) tyS33 (by rfl) (by rfl) (by rfl) Res.nil), rfl, by rfl, by rfl, by rfl⟩

noncomputable def exchangepointref01_Valid (a0 : api_Addr) : Option (Bool) :=
  jn (fun m2 : Bool =>
  some m2) (fun j3 =>
  (if a0.fV6 = true then
  j3 true
  else
  j3 ((a0.fHi == (0 : Int)) && (decide (a0.fLo < (4294967296 : Int))))))
set_option maxHeartbeats 4000000 in
set_option maxRecDepth 100000 in
theorem exchangepointref01_Valid_ac (a0 : api_Addr) (r : Bool) (h : exchangepointref01_Valid a0 = some r) : AC Try.prog 50 [(.d (e_api_Addr a0))] [] (.d (.bool r)) [] := by
  refine AC.of_code2 Try.func50 rfl rfl (Nat.le_of_ble_eq_true (by rfl)) fun B hB hN => ?_
  have L {d : Nat} (h : Nat.blt d Try.f50.ntmps = true) : d < B.N := ltN hN h
  delta exchangepointref01_Valid at h
  refine sr (cg (OpJ.box hB (nm := 1001) (by decide) (by simp) rfl (L rfl) (q 0)) rfl (c (OpJ.assign (L rfl) (Opd.bool false)) rfl cn)) ?_
  refine gh [(1, _)] [(1001, some _)] hB rfl rfl (by rfl) ?_
  refine AWp.seq ?_
  refine AWp.cut h (fun m2 : Bool => ([(2, (bo m2))] : EL)) (fun m2 : Bool => ([] : OL)) (fun m2 h E' O' hmat => ?_) (fun j3 hjj3 h => ?_)
  · refine seqQ_n ?_
    refine AWp.ghost hmat ?_
    refine AWp.ret ?_
    obtain rfl := Option.some.inj h
    exact ⟨.inl rfl, _, _, (kp [(2, _)] [] hB rfl rfl (by rfl)), [(bo m2)], (Res.tmp (by rfl) (by rfl) Res.nil), rfl, by rfl, by rfl, by rfl⟩
  · rcases Bool.eq_false_or_eq_true a0.fV6 with hg4 | hg4
    · replace h := ite_t hg4 h
      refine rg (c (ov (.ptr 1001 0 [0]) (fp hN Try.underlying33 0 tyS4 _ (q 1))) rfl (c (lb hN 33 _ _ tyS4 (ad _) (q 3)) rfl (c (OpJ.val (v' := .d (.bool true)) (by rw [hg4]) (mv hN (q 4))) rfl (cg (OpJ.skipU (g := 5) (L rfl) (by rfl)) rfl (cg (OpJ.skipU (g := 5) (L rfl) (by rfl)) rfl (cg (OpJ.skipU (g := 5) (L rfl) (by rfl)) rfl (cg (OpJ.skipU (g := 5) (L rfl) (by rfl)) rfl (cg (OpJ.skipV (g := 9) (L rfl) (by rfl)) rfl (cg (OpJ.skipV (g := 9) (L rfl) (by rfl)) rfl (cg (OpJ.skipV (g := 9) (L rfl) (by rfl)) rfl (cg (OpJ.skipU (g := 5) (L rfl) (by rfl)) rfl (c (OpJ.pickT (L rfl) (q 5) (Opd.bool true)) rfl (c (OpJ.assign (L rfl) (q 14)) rfl cn))))))))))))) ?_
      exact hjj3 _ h _ _ (Mat.trans (mp [] [(2, (bo true))] [] hB) (mp [] _ _ hB))
    · replace h := ite_f hg4 h
      refine rg (c (ov (.ptr 1001 0 [0]) (fp hN Try.underlying33 0 tyS4 _ (q 1))) rfl (c (lb hN 33 _ _ tyS4 (ad _) (q 3)) rfl (c (OpJ.val (v' := .d (.bool false)) (by rw [hg4]) (mv hN (q 4))) rfl (c (OpJ.guarded (g := 5) (by rfl) (ov (.ptr 1001 1 [1]) (fp hN Try.underlying33 1 tyS31 _ (q 1)))) rfl (c (OpJ.guarded (g := 5) (by rfl) (lb hN 33 _ _ tyS31 (ad _) (q 6))) rfl (c (OpJ.guarded (g := 5) (by rfl) (OpJ.eqlI (L rfl) (q 7) (Opd.int .u64 (0)))) rfl (c (OpJ.guarded (g := 5) (by rfl) (mv hN (q 8))) rfl (c (oq hN 9 (ov (.ptr 1001 2 [2]) (fp hN Try.underlying33 2 tyS31 _ (q 1))) (OptL.keep (by rfl) OptL.nil) (GuardV.plain _)) rfl (c (oq hN 9 (lb hN 33 _ _ tyS31 (ad _) (q 10)) (OptL.opt OptL.nil) (GuardV.plain _)) rfl (c (oq hN 9 (OpJ.lss (L rfl) (q 11) (Opd.int .u64 (4294967296))) (OptL.opt OptL.nil) (GuardV.plain _)) rfl (c (OpJ.guarded (g := 5) (by rfl) (OpJ.pickAnd rfl (L rfl) (q 9) (q 12))) rfl (c (OpJ.pickF (L rfl) (q 5) (q 13)) rfl (c (OpJ.assign (L rfl) (q 14)) rfl cn))))))))))))) ?_
      exact hjj3 _ h _ _ (Mat.trans (mp [] [(2, (bo ((a0.fHi == (0 : Int)) && (decide (a0.fLo < (4294967296 : Int))))))] [] hB) (mp [] _ _ hB))

noncomputable def exchangepointref02_width (a0 : api_Addr) : Option (Int) :=
  (if a0.fV6 = true then
  some (128 : Int)
  else
  some (32 : Int))
set_option maxHeartbeats 4000000 in
set_option maxRecDepth 100000 in
theorem exchangepointref02_width_ac (a0 : api_Addr) (r : Int) (h : exchangepointref02_width a0 = some r) : AC Try.prog 51 [(.d (e_api_Addr a0))] [] (.d (.int .i64 r)) [] := by
  refine AC.of_code2 Try.func51 rfl rfl (Nat.le_of_ble_eq_true (by rfl)) fun B hB hN => ?_
  delta exchangepointref02_width at h
  refine sr (cg (OpJ.box hB (nm := 1001) (by decide) (by simp) rfl (ltN hN rfl) (q 0)) rfl (c (OpJ.assign (ltN hN rfl) (Opd.int .i64 (0))) rfl cn)) ?_
  refine gh [(1, _)] [(1001, some _)] hB rfl rfl (by rfl) ?_
  refine AWp.seq ?_
  refine sr (c (ov (.ptr 1001 0 [0]) (fp hN Try.underlying33 0 tyS4 _ (q 1))) rfl (c (lb hN 33 _ _ tyS4 (ad _) (q 3)) rfl cn)) ?_
  refine gh [(4, _)] [] hB rfl rfl (by rfl) ?_
  refine AWp.cond rfl (fun hg1 => ?_) (fun hg1 => ?_)
  · replace h := ite_t hg1 h
    refine sr (c (OpJ.assign (ltN hN rfl) (Opd.int .i64 (128))) rfl cn) ?_
    refine gh [(2, _)] [] hB rfl rfl (by rfl) ?_
    refine AWp.ret ?_
    refine seqQ_r ?_
    obtain rfl := Option.some.inj h
    exact ⟨.inl rfl, _, _, (kp [(2, _)] [] hB rfl rfl (by rfl)), [(i6 (128 : Int))], (Res.tmp (by rfl) (by rfl) Res.nil), rfl, by rfl, by rfl, by rfl⟩
  · replace h := ite_f hg1 h
    refine AWp.skip ?_
    refine seqQ_n ?_
    refine sr (c (OpJ.assign (ltN hN rfl) (Opd.int .i64 (32))) rfl cn) ?_
    refine gh [(2, _)] [] hB rfl rfl (by rfl) ?_
    refine AWp.ret ?_
    obtain rfl := Option.some.inj h
    exact ⟨.inl rfl, _, _, (kp [(2, _)] [] hB rfl rfl (by rfl)), [(i6 (32 : Int))], (Res.tmp (by rfl) (by rfl) Res.nil), rfl, by rfl, by rfl, by rfl⟩

noncomputable def exchangepointref01_Bytes_L0 (a0 : api_Addr) (s6 : Int × (List Int)) : Option ((((List Int))) ⊕ (Int × (List Int))) :=
  (if (decide ((0 : Int) ≤ s6.1)) = true then
  jn (fun m22 : Int =>
  chk (decide ((s6.2 ++ ([(IntKind.u8.wrap (shrI .u64 m22 (IntKind.u64.wrap ((8 : Int) * (IntKind.u64.wrap (Int.tmod s6.1 (8 : Int)))))))] : List Int)).length ≤ LIM)) <|
  some (.inr ((w64 (s6.1 - (1 : Int))), (s6.2 ++ ([(IntKind.u8.wrap (shrI .u64 m22 (IntKind.u64.wrap ((8 : Int) * (IntKind.u64.wrap (Int.tmod s6.1 (8 : Int)))))))] : List Int))))) (fun j23 =>
  (if (decide ((8 : Int) ≤ s6.1)) = true then
  j23 a0.fHi
  else
  j23 a0.fLo))
  else
  some (.inl s6.2))
noncomputable def exchangepointref01_Bytes (a0 : api_Addr) : Option ((List Int)) :=
  (exchangepointref01_Valid a0).bind fun r1 =>
  (if (!r1) = true then
  some ([] : List Int)
  else
  jn (fun m4 : Int =>
  (loop (exchangepointref01_Bytes_L0 a0) ((w64 (m4 - (1 : Int))), ([] : List Int))).bind fun p19 =>
  some p19) (fun j5 =>
  (if a0.fV6 = true then
  j5 (16 : Int)
  else
  j5 (4 : Int))))
set_option maxHeartbeats 4000000 in
set_option maxRecDepth 100000 in
theorem exchangepointref01_Bytes_ac (a0 : api_Addr) (r : (List Int)) (h : exchangepointref01_Bytes a0 = some r) : AC Try.prog 52 [(.d (e_api_Addr a0))] [] (.d (.list 1 (r.map (eI .u8)))) [] := by
  refine AC.of_code2 Try.func52 rfl rfl (Nat.le_of_ble_eq_true (by rfl)) fun B hB hN => ?_
  have L {d : Nat} (h : Nat.blt d Try.f52.ntmps = true) : d < B.N := ltN hN h
  delta exchangepointref01_Bytes at h
  refine sr (cg (OpJ.box hB (nm := 1001) (by decide) (by simp) rfl (L rfl) (q 0)) rfl (c (OpJ.assign (L rfl) Opd.nils) rfl cn)) ?_
  refine gh [(1, _)] [(1001, some _)] hB rfl rfl (by rfl) ?_
  refine AWp.seq ?_
  obtain ⟨r1, hr1, h⟩ := bindS h
  refine sr (c (lb hN 33 _ _ tyS33 (At.here _) (q 1)) rfl (cg (OpJ.callFn hB fnOk50 (exchangepointref01_Valid_ac a0 r1 hr1) [] (by kernel_rfl) (L rfl) (by kernel_rfl) (OpdL.cons (q 7) OpdL.nil)) rfl (c (OpJ.not (L rfl) (q 8)) rfl cn))) ?_
  refine gh [(1, _), (9, _)] [(1001, some _)] hB rfl rfl (by rfl) ?_
  refine AWp.cond rfl (fun hg2 => ?_) (fun hg2 => ?_)
  · replace h := ite_t hg2 h
    refine sr (c (OpJ.assign (L rfl) Opd.nils) rfl cn) ?_
    refine gh [(2, _)] [] hB rfl rfl (by rfl) ?_
    refine AWp.ret ?_
    refine seqQ_r ?_
    obtain rfl := Option.some.inj h
    exact ⟨.inl rfl, _, _, (Mat.trans (Mat.coeP (Ts := [(2, (.d (.list 1 (([] : List Int).map (eI .u8)))))]) (Bs := []) (TwT.cons (x := .nils) (by rfl) (Tw.leaf ⟨_, (Co.nils 1), rfl⟩) TwT.nil) TwB.nil) (mp [] [(2, (.d (.list 1 (([] : List Int).map (eI .u8)))))] [] hB)), [(.d (.list 1 (([] : List Int).map (eI .u8))))], (Res.tmp (by rfl) (by rfl) Res.nil), rfl, by rfl, by rfl, by rfl⟩
  · replace h := ite_f hg2 h
    refine AWp.skip ?_
    refine seqQ_n ?_
    refine sr (c (OpJ.assign (L rfl) (Opd.int .i64 (4))) rfl cn) ?_
    refine gh [(1, _), (3, _)] [(1001, some _)] hB rfl rfl (by rfl) ?_
    refine AWp.seq ?_
    refine sr (c (ov (.ptr 1001 0 [0]) (fp hN Try.underlying33 0 tyS4 _ (q 1))) rfl (c (lb hN 33 _ _ tyS4 (ad _) (q 10)) rfl cn)) ?_
    refine gh [(1, _), (3, _), (11, _)] [(1001, some _)] hB rfl rfl (by rfl) ?_
    refine AWp.cut h (fun m4 : Int => ([(1, (.ptr 1001 0 [])), (3, (i6 m4))] : EL)) (fun m4 : Int => ([(1001, some (.box 33 (.d (e_api_Addr a0))))] : OL)) (fun m4 h E' O' hmat => ?_) (fun j5 hjj5 h => ?_)
    · refine seqQ_n ?_
      refine AWp.ghost hmat ?_
      refine sr (c (OpJ.assign (L rfl) Opd.nils) rfl cn) ?_
      refine gh [(1, _), (3, _), (4, _)] [(1001, some _)] hB rfl rfl (by rfl) ?_
      refine AWp.seq ?_
      refine sr (c (mv hN (q 3)) rfl (c (sub6 (L rfl) (q 12) (Opd.int .i64 (1))) rfl (c (OpJ.assign (L rfl) (q 13)) rfl cn))) ?_
      refine gh [(1, _), (4, _), (5, _)] [(1001, some _)] hB rfl rfl (by rfl) ?_
      refine AWp.block ?_
      obtain ⟨p19, hx27, h⟩ := bindS h
      refine lg (exchangepointref01_Bytes_L0 a0) (fun s6 : Int × (List Int) => ([(1, (.ptr 1001 0 [])), (4, (.sref 3004 1 0 s6.2.length)), (5, (i6 s6.1))] : EL)) (fun s6 : Int × (List Int) => ([(1001, some (.box 33 (.d (e_api_Addr a0)))), (3004, some (.row 5 1 (s6.2.map (eI .u8))))] : OL)) (fun (p19 : ((List Int))) e E' O' => e = .exit 0 ∧ Mat B E' O' ([(4, (.sref 3004 1 0 p19.length))] : EL) ([(3004, some (.row 5 1 (p19.map (eI .u8))))] : OL)) hx27 (Mat.trans (Mat.beginP (n := 3004) (e := 5) (sz := 1) (Ts := [(4, (.sref 3004 1 0 0))]) (Bs := []) hB (by decide) (by rfl) (by decide) (TwT.cons (x := .nils) (by rfl) (Tw.leaf ⟨rfl, rfl⟩) TwT.nil) TwB.nil) (mp [] _ _ hB)) (fun s6 y h => ?_) (fun e E' O' hR => ?_)
      · unfold exchangepointref01_Bytes_L0 at h
        refine AWp.seq ?_
        refine sr (c (mv hN (q 5)) rfl (c (OpJ.geq (L rfl) (q 14) (Opd.int .i64 (0))) rfl cn)) ?_
        refine gh [(1, _), (4, _), (5, _), (15, _)] [(1001, some _), (3004, some _)] hB rfl rfl (by rfl) ?_
        refine AWp.cond rfl (fun hg20 => ?_) (fun hg20 => ?_)
        · replace h := ite_t hg20 h
          refine AWp.skip ?_
          refine seqQ_n ?_
          refine AWp.seq ?_
          refine AWp.block ?_
          refine sr (c (ov (.ptr 1001 2 [2]) (fp hN Try.underlying33 2 tyS31 _ (q 1))) rfl (c (lb hN 33 _ _ tyS31 (ad _) (q 18)) rfl (c (OpJ.assign (L rfl) (q 19)) rfl cn))) ?_
          refine gh [(1, _), (4, _), (5, _), (6, _)] [(1001, some _), (3004, some _)] hB rfl rfl (by rfl) ?_
          refine AWp.seq ?_
          refine sr (c (mv hN (q 5)) rfl (c (OpJ.geq (L rfl) (q 20) (Opd.int .i64 (8))) rfl cn)) ?_
          refine gh [(1, _), (4, _), (5, _), (6, _), (21, _)] [(1001, some _), (3004, some _)] hB rfl rfl (by rfl) ?_
          refine AWp.cut h (fun m22 : Int => ([(1, (.ptr 1001 0 [])), (4, (.sref 3004 1 0 s6.2.length)), (5, (i6 s6.1)), (6, (.d (.int .u64 m22)))] : EL)) (fun m22 : Int => ([(1001, some (.box 33 (.d (e_api_Addr a0)))), (3004, some (.row 5 1 (s6.2.map (eI .u8))))] : OL)) (fun m22 h E' O' hmat => ?_) (fun j23 hjj23 h => ?_)
          · refine seqQ_n ?_
            refine AWp.ghost hmat ?_
            obtain ⟨hc24, h⟩ := chk_some h
            refine rg (c (mv hN (q 4)) rfl (c (mv hN (q 6)) rfl (c (mv hN (q 5)) rfl (c (OpJ.rem (L rfl) (q 26) (Opd.int .i64 (8)) (by decide)) rfl (c (OpJ.conv Try.underlying3 Try.underlying76 (L rfl) (q 27)) rfl (c (OpJ.mul (L rfl) (Opd.int .u64 (8)) (q 28)) rfl (c (OpJ.shr (L rfl) (q 25) (q 29) (wrap_nonneg rfl _)) rfl (c (OpJ.conv Try.underlying31 Try.underlying5 (L rfl) (q 30)) rfl (c (OpJ.buildSlice Try.underlying80 tyS5 tyZD5 (by rfl) (by decide) (by decide) (Opds.cons (q 31) Opds.nil) (by kernel_rfl) (es := ([(.int .u8 (IntKind.u8.wrap (shrI .u64 m22 (IntKind.u64.wrap ((8 : Int) * (IntKind.u64.wrap (Int.tmod s6.1 (8 : Int))))))))] : List D)) (by rfl) (by rfl) (by kernel_rfl) (by simp) (L rfl)) rfl (cg (OpJ.append hB Try.underlying80 tyE5 (nm := 1033) (by decide) (es := s6.2.map (eI .u8)) (ys := ([(IntKind.u8.wrap (shrI .u64 m22 (IntKind.u64.wrap ((8 : Int) * (IntKind.u64.wrap (Int.tmod s6.1 (8 : Int)))))))] : List Int).map (eI .u8)) (es' := (s6.2 ++ ([(IntKind.u8.wrap (shrI .u64 m22 (IntKind.u64.wrap ((8 : Int) * (IntKind.u64.wrap (Int.tmod s6.1 (8 : Int)))))))] : List Int)).map (eI .u8)) (len := (s6.2 ++ ([(IntKind.u8.wrap (shrI .u64 m22 (IntKind.u64.wrap ((8 : Int) * (IntKind.u64.wrap (Int.tmod s6.1 (8 : Int)))))))] : List Int)).length) (by simp) (by simp) (map_sz (f := (eI .u8)) (fun _ => rfl)) (by rw [List.length_map]; exact lim_mulN hc24 (by decide)) (by rw [List.length_map]; exact lim_leN hc24) (L rfl) (by simp) (q 24) (q 32)) rfl (c (OpJ.assign (L rfl) (q 33)) rfl cn))))))))))) ?_
            refine blkQ_n ?_
            refine seqQ_n ?_
            refine gh [(1, _), (4, _), (5, _)] [(1001, some _), (1033, some _)] hB rfl rfl (by rfl) ?_
            refine rg (c (mv hN (q 5)) rfl (c (sub6 (L rfl) (q 16) (Opd.int .i64 (1))) rfl (c (OpJ.assign (L rfl) (q 17)) rfl cn))) ?_
            obtain rfl := Option.some.inj h
            exact ⟨rfl, (Mat.trans (mp [] [(1, (.ptr 1001 0 [])), (4, (.sref 1033 1 0 ((s6.2 ++ ([(IntKind.u8.wrap (shrI .u64 m22 (IntKind.u64.wrap ((8 : Int) * (IntKind.u64.wrap (Int.tmod s6.1 (8 : Int)))))))] : List Int)).length))), (5, (i6 (w64 (s6.1 - (1 : Int)))))] [(1001, some (.box 33 (.d (e_api_Addr a0)))), (1033, some (.row 5 1 ((s6.2 ++ ([(IntKind.u8.wrap (shrI .u64 m22 (IntKind.u64.wrap ((8 : Int) * (IntKind.u64.wrap (Int.tmod s6.1 (8 : Int)))))))] : List Int)).map (eI .u8))))] hB) (mp [(3004, 1033)] _ _ hB))⟩
          · refine AWp.cond rfl (fun hg25 => ?_) (fun hg25 => ?_)
            · replace h := ite_t hg25 h
              refine rg (c (ov (.ptr 1001 1 [1]) (fp hN Try.underlying33 1 tyS31 _ (q 1))) rfl (c (lb hN 33 _ _ tyS31 (ad _) (q 22)) rfl (c (OpJ.assign (L rfl) (q 23)) rfl cn))) ?_
              exact hjj23 _ h _ _ (Mat.trans (mp [] [(1, (.ptr 1001 0 [])), (4, (.sref 3004 1 0 s6.2.length)), (5, (i6 s6.1)), (6, (.d (.int .u64 a0.fHi)))] [(1001, some (.box 33 (.d (e_api_Addr a0)))), (3004, some (.row 5 1 (s6.2.map (eI .u8))))] hB) (mp [] _ _ hB))
            · replace h := ite_f hg25 h
              refine AWp.skip ?_
              exact hjj23 _ h _ _ (mp [] _ _ hB)
        · replace h := ite_f hg20 h
          refine AWp.exit ?_
          refine seqQ_e ?_
          obtain rfl := Option.some.inj h
          exact ⟨(fun hc => by cases hc), rfl, (mp [] _ _ hB)⟩
      · obtain ⟨rfl, hmat⟩ := hR
        refine blkQ_hit ?_
        refine seqQ_n ?_
        refine AWp.ghost hmat ?_
        refine sr (c (mv hN (q 4)) rfl (c (OpJ.assign (L rfl) (q 34)) rfl cn)) ?_
        refine gh [(2, _)] [(3004, some _)] hB rfl rfl (by rfl) ?_
        refine AWp.ret ?_
        obtain rfl := Option.some.inj h
        exact ⟨.inl rfl, _, _, (Mat.trans (Mat.freezeP (n := 3004) (e := 5) (sz := 1) (es := p19.map (eI .u8)) (Ts := [(2, (.d (.list 1 (p19.map (eI .u8)))))]) (Bs := []) (by rfl) (TwT.cons (x := (.sref 3004 1 0 p19.length)) (by rfl) (FrzL.all (by first | rfl | (simp; done) | (simp; omega))) TwT.nil) TwB.nil) (mp [] [(2, (.d (.list 1 (p19.map (eI .u8)))))] [] hB)), [(.d (.list 1 (p19.map (eI .u8))))], (Res.tmp (by rfl) (by rfl) Res.nil), rfl, by rfl, by rfl, by rfl⟩
    · refine AWp.cond rfl (fun hg28 => ?_) (fun hg28 => ?_)
      · replace h := ite_t hg28 h
        refine rg (c (OpJ.assign (L rfl) (Opd.int .i64 (16))) rfl cn) ?_
        exact hjj5 _ h _ _ (Mat.trans (mp [] [(1, (.ptr 1001 0 [])), (3, (i6 (16 : Int)))] [(1001, some (.box 33 (.d (e_api_Addr a0))))] hB) (mp [] _ _ hB))
      · replace h := ite_f hg28 h
        refine AWp.skip ?_
        exact hjj5 _ h _ _ (mp [] _ _ hB)

noncomputable def exchangepointref01_Bytes_2_L0 (a0 : api_Addr) (s6 : Int × (List Int)) : Option ((((List Int))) ⊕ (Int × (List Int))) :=
  (if (decide ((0 : Int) ≤ s6.1)) = true then
  jn (fun m22 : Int =>
  chk (decide ((s6.2 ++ ([(IntKind.u8.wrap (shrI .u64 m22 (IntKind.u64.wrap ((8 : Int) * (IntKind.u64.wrap (Int.tmod s6.1 (8 : Int)))))))] : List Int)).length ≤ LIM)) <|
  some (.inr ((w64 (s6.1 - (1 : Int))), (s6.2 ++ ([(IntKind.u8.wrap (shrI .u64 m22 (IntKind.u64.wrap ((8 : Int) * (IntKind.u64.wrap (Int.tmod s6.1 (8 : Int)))))))] : List Int))))) (fun j23 =>
  (if (decide ((8 : Int) ≤ s6.1)) = true then
  j23 a0.fHi
  else
  j23 a0.fLo))
  else
  some (.inl s6.2))
noncomputable def exchangepointref01_Bytes_2 (a0 : api_Addr) : Option ((List Int)) :=
  (exchangepointref01_Valid a0).bind fun r1 =>
  (if (!r1) = true then
  some ([] : List Int)
  else
  jn (fun m4 : Int =>
  (loop (exchangepointref01_Bytes_2_L0 a0) ((w64 (m4 - (1 : Int))), ([] : List Int))).bind fun p19 =>
  some p19) (fun j5 =>
  (if a0.fV6 = true then
  j5 (16 : Int)
  else
  j5 (4 : Int))))
set_option maxHeartbeats 4000000 in
set_option maxRecDepth 100000 in
theorem exchangepointref01_Bytes_2_ac (a0 : api_Addr) (r : (List Int)) (h : exchangepointref01_Bytes_2 a0 = some r) : AC Try.prog 52 [(.d (e_api_Addr a0))] [] (.sref 900000 1 0 r.length) [(900000, some (.row 5 1 (r.map (eI .u8))))] := by
  refine AC.of_code2 Try.func52 rfl rfl (Nat.le_of_ble_eq_true (by rfl)) fun B hB hN => ?_
  have L {d : Nat} (h : Nat.blt d Try.f52.ntmps = true) : d < B.N := ltN hN h
  delta exchangepointref01_Bytes_2 at h
  refine sr (cg (OpJ.box hB (nm := 1001) (by decide) (by simp) rfl (L rfl) (q 0)) rfl (c (OpJ.assign (L rfl) Opd.nils) rfl cn)) ?_
  refine gh [(1, _)] [(1001, some _)] hB rfl rfl (by rfl) ?_
  refine AWp.seq ?_
  obtain ⟨r1, hr1, h⟩ := bindS h
  refine sr (c (lb hN 33 _ _ tyS33 (At.here _) (q 1)) rfl (cg (OpJ.callFn hB fnOk50 (exchangepointref01_Valid_ac a0 r1 hr1) [] (by kernel_rfl) (L rfl) (by kernel_rfl) (OpdL.cons (q 7) OpdL.nil)) rfl (c (OpJ.not (L rfl) (q 8)) rfl cn))) ?_
  refine gh [(1, _), (9, _)] [(1001, some _)] hB rfl rfl (by rfl) ?_
  refine AWp.cond rfl (fun hg2 => ?_) (fun hg2 => ?_)
  · replace h := ite_t hg2 h
    refine sr (c (OpJ.assign (L rfl) Opd.nils) rfl cn) ?_
    refine gh [(2, _)] [] hB rfl rfl (by rfl) ?_
    refine AWp.ret ?_
    refine seqQ_r ?_
    obtain rfl := Option.some.inj h
    exact ⟨.inl rfl, _, _, (Mat.trans (Mat.beginP (n := 900500) (e := 5) (sz := 1) (Ts := [(2, (.sref 900500 1 0 0))]) (Bs := []) hB (by decide) (by rfl) (by decide) (TwT.cons (x := .nils) (by rfl) (Tw.leaf ⟨rfl, rfl⟩) TwT.nil) TwB.nil) (Mat.trans (Mat.lenP (Ts := [(2, (.sref 900500 1 0 (([] : List Int).length)))]) (Bs := []) (TwT.cons (x := (.sref 900500 1 0 0)) (by rfl) (Tw.leaf ⟨_, _, _, _, _, rfl, rfl, (by first | rfl | (simp; done) | (simp; omega))⟩) TwT.nil) TwB.nil) (mp [(900000, 900500)] [(2, (.sref 900000 1 0 (([] : List Int).length)))] [(900000, some (.row 5 1 (([] : List Int).map (eI .u8))))] hB))), [(.sref 900000 1 0 (([] : List Int).length))], (Res.tmp (by rfl) (by rfl) Res.nil), rfl, by rfl, by rfl, by rfl⟩
  · replace h := ite_f hg2 h
    refine AWp.skip ?_
    refine seqQ_n ?_
    refine sr (c (OpJ.assign (L rfl) (Opd.int .i64 (4))) rfl cn) ?_
    refine gh [(1, _), (3, _)] [(1001, some _)] hB rfl rfl (by rfl) ?_
    refine AWp.seq ?_
    refine sr (c (ov (.ptr 1001 0 [0]) (fp hN Try.underlying33 0 tyS4 _ (q 1))) rfl (c (lb hN 33 _ _ tyS4 (ad _) (q 10)) rfl cn)) ?_
    refine gh [(1, _), (3, _), (11, _)] [(1001, some _)] hB rfl rfl (by rfl) ?_
    refine AWp.cut h (fun m4 : Int => ([(1, (.ptr 1001 0 [])), (3, (i6 m4))] : EL)) (fun m4 : Int => ([(1001, some (.box 33 (.d (e_api_Addr a0))))] : OL)) (fun m4 h E' O' hmat => ?_) (fun j5 hjj5 h => ?_)
    · refine seqQ_n ?_
      refine AWp.ghost hmat ?_
      refine sr (c (OpJ.assign (L rfl) Opd.nils) rfl cn) ?_
      refine gh [(1, _), (3, _), (4, _)] [(1001, some _)] hB rfl rfl (by rfl) ?_
      refine AWp.seq ?_
      refine sr (c (mv hN (q 3)) rfl (c (sub6 (L rfl) (q 12) (Opd.int .i64 (1))) rfl (c (OpJ.assign (L rfl) (q 13)) rfl cn))) ?_
      refine gh [(1, _), (4, _), (5, _)] [(1001, some _)] hB rfl rfl (by rfl) ?_
      refine AWp.block ?_
      obtain ⟨p19, hx27, h⟩ := bindS h
      refine lg (exchangepointref01_Bytes_2_L0 a0) (fun s6 : Int × (List Int) => ([(1, (.ptr 1001 0 [])), (4, (.sref 3004 1 0 s6.2.length)), (5, (i6 s6.1))] : EL)) (fun s6 : Int × (List Int) => ([(1001, some (.box 33 (.d (e_api_Addr a0)))), (3004, some (.row 5 1 (s6.2.map (eI .u8))))] : OL)) (fun (p19 : ((List Int))) e E' O' => e = .exit 0 ∧ Mat B E' O' ([(4, (.sref 3004 1 0 p19.length))] : EL) ([(3004, some (.row 5 1 (p19.map (eI .u8))))] : OL)) hx27 (Mat.trans (Mat.beginP (n := 3004) (e := 5) (sz := 1) (Ts := [(4, (.sref 3004 1 0 0))]) (Bs := []) hB (by decide) (by rfl) (by decide) (TwT.cons (x := .nils) (by rfl) (Tw.leaf ⟨rfl, rfl⟩) TwT.nil) TwB.nil) (mp [] _ _ hB)) (fun s6 y h => ?_) (fun e E' O' hR => ?_)
      · unfold exchangepointref01_Bytes_2_L0 at h
        refine AWp.seq ?_
        refine sr (c (mv hN (q 5)) rfl (c (OpJ.geq (L rfl) (q 14) (Opd.int .i64 (0))) rfl cn)) ?_
        refine gh [(1, _), (4, _), (5, _), (15, _)] [(1001, some _), (3004, some _)] hB rfl rfl (by rfl) ?_
        refine AWp.cond rfl (fun hg20 => ?_) (fun hg20 => ?_)
        · replace h := ite_t hg20 h
          refine AWp.skip ?_
          refine seqQ_n ?_
          refine AWp.seq ?_
          refine AWp.block ?_
          refine sr (c (ov (.ptr 1001 2 [2]) (fp hN Try.underlying33 2 tyS31 _ (q 1))) rfl (c (lb hN 33 _ _ tyS31 (ad _) (q 18)) rfl (c (OpJ.assign (L rfl) (q 19)) rfl cn))) ?_
          refine gh [(1, _), (4, _), (5, _), (6, _)] [(1001, some _), (3004, some _)] hB rfl rfl (by rfl) ?_
          refine AWp.seq ?_
          refine sr (c (mv hN (q 5)) rfl (c (OpJ.geq (L rfl) (q 20) (Opd.int .i64 (8))) rfl cn)) ?_
          refine gh [(1, _), (4, _), (5, _), (6, _), (21, _)] [(1001, some _), (3004, some _)] hB rfl rfl (by rfl) ?_
          refine AWp.cut h (fun m22 : Int => ([(1, (.ptr 1001 0 [])), (4, (.sref 3004 1 0 s6.2.length)), (5, (i6 s6.1)), (6, (.d (.int .u64 m22)))] : EL)) (fun m22 : Int => ([(1001, some (.box 33 (.d (e_api_Addr a0)))), (3004, some (.row 5 1 (s6.2.map (eI .u8))))] : OL)) (fun m22 h E' O' hmat => ?_) (fun j23 hjj23 h => ?_)
          · refine seqQ_n ?_
            refine AWp.ghost hmat ?_
            obtain ⟨hc24, h⟩ := chk_some h
            refine rg (c (mv hN (q 4)) rfl (c (mv hN (q 6)) rfl (c (mv hN (q 5)) rfl (c (OpJ.rem (L rfl) (q 26) (Opd.int .i64 (8)) (by decide)) rfl (c (OpJ.conv Try.underlying3 Try.underlying76 (L rfl) (q 27)) rfl (c (OpJ.mul (L rfl) (Opd.int .u64 (8)) (q 28)) rfl (c (OpJ.shr (L rfl) (q 25) (q 29) (wrap_nonneg rfl _)) rfl (c (OpJ.conv Try.underlying31 Try.underlying5 (L rfl) (q 30)) rfl (c (OpJ.buildSlice Try.underlying80 tyS5 tyZD5 (by rfl) (by decide) (by decide) (Opds.cons (q 31) Opds.nil) (by kernel_rfl) (es := ([(.int .u8 (IntKind.u8.wrap (shrI .u64 m22 (IntKind.u64.wrap ((8 : Int) * (IntKind.u64.wrap (Int.tmod s6.1 (8 : Int))))))))] : List D)) (by rfl) (by rfl) (by kernel_rfl) (by simp) (L rfl)) rfl (cg (OpJ.append hB Try.underlying80 tyE5 (nm := 1033) (by decide) (es := s6.2.map (eI .u8)) (ys := ([(IntKind.u8.wrap (shrI .u64 m22 (IntKind.u64.wrap ((8 : Int) * (IntKind.u64.wrap (Int.tmod s6.1 (8 : Int)))))))] : List Int).map (eI .u8)) (es' := (s6.2 ++ ([(IntKind.u8.wrap (shrI .u64 m22 (IntKind.u64.wrap ((8 : Int) * (IntKind.u64.wrap (Int.tmod s6.1 (8 : Int)))))))] : List Int)).map (eI .u8)) (len := (s6.2 ++ ([(IntKind.u8.wrap (shrI .u64 m22 (IntKind.u64.wrap ((8 : Int) * (IntKind.u64.wrap (Int.tmod s6.1 (8 : Int)))))))] : List Int)).length) (by simp) (by simp) (map_sz (f := (eI .u8)) (fun _ => rfl)) (by rw [List.length_map]; exact lim_mulN hc24 (by decide)) (by rw [List.length_map]; exact lim_leN hc24) (L rfl) (by simp) (q 24) (q 32)) rfl (c (OpJ.assign (L rfl) (q 33)) rfl cn))))))))))) ?_
            refine blkQ_n ?_
            refine seqQ_n ?_
            refine gh [(1, _), (4, _), (5, _)] [(1001, some _), (1033, some _)] hB rfl rfl (by rfl) ?_
            refine rg (c (mv hN (q 5)) rfl (c (sub6 (L rfl) (q 16) (Opd.int .i64 (1))) rfl (c (OpJ.assign (L rfl) (q 17)) rfl cn))) ?_
            obtain rfl := Option.some.inj h
            exact ⟨rfl, (Mat.trans (mp [] [(1, (.ptr 1001 0 [])), (4, (.sref 1033 1 0 ((s6.2 ++ ([(IntKind.u8.wrap (shrI .u64 m22 (IntKind.u64.wrap ((8 : Int) * (IntKind.u64.wrap (Int.tmod s6.1 (8 : Int)))))))] : List Int)).length))), (5, (i6 (w64 (s6.1 - (1 : Int)))))] [(1001, some (.box 33 (.d (e_api_Addr a0)))), (1033, some (.row 5 1 ((s6.2 ++ ([(IntKind.u8.wrap (shrI .u64 m22 (IntKind.u64.wrap ((8 : Int) * (IntKind.u64.wrap (Int.tmod s6.1 (8 : Int)))))))] : List Int)).map (eI .u8))))] hB) (mp [(3004, 1033)] _ _ hB))⟩
          · refine AWp.cond rfl (fun hg25 => ?_) (fun hg25 => ?_)
            · replace h := ite_t hg25 h
              refine rg (c (ov (.ptr 1001 1 [1]) (fp hN Try.underlying33 1 tyS31 _ (q 1))) rfl (c (lb hN 33 _ _ tyS31 (ad _) (q 22)) rfl (c (OpJ.assign (L rfl) (q 23)) rfl cn))) ?_
              exact hjj23 _ h _ _ (Mat.trans (mp [] [(1, (.ptr 1001 0 [])), (4, (.sref 3004 1 0 s6.2.length)), (5, (i6 s6.1)), (6, (.d (.int .u64 a0.fHi)))] [(1001, some (.box 33 (.d (e_api_Addr a0)))), (3004, some (.row 5 1 (s6.2.map (eI .u8))))] hB) (mp [] _ _ hB))
            · replace h := ite_f hg25 h
              refine AWp.skip ?_
              exact hjj23 _ h _ _ (mp [] _ _ hB)
        · replace h := ite_f hg20 h
          refine AWp.exit ?_
          refine seqQ_e ?_
          obtain rfl := Option.some.inj h
          exact ⟨(fun hc => by cases hc), rfl, (mp [] _ _ hB)⟩
      · obtain ⟨rfl, hmat⟩ := hR
        refine blkQ_hit ?_
        refine seqQ_n ?_
        refine AWp.ghost hmat ?_
        refine sr (c (mv hN (q 4)) rfl (c (OpJ.assign (L rfl) (q 34)) rfl cn)) ?_
        refine gh [(2, _)] [(3004, some _)] hB rfl rfl (by rfl) ?_
        refine AWp.ret ?_
        obtain rfl := Option.some.inj h
        exact ⟨.inl rfl, _, _, (mp [(900000, 3004)] [(2, (.sref 900000 1 0 p19.length))] [(900000, some (.row 5 1 (p19.map (eI .u8))))] hB), [(.sref 900000 1 0 p19.length)], (Res.tmp (by rfl) (by rfl) Res.nil), rfl, by rfl, by rfl, by rfl⟩
    · refine AWp.cond rfl (fun hg28 => ?_) (fun hg28 => ?_)
      · replace h := ite_t hg28 h
        refine rg (c (OpJ.assign (L rfl) (Opd.int .i64 (16))) rfl cn) ?_
        exact hjj5 _ h _ _ (Mat.trans (mp [] [(1, (.ptr 1001 0 [])), (3, (i6 (16 : Int)))] [(1001, some (.box 33 (.d (e_api_Addr a0))))] hB) (mp [] _ _ hB))
      · replace h := ite_f hg28 h
        refine AWp.skip ?_
        exact hjj5 _ h _ _ (mp [] _ _ hB)

noncomputable def exchangepointref01_FromBytes_L0 (a0 : (List Int)) (s2 : Int × Int × Int) : Option (((Int × Int)) ⊕ (Int × Int × Int)) :=
  (if (decide (s2.1 < (a0.length : Int))) = true then
  (idx a0 s2.1).bind fun x9 =>
  some (.inr ((w64 (s2.1 + (1 : Int))), (bitI .or .u64 (shlI .u64 s2.2.1 (8 : Int)) (shrI .u64 s2.2.2 (56 : Int))), (bitI .or .u64 (shlI .u64 s2.2.2 (8 : Int)) (IntKind.u64.wrap x9))))
  else
  some (.inl (s2.2.1, s2.2.2)))
noncomputable def exchangepointref01_FromBytes (a0 : (List Int)) : Option (api_Addr × Int) :=
  (if (((a0.length : Int) != (4 : Int)) && ((a0.length : Int) != (16 : Int))) = true then
  some ((api_Addr.mk false (0 : Int) (0 : Int)), (1 : Int))
  else
  (loop (exchangepointref01_FromBytes_L0 a0) ((0 : Int), (0 : Int), (0 : Int))).bind fun p7 =>
  some ((api_Addr.mk ((a0.length : Int) == (16 : Int)) p7.1 p7.2), (0 : Int)))
set_option maxHeartbeats 4000000 in
set_option maxRecDepth 100000 in
theorem exchangepointref01_FromBytes_ac (a0 : (List Int)) (r : api_Addr × Int) (h : exchangepointref01_FromBytes a0 = some r) : AC Try.prog 53 [(.d (.list 1 (a0.map (eI .u8))))] [] (.tup [(.d (e_api_Addr r.1)), (.d (.int .i64 r.2))]) [] := by
  refine AC.of_code2 Try.func53 rfl rfl (Nat.le_of_ble_eq_true (by rfl)) fun B hB hN => ?_
  have L {d : Nat} (h : Nat.blt d Try.f53.ntmps = true) : d < B.N := ltN hN h
  delta exchangepointref01_FromBytes at h
  refine sr (cg (OpJ.alloc hB tyZ33 (nm := 1002) (by decide) (L rfl)) rfl (c (OpJ.assign (L rfl) (Opd.int .i64 (0))) rfl cn)) ?_
  refine gh [(0, _), (2, _)] [(1002, some _)] hB rfl rfl (by rfl) ?_
  refine AWp.seq ?_
  refine sr (c (mv hN (q 0)) rfl (c (OpJ.val (v' := (i6 (a0.length : Int))) (by simp) (OpJ.lenD Try.underlying80 (L rfl) (q 7))) rfl (c (OpJ.neqI (L rfl) (q 8) (Opd.int .i64 (4))) rfl (c (mv hN (q 9)) rfl (c (oq hN 10 (mv hN (q 0)) (OptL.keep (by rfl) OptL.nil) (GuardV.plain _)) rfl (c (oq hN 10 (OpJ.val (v' := (i6 (a0.length : Int))) (by simp) (OpJ.lenD Try.underlying80 (L rfl) (q 11))) (OptL.opt OptL.nil) (GuardV.plain _)) rfl (c (oq hN 10 (OpJ.neqI (L rfl) (q 12) (Opd.int .i64 (16))) (OptL.opt OptL.nil) (GuardV.plain _)) rfl (c (OpJ.pickAnd rfl (L rfl) (q 10) (q 13)) rfl cn)))))))) ?_
  refine gh [(0, _), (2, _), (14, _)] [(1002, some _)] hB rfl rfl (by rfl) ?_
  refine AWp.cond rfl (fun hg1 => ?_) (fun hg1 => ?_)
  · replace h := ite_t hg1 h
    refine sr (c (OpJ.coe (v := (.st [(bo false), (.d (.int .u64 0)), (.d (.int .u64 0))])) (y := (.st [(.bool false), (.int .u64 0), (.int .u64 0)])) (Co.st (CoL.cons (Co.d _) (CoL.cons (Co.d _) (CoL.cons (Co.d _) CoL.nil)))) rfl (OpJ.build (places := [(0, 1), (1, 1), (2, 1)]) ⟨Try.underlying33, fun w => by kernel_rfl⟩ tyZS33 Opds.nil (by kernel_rfl) (r := (.st [(bo false), (.d (.int .u64 0)), (.d (.int .u64 0))])) (by rfl) (L rfl))) rfl (cg (OpJ.storeB tyS33 (SetAt.here _ _) (by rfl) (by rfl) (by simp) rfl (q 2) (q 15)) rfl (c (OpJ.assign (L rfl) (Opd.int .i64 (1))) rfl cn))) ?_
    refine gh [(2, _), (3, _)] [(1002, some _)] hB rfl rfl (by rfl) ?_
    refine AWp.ret ?_
    refine seqQ_r ?_
    obtain rfl := Option.some.inj h
    exact ⟨.inl rfl, _, _, (kp [(2, _), (3, _)] [(1002, some _)] hB rfl rfl (by rfl)), [(.d (.st [(.bool false), (.int .u64 0), (.int .u64 0)])), (i6 1)], (Res.cell (c := (.d (.st [(.bool false), (.int .u64 0), (.int .u64 0)]))) (by rfl) (by rfl) tyS33 (by rfl) (by rfl) (by rfl) (Res.tmp (by rfl) (by rfl) Res.nil)), rfl, by rfl, by rfl, by rfl⟩
  · replace h := ite_f hg1 h
    refine AWp.skip ?_
    refine seqQ_n ?_
    refine sr (c (mv hN (q 0)) rfl (c (OpJ.val (v' := (i6 (a0.length : Int))) (by simp) (OpJ.lenD Try.underlying80 (L rfl) (q 16))) rfl (c (OpJ.eqlI (L rfl) (q 17) (Opd.int .i64 (16))) rfl (c (OpJ.coe (v := (.st [(bo ((a0.length : Int) == (16 : Int))), (.d (.int .u64 0)), (.d (.int .u64 0))])) (y := (.st [(.bool ((a0.length : Int) == (16 : Int))), (.int .u64 0), (.int .u64 0)])) (Co.st (CoL.cons (Co.d _) (CoL.cons (Co.d _) (CoL.cons (Co.d _) CoL.nil)))) rfl (OpJ.build (places := [(0, 1), (1, 1), (2, 1)]) ⟨Try.underlying33, fun w => by kernel_rfl⟩ tyZS33 (Opds.cons (q 18) Opds.nil) (by kernel_rfl) (r := (.st [(bo ((a0.length : Int) == (16 : Int))), (.d (.int .u64 0)), (.d (.int .u64 0))])) (by rfl) (L rfl))) rfl (cg (OpJ.alloc hB tyZ33 (nm := 1004) (by decide) (L rfl)) rfl (cg (OpJ.storeB tyS33 (SetAt.here _ _) (by rfl) (by rfl) (by simp) rfl (q 4) (q 19)) rfl cn)))))) ?_
    refine gh [(0, _), (2, _), (4, _)] [(1002, some _), (1004, some _)] hB rfl rfl (by rfl) ?_
    refine AWp.seq ?_
    refine sr (c (mv hN (q 0)) rfl (c (OpJ.val (v' := (i6 (a0.length : Int))) (by simp) (OpJ.lenD Try.underlying80 (L rfl) (q 20))) rfl (c (mv hN (Opd.int .i64 (0))) rfl cn))) ?_
    refine gh [(2, _), (4, _), (20, _), (21, _), (22, _)] [(1002, some _), (1004, some _)] hB rfl rfl (by rfl) ?_
    refine AWp.block ?_
    obtain ⟨p7, hx11, h⟩ := bindS h
    refine lg (exchangepointref01_FromBytes_L0 a0) (fun s2 : Int × Int × Int => ([(2, (.ptr 1002 0 [])), (4, (.ptr 1004 0 [])), (20, (.d (.list 1 (a0.map (eI .u8))))), (21, (i6 (a0.length : Int))), (22, (i6 s2.1))] : EL)) (fun s2 : Int × Int × Int => ([(1002, some (.box 33 (.d (.st [(.bool false), (.int .u64 0), (.int .u64 0)])))), (1004, some (.box 33 (.d (.st [(.bool ((a0.length : Int) == (16 : Int))), (.int .u64 s2.2.1), (.int .u64 s2.2.2)]))))] : OL)) (fun (p7 : (Int × Int)) e E' O' => e = .exit 0 ∧ Mat B E' O' ([(2, (.ptr 1002 0 [])), (4, (.ptr 1004 0 []))] : EL) ([(1002, some (.box 33 (.d (.st [(.bool false), (.int .u64 0), (.int .u64 0)])))), (1004, some (.box 33 (.d (.st [(.bool ((a0.length : Int) == (16 : Int))), (.int .u64 p7.1), (.int .u64 p7.2)]))))] : OL)) hx11 (mp [] _ _ hB) (fun s2 y h => ?_) (fun e E' O' hR => ?_)
    · unfold exchangepointref01_FromBytes_L0 at h
      refine sr (c (OpJ.lss (L rfl) (q 22) (q 21)) rfl cn) ?_
      refine gh [(2, _), (4, _), (20, _), (21, _), (22, _), (23, _)] [(1002, some _), (1004, some _)] hB rfl rfl (by rfl) ?_
      refine AWp.seq ?_
      refine AWp.cond rfl (fun hg8 => ?_) (fun hg8 => ?_)
      · replace h := ite_t hg8 h
        refine AWp.skip ?_
        refine seqQ_n ?_
        refine AWp.seq ?_
        refine AWp.block ?_
        obtain ⟨x9, hx9, h⟩ := bindS h
        refine sr (c (OpJ.indexD Try.underlying80 tyS5 (idx_some hx9).1 (get_map (eI .u8) (idx_some hx9).2) (L rfl) (q 20) (q 22)) rfl (c (OpJ.loadD tyS5 (by rfl) (by rfl) (L rfl) (q 24)) rfl (c (OpJ.assign (L rfl) (q 25)) rfl cn))) ?_
        refine gh [(2, _), (4, _), (6, _), (20, _), (21, _), (22, _)] [(1002, some _), (1004, some _)] hB rfl rfl (by rfl) ?_
        refine sr (c (ov (.ptr 1004 1 [1]) (fp hN Try.underlying33 1 tyS31 _ (q 4))) rfl (c (lb hN 33 _ _ tyS31 (ad _) (q 26)) rfl (c (OpJ.shl (L rfl) (q 27) (Opd.int .u64 (8)) (by decide)) rfl (c (ov (.ptr 1004 2 [2]) (fp hN Try.underlying33 2 tyS31 _ (q 4))) rfl (c (lb hN 33 _ _ tyS31 (ad _) (q 29)) rfl (c (OpJ.shr (L rfl) (q 30) (Opd.int .u64 (56)) (by decide)) rfl (c (OpJ.bits (.inr (.inl rfl)) (L rfl) (q 28) (q 31)) rfl (c (ov (.ptr 1004 1 [1]) (fp hN Try.underlying33 1 tyS31 _ (q 4))) rfl (cg (OpJ.storeB tyS31 (SetAt.dst1 (by rfl) (by rfl) (SetAt.here _ _) (by rfl) (by rfl) (by first | rfl | omega)) (by rfl) (by rfl) (by simp) rfl (q 33) (q 32)) rfl cn))))))))) ?_
        refine gh [(2, _), (4, _), (6, _), (20, _), (21, _), (22, _)] [(1002, some _), (1004, some _)] hB rfl rfl (by rfl) ?_
        refine rg (c (ov (.ptr 1004 2 [2]) (fp hN Try.underlying33 2 tyS31 _ (q 4))) rfl (c (lb hN 33 _ _ tyS31 (ad _) (q 34)) rfl (c (OpJ.shl (L rfl) (q 35) (Opd.int .u64 (8)) (by decide)) rfl (c (mv hN (q 6)) rfl (c (OpJ.conv Try.underlying5 Try.underlying31 (L rfl) (q 37)) rfl (c (OpJ.bits (.inr (.inl rfl)) (L rfl) (q 36) (q 38)) rfl (c (ov (.ptr 1004 2 [2]) (fp hN Try.underlying33 2 tyS31 _ (q 4))) rfl (cg (OpJ.storeB tyS31 (SetAt.dst1 (by rfl) (by rfl) (SetAt.here _ _) (by rfl) (by rfl) (by first | rfl | omega)) (by rfl) (by rfl) (by simp) rfl (q 40) (q 39)) rfl cn)))))))) ?_
        refine blkQ_n ?_
        refine seqQ_n ?_
        refine gh [(2, _), (4, _), (20, _), (21, _), (22, _)] [(1002, some _), (1004, some _)] hB rfl rfl (by rfl) ?_
        refine rg (c (add6 (L rfl) (q 22) (Opd.int .i64 (1))) rfl (c (mv hN (q 41)) rfl cn)) ?_
        obtain rfl := Option.some.inj h
        exact ⟨rfl, (Mat.trans (mp [] [(2, (.ptr 1002 0 [])), (4, (.ptr 1004 0 [])), (20, (.d (.list 1 (a0.map (eI .u8))))), (21, (i6 (a0.length : Int))), (22, (i6 (w64 (s2.1 + (1 : Int)))))] [(1002, some (.box 33 (.d (.st [(.bool false), (.int .u64 0), (.int .u64 0)])))), (1004, some (.box 33 (.d (.st [(.bool ((a0.length : Int) == (16 : Int))), (.int .u64 (bitI .or .u64 (shlI .u64 s2.2.1 (8 : Int)) (shrI .u64 s2.2.2 (56 : Int)))), (.int .u64 (bitI .or .u64 (shlI .u64 s2.2.2 (8 : Int)) (IntKind.u64.wrap x9)))]))))] hB) (mp [] _ _ hB))⟩
      · replace h := ite_f hg8 h
        refine AWp.exit ?_
        refine seqQ_e ?_
        obtain rfl := Option.some.inj h
        exact ⟨(fun hc => by cases hc), rfl, (mp [] _ _ hB)⟩
    · obtain ⟨rfl, hmat⟩ := hR
      refine blkQ_hit ?_
      refine seqQ_n ?_
      refine AWp.ghost hmat ?_
      refine sr (c (lb hN 33 _ _ tyS33 (At.here _) (q 4)) rfl (cg (OpJ.storeB tyS33 (SetAt.here _ _) (by rfl) (by rfl) (by simp) rfl (q 2) (q 42)) rfl (c (OpJ.assign (L rfl) (Opd.int .i64 (0))) rfl cn))) ?_
      refine gh [(2, _), (3, _)] [(1002, some _)] hB rfl rfl (by rfl) ?_
      refine AWp.ret ?_
      obtain rfl := Option.some.inj h
      exact ⟨.inl rfl, _, _, (kp [(2, _), (3, _)] [(1002, some _)] hB rfl rfl (by rfl)), [(.d (.st [(.bool ((a0.length : Int) == (16 : Int))), (.int .u64 p7.1), (.int .u64 p7.2)])), (i6 0)], (Res.cell (c := (.d (.st [(.bool ((a0.length : Int) == (16 : Int))), (.int .u64 p7.1), (.int .u64 p7.2)]))) (by rfl) (by rfl) tyS33 (by rfl) (by rfl) (by rfl) (Res.tmp (by rfl) (by rfl) Res.nil)), rfl, by rfl, by rfl, by rfl⟩

noncomputable def exchangepointref02_Make_L0 (s9 : Int × (List Int)) : Option ((((List Int))) ⊕ (Int × (List Int))) :=
  (if (decide (s9.1 < (w64 ((8 : Int) * (s9.2.length : Int))))) = true then
  (idx s9.2 (w64 (Int.tdiv s9.1 (8 : Int)))).bind fun x22 =>
  (idx s9.2 (w64 (Int.tdiv s9.1 (8 : Int)))).bind fun x23 =>
  (idx s9.2 (w64 (Int.tdiv s9.1 (8 : Int)))).bind fun x24 =>
  (idx s9.2 (w64 (Int.tdiv s9.1 (8 : Int)))).bind fun x25 =>
  some (.inr ((w64 (s9.1 + (1 : Int))), (s9.2.set (w64 (Int.tdiv s9.1 (8 : Int))).toNat (bitI .andNot .u8 x23 (shrI .u8 (128 : Int) (IntKind.u64.wrap (Int.tmod s9.1 (8 : Int))))))))
  else
  some (.inl s9.2))
noncomputable def exchangepointref02_Make (a0 : api_Addr) (a1 : Int) : Option (api_Prefix × Int) :=
  (exchangepointref01_Valid a0).bind fun r1 =>
  (if (!r1) = true then
  some ((api_Prefix.mk (api_Addr.mk false (0 : Int) (0 : Int)) (0 : Int)), (1 : Int))
  else
  jn (fun m5 : Bool =>
  (if m5 = true then
  some ((api_Prefix.mk (api_Addr.mk false (0 : Int) (0 : Int)) (0 : Int)), (9 : Int))
  else
  (exchangepointref01_Bytes_2 a0).bind fun r8 =>
  (loop (exchangepointref02_Make_L0) (a1, r8)).bind fun p20 =>
  (exchangepointref01_FromBytes p20).bind fun r28 =>
  some ((api_Prefix.mk r28.1 a1), (0 : Int)))) (fun j6 =>
  (if (decide (a1 < (0 : Int))) = true then
  j6 true
  else
  (exchangepointref02_width a0).bind fun r30 =>
  j6 (decide (r30 < a1)))))
set_option maxHeartbeats 4000000 in
set_option maxRecDepth 100000 in
theorem exchangepointref02_Make_ac (a0 : api_Addr) (a1 : Int) (r : api_Prefix × Int) (h : exchangepointref02_Make a0 a1 = some r) : AC Try.prog 18 [(.d (e_api_Addr a0)), (.d (.int .i64 a1))] [] (.tup [(.d (e_api_Prefix r.1)), (.d (.int .i64 r.2))]) [] := by
  refine AC.of_code2 Try.func18 rfl rfl (Nat.le_of_ble_eq_true (by rfl)) fun B hB hN => ?_
  have L {d : Nat} (h : Nat.blt d Try.f18.ntmps = true) : d < B.N := ltN hN h
  delta exchangepointref02_Make at h
  refine sr (cg (OpJ.box hB (nm := 1002) (by decide) (by simp) rfl (L rfl) (q 0)) rfl (cg (OpJ.alloc hB tyZ37 (nm := 1004) (by decide) (L rfl)) rfl (c (OpJ.assign (L rfl) (Opd.int .i64 (0))) rfl cn))) ?_
  refine gh [(1, _), (2, _), (4, _)] [(1002, some _), (1004, some _)] hB rfl rfl (by rfl) ?_
  refine AWp.seq ?_
  refine AWp.block ?_
  obtain ⟨r1, hr1, h⟩ := bindS h
  refine sr (c (lb hN 33 _ _ tyS33 (At.here _) (q 2)) rfl (cg (OpJ.callFn hB fnOk50 (exchangepointref01_Valid_ac a0 r1 hr1) [] (by kernel_rfl) (L rfl) (by kernel_rfl) (OpdL.cons (q 11) OpdL.nil)) rfl (c (OpJ.not (L rfl) (q 12)) rfl (c (OpJ.assign (L rfl) (q 13)) rfl cn)))) ?_
  refine gh [(1, _), (2, _), (4, _), (10, _)] [(1002, some _), (1004, some _)] hB rfl rfl (by rfl) ?_
  refine AWp.cond rfl (fun hg2 => ?_) (fun hg2 => ?_)
  · replace h := ite_t hg2 h
    refine sr (c (OpJ.coe (v := (.st [(.d (.st [(.bool false), (.int .u64 0), (.int .u64 0)])), (i6 0)])) (y := (.st [(.st [(.bool false), (.int .u64 0), (.int .u64 0)]), (.int .i64 0)])) (Co.st (CoL.cons (Co.d _) (CoL.cons (Co.d _) CoL.nil))) rfl (OpJ.build (places := [(0, 3), (3, 1)]) ⟨Try.underlying37, fun w => by kernel_rfl⟩ tyZS37 Opds.nil (by kernel_rfl) (r := (.st [(.d (.st [(.bool false), (.int .u64 0), (.int .u64 0)])), (i6 0)])) (by rfl) (L rfl))) rfl (cg (OpJ.storeB tyS37 (SetAt.here _ _) (by rfl) (by rfl) (by simp) rfl (q 4) (q 14)) rfl (c (OpJ.assign (L rfl) (Opd.int .i64 (1))) rfl cn))) ?_
    refine gh [(4, _), (5, _)] [(1004, some _)] hB rfl rfl (by rfl) ?_
    refine AWp.ret ?_
    refine blkQ_r ?_
    refine seqQ_r ?_
    obtain rfl := Option.some.inj h
    exact ⟨.inl rfl, _, _, (kp [(4, _), (5, _)] [(1004, some _)] hB rfl rfl (by rfl)), [(.d (.st [(.st [(.bool false), (.int .u64 0), (.int .u64 0)]), (.int .i64 0)])), (i6 1)], (Res.cell (c := (.d (.st [(.st [(.bool false), (.int .u64 0), (.int .u64 0)]), (.int .i64 0)]))) (by rfl) (by rfl) tyS37 (by rfl) (by rfl) (by rfl) (Res.tmp (by rfl) (by rfl) Res.nil)), rfl, by rfl, by rfl, by rfl⟩
  · replace h := ite_f hg2 h
    refine AWp.seq ?_
    refine AWp.cut h (fun m5 : Bool => ([(1, (i6 a1)), (2, (.ptr 1002 0 [])), (4, (.ptr 1004 0 [])), (15, (bo m5))] : EL)) (fun m5 : Bool => ([(1002, some (.box 33 (.d (e_api_Addr a0)))), (1004, some (.box 37 (.d (.st [(.st [(.bool false), (.int .u64 0), (.int .u64 0)]), (.int .i64 0)]))))] : OL)) (fun m5 h E' O' hmat => ?_) (fun j6 hjj6 h => ?_)
    · refine seqQ_n ?_
      refine AWp.ghost hmat ?_
      refine AWp.cond rfl (fun hg7 => ?_) (fun hg7 => ?_)
      · replace h := ite_t hg7 h
        refine sr (c (OpJ.coe (v := (.st [(.d (.st [(.bool false), (.int .u64 0), (.int .u64 0)])), (i6 0)])) (y := (.st [(.st [(.bool false), (.int .u64 0), (.int .u64 0)]), (.int .i64 0)])) (Co.st (CoL.cons (Co.d _) (CoL.cons (Co.d _) CoL.nil))) rfl (OpJ.build (places := [(0, 3), (3, 1)]) ⟨Try.underlying37, fun w => by kernel_rfl⟩ tyZS37 Opds.nil (by kernel_rfl) (r := (.st [(.d (.st [(.bool false), (.int .u64 0), (.int .u64 0)])), (i6 0)])) (by rfl) (L rfl))) rfl (cg (OpJ.storeB tyS37 (SetAt.here _ _) (by rfl) (by rfl) (by simp) rfl (q 4) (q 24)) rfl (c (OpJ.assign (L rfl) (Opd.int .i64 (9))) rfl cn))) ?_
        refine gh [(4, _), (5, _)] [(1004, some _)] hB rfl rfl (by rfl) ?_
        refine AWp.ret ?_
        refine blkQ_r ?_
        refine seqQ_r ?_
        obtain rfl := Option.some.inj h
        exact ⟨.inl rfl, _, _, (kp [(4, _), (5, _)] [(1004, some _)] hB rfl rfl (by rfl)), [(.d (.st [(.st [(.bool false), (.int .u64 0), (.int .u64 0)]), (.int .i64 0)])), (i6 (9 : Int))], (Res.cell (c := (.d (.st [(.st [(.bool false), (.int .u64 0), (.int .u64 0)]), (.int .i64 0)]))) (by rfl) (by rfl) tyS37 (by rfl) (by rfl) (by rfl) (Res.tmp (by rfl) (by rfl) Res.nil)), rfl, by rfl, by rfl, by rfl⟩
      · replace h := ite_f hg7 h
        refine AWp.skip ?_
        refine blkQ_n ?_
        refine seqQ_n ?_
        refine AWp.seq ?_
        obtain ⟨r8, hr8, h⟩ := bindS h
        refine AWp.region (oc (lb hN 33 (.d (e_api_Addr a0)) (.d (e_api_Addr a0)) tyS33 (At.here _) (ot 2 (.ptr 1002 0 [])))
          (oc (OpJ.callFn hB fnOk52 (exchangepointref01_Bytes_2_ac a0 r8 hr8) [(900000, 100200)] (by kernel_rfl) (L rfl) (by kernel_rfl) (OpdL.cons (ot 25 (.d (e_api_Addr a0))) OpdL.nil))
          (oc (OpJ.assign (L rfl) (ot 26 (.sref 100200 1 0 r8.length)))
          (OpJs.nil)))) (by rfl) (by rfl) ?_
        refine seqQ_n ?_
        refine AWp.ghost (mp [] [(1, (i6 a1)), (4, (.ptr 1004 0 [])), (6, (.sref 100200 1 0 r8.length))] [(1004, some (.box 37 (.d (.st [(.st [(.bool false), (.int .u64 0), (.int .u64 0)]), (.int .i64 0)])))), (100200, some (.row 5 1 (r8.map (eI .u8))))] hB) ?_
        refine AWp.seq ?_
        refine sr (c (mv hN (q 1)) rfl (c (OpJ.assign (L rfl) (q 27)) rfl cn)) ?_
        refine gh [(1, _), (4, _), (6, _), (7, _)] [(1004, some _), (100200, some _)] hB rfl rfl (by rfl) ?_
        refine AWp.block ?_
        obtain ⟨p20, hx27, h⟩ := bindS h
        refine lg (exchangepointref02_Make_L0) (fun s9 : Int × (List Int) => ([(1, (i6 a1)), (4, (.ptr 1004 0 [])), (6, (.sref 100200 1 0 s9.2.length)), (7, (i6 s9.1))] : EL)) (fun s9 : Int × (List Int) => ([(1004, some (.box 37 (.d (.st [(.st [(.bool false), (.int .u64 0), (.int .u64 0)]), (.int .i64 0)])))), (100200, some (.row 5 1 (s9.2.map (eI .u8))))] : OL)) (fun (p20 : ((List Int))) e E' O' => e = .exit 1 ∧ Mat B E' O' ([(1, (i6 a1)), (4, (.ptr 1004 0 [])), (6, (.sref 100200 1 0 p20.length))] : EL) ([(1004, some (.box 37 (.d (.st [(.st [(.bool false), (.int .u64 0), (.int .u64 0)]), (.int .i64 0)])))), (100200, some (.row 5 1 (p20.map (eI .u8))))] : OL)) hx27 (mp [] _ _ hB) (fun s9 y h => ?_) (fun e E' O' hR => ?_)
        · unfold exchangepointref02_Make_L0 at h
          refine AWp.seq ?_
          refine sr (c (mv hN (q 7)) rfl (c (mv hN (q 6)) rfl (c (OpJ.lenS Try.underlying80 (L rfl) (q 29)) rfl (c (mul6 (L rfl) (Opd.int .i64 (8)) (q 30)) rfl (c (OpJ.lss (L rfl) (q 28) (q 31)) rfl cn))))) ?_
          refine gh [(1, _), (4, _), (6, _), (7, _), (32, _)] [(1004, some _), (100200, some _)] hB rfl rfl (by rfl) ?_
          refine AWp.cond rfl (fun hg21 => ?_) (fun hg21 => ?_)
          · replace h := ite_t hg21 h
            refine AWp.skip ?_
            refine seqQ_n ?_
            refine AWp.seq ?_
            refine AWp.block ?_
            obtain ⟨x22, hx22, h⟩ := bindS h
            obtain ⟨x23, hx23, h⟩ := bindS h
            obtain ⟨x24, hx24, h⟩ := bindS h
            obtain ⟨x25, hx25, h⟩ := bindS h
            refine rg (c (mv hN (q 6)) rfl (c (mv hN (q 7)) rfl (c (quo6 (L rfl) (q 36) (Opd.int .i64 (8)) (by decide)) rfl (c (OpJ.val (v' := (.ptr 100200 ((w64 (Int.tdiv s9.1 (8 : Int))).toNat * 1) [(w64 (Int.tdiv s9.1 (8 : Int))).toNat])) (by simp) (OpJ.indexS Try.underlying80 tyS5 (idx_some hx22).1 (by have := idx_lt hx22; first | (simpa using this) | ((try simp only [List.length_map] at this); (try simp only [List.length_map]); omega)) (L rfl) (q 35) (q 37))) rfl (c (OpJ.loadR (e := 5) (sz := 1) tyS5 (get_map (eI .u8) (idx_some hx23).2) (o := 0) (At.here _) (by rfl) (by rfl) (by rfl) (L rfl) (q 38)) rfl (c (mv hN (q 7)) rfl (c (OpJ.rem (L rfl) (q 40) (Opd.int .i64 (8)) (by decide)) rfl (c (OpJ.conv Try.underlying3 Try.underlying76 (L rfl) (q 41)) rfl (c (OpJ.shr (L rfl) (Opd.int .u8 (128)) (q 42) (wrap_nonneg rfl _)) rfl (c (OpJ.bits (.inr (.inr (.inr rfl))) (L rfl) (q 39) (q 43)) rfl (c (OpJ.val (v' := (.ptr 100200 ((w64 (Int.tdiv s9.1 (8 : Int))).toNat * 1) [(w64 (Int.tdiv s9.1 (8 : Int))).toNat])) (by simp) (OpJ.indexS Try.underlying80 tyS5 (idx_some hx24).1 (by have := idx_lt hx24; first | (simpa using this) | ((try simp only [List.length_map] at this); (try simp only [List.length_map]); omega)) (L rfl) (q 35) (q 37))) rfl (cg (OpJ.storeR (e := 5) (sz := 1) (es' := (s9.2.set (w64 (Int.tdiv s9.1 (8 : Int))).toNat (bitI .andNot .u8 x23 (shrI .u8 (128 : Int) (IntKind.u64.wrap (Int.tmod s9.1 (8 : Int)))))).map (eI .u8)) tyS5 (get_map (eI .u8) (idx_some hx25).2) (o := 0) (SetAt.here _ _) (by rfl) (map_set _ _ _ _) (by rfl) (by rfl) (q 45) (q 44)) rfl cn)))))))))))) ?_
            refine blkQ_n ?_
            refine seqQ_n ?_
            refine gh [(1, _), (4, _), (6, _), (7, _)] [(1004, some _), (100200, some _)] hB rfl rfl (by rfl) ?_
            refine rg (c (mv hN (q 7)) rfl (c (add6 (L rfl) (q 33) (Opd.int .i64 (1))) rfl (c (OpJ.assign (L rfl) (q 34)) rfl cn))) ?_
            obtain rfl := Option.some.inj h
            exact ⟨rfl, (Mat.trans (mp [] [(1, (i6 a1)), (4, (.ptr 1004 0 [])), (6, (.sref 100200 1 0 s9.2.length)), (7, (i6 (w64 (s9.1 + (1 : Int)))))] [(1004, some (.box 37 (.d (.st [(.st [(.bool false), (.int .u64 0), (.int .u64 0)]), (.int .i64 0)])))), (100200, some (.row 5 1 ((s9.2.set (w64 (Int.tdiv s9.1 (8 : Int))).toNat (bitI .andNot .u8 x23 (shrI .u8 (128 : Int) (IntKind.u64.wrap (Int.tmod s9.1 (8 : Int)))))).map (eI .u8))))] hB) (Mat.trans (Mat.lenP (Ts := [(6, (.sref 100200 1 0 ((s9.2.set (w64 (Int.tdiv s9.1 (8 : Int))).toNat (bitI .andNot .u8 x23 (shrI .u8 (128 : Int) (IntKind.u64.wrap (Int.tmod s9.1 (8 : Int)))))).length)))]) (Bs := []) (TwT.cons (x := (.sref 100200 1 0 s9.2.length)) (by rfl) (Tw.leaf ⟨_, _, _, _, _, rfl, rfl, (by first | rfl | (simp; done) | (simp; omega))⟩) TwT.nil) TwB.nil) (mp [] _ _ hB)))⟩
          · replace h := ite_f hg21 h
            refine AWp.exit ?_
            refine seqQ_e ?_
            obtain rfl := Option.some.inj h
            exact ⟨(fun hc => by cases hc), rfl, (mp [] _ _ hB)⟩
        · obtain ⟨rfl, hmat⟩ := hR
          refine blkQ_hit ?_
          refine seqQ_n ?_
          refine AWp.ghost hmat ?_
          refine AWp.seq ?_
          refine AWp.ghost (Mat.freezeP (n := 100200) (e := 5) (sz := 1) (es := p20.map (eI .u8)) (Ts := [(6, (.d (.list 1 (p20.map (eI .u8)))))]) (Bs := []) (by rfl) (TwT.cons (x := (.sref 100200 1 0 p20.length)) (by rfl) (FrzL.all (by first | rfl | (simp; done) | (simp; omega))) TwT.nil) TwB.nil) ?_
          obtain ⟨r28, hr28, h⟩ := bindS h
          refine rg (c (mv hN (q 6)) rfl (cg (OpJ.callFn hB fnOk53 (exchangepointref01_FromBytes_ac p20 r28 hr28) [] (by kernel_rfl) (L rfl) (by kernel_rfl) (OpdL.cons (q 47) OpdL.nil)) rfl (c (mv hN (q 48)) rfl (c (OpJ.extract (by rfl) rfl (L rfl) (q 46)) rfl (c (OpJ.extract (by rfl) rfl (L rfl) (q 46)) rfl (cg (OpJ.alloc hB tyZ33 (nm := 1008) (by decide) (L rfl)) rfl (cg (OpJ.storeB tyS33 (SetAt.here _ _) (by rfl) (by rfl) (by simp) rfl (q 8) (q 49)) rfl (c (OpJ.assign (L rfl) (q 50)) rfl cn)))))))) ?_
          refine seqQ_n ?_
          refine gh [(1, _), (4, _), (8, _)] [(1004, some _), (1008, some _)] hB rfl rfl (by rfl) ?_
          refine sr (c (lb hN 33 _ _ tyS33 (At.here _) (q 8)) rfl (c (mv hN (q 1)) rfl (c (OpJ.coe (v := (.st [(.d (e_api_Addr r28.1)), (i6 a1)])) (y := (.st [(e_api_Addr r28.1), (.int .i64 a1)])) (Co.st (CoL.cons (Co.d _) (CoL.cons (Co.d _) CoL.nil))) rfl (OpJ.build (places := [(0, 3), (3, 1)]) ⟨Try.underlying37, fun w => by kernel_rfl⟩ tyZS37 (Opds.cons (q 51) (Opds.cons (q 52) Opds.nil)) (by kernel_rfl) (r := (.st [(.d (e_api_Addr r28.1)), (i6 a1)])) (by rfl) (L rfl))) rfl (cg (OpJ.storeB tyS37 (SetAt.here _ _) (by rfl) (by rfl) (by simp) rfl (q 4) (q 53)) rfl (c (OpJ.assign (L rfl) (Opd.int .i64 (0))) rfl cn))))) ?_
          refine gh [(4, _), (5, _)] [(1004, some _)] hB rfl rfl (by rfl) ?_
          refine AWp.ret ?_
          obtain rfl := Option.some.inj h
          exact ⟨.inl rfl, _, _, (kp [(4, _), (5, _)] [(1004, some _)] hB rfl rfl (by rfl)), [(.d (.st [(e_api_Addr r28.1), (.int .i64 a1)])), (i6 0)], (Res.cell (c := (.d (.st [(e_api_Addr r28.1), (.int .i64 a1)]))) (by rfl) (by rfl) tyS37 (by rfl) (by rfl) (by rfl) (Res.tmp (by rfl) (by rfl) Res.nil)), rfl, by rfl, by rfl, by rfl⟩
    · rcases Bool.eq_false_or_eq_true (decide (a1 < (0 : Int))) with hg29 | hg29
      · replace h := ite_t hg29 h
        refine rg (c (mv hN (q 1)) rfl (c (OpJ.lss (L rfl) (q 16) (Opd.int .i64 (0))) rfl (c (OpJ.val (v' := .d (.bool true)) (by rw [hg29]) (mv hN (q 17))) rfl (cg (OpJ.skipU (g := 18) (L rfl) (by rfl)) rfl (cg (OpJ.skipU (g := 18) (L rfl) (by rfl)) rfl (cg (OpJ.skipU (g := 18) (L rfl) (by rfl)) rfl (cg (OpJ.skipU (g := 18) (L rfl) (by rfl)) rfl (c (OpJ.pickT (L rfl) (q 18) (Opd.bool true)) rfl (c (OpJ.assign (L rfl) (q 23)) rfl cn))))))))) ?_
        exact hjj6 _ h _ _ (Mat.trans (mp [] [(1, (i6 a1)), (2, (.ptr 1002 0 [])), (4, (.ptr 1004 0 [])), (15, (bo true))] [(1002, some (.box 33 (.d (e_api_Addr a0)))), (1004, some (.box 37 (.d (.st [(.st [(.bool false), (.int .u64 0), (.int .u64 0)]), (.int .i64 0)]))))] hB) (mp [] _ _ hB))
      · replace h := ite_f hg29 h
        obtain ⟨r30, hr30, h⟩ := bindS h
        refine rg (c (mv hN (q 1)) rfl (c (OpJ.lss (L rfl) (q 16) (Opd.int .i64 (0))) rfl (c (OpJ.val (v' := .d (.bool false)) (by rw [hg29]) (mv hN (q 17))) rfl (c (OpJ.guarded (g := 18) (by rfl) (mv hN (q 1))) rfl (c (OpJ.guarded (g := 18) (by rfl) (lb hN 33 _ _ tyS33 (At.here _) (q 2))) rfl (cg (OpJ.guarded (g := 18) (by rfl) (OpJ.callFn hB fnOk51 (exchangepointref02_width_ac a0 r30 hr30) [] (by kernel_rfl) (L rfl) (by kernel_rfl) (OpdL.cons (q 20) OpdL.nil))) rfl (c (OpJ.guarded (g := 18) (by rfl) (OpJ.gtr (L rfl) (q 19) (q 21))) rfl (c (OpJ.pickF (L rfl) (q 18) (q 22)) rfl (c (OpJ.assign (L rfl) (q 23)) rfl cn))))))))) ?_
        exact hjj6 _ h _ _ (Mat.trans (mp [] [(1, (i6 a1)), (2, (.ptr 1002 0 [])), (4, (.ptr 1004 0 [])), (15, (bo (decide (r30 < a1))))] [(1002, some (.box 33 (.d (e_api_Addr a0)))), (1004, some (.box 37 (.d (.st [(.st [(.bool false), (.int .u64 0), (.int .u64 0)]), (.int .i64 0)]))))] hB) (mp [] _ _ hB))

noncomputable def exchangepointmake_Deck_Prefix (a0 : exchangepointmake_Deck) : Option (api_Prefix × exchangepointmake_Deck) :=
  (exchangepointmake_Deck_Addr a0).bind fun r1 =>
  jn (fun m3 : Int =>
  (exchangepointmake_Deck_Next r1.2 (4 : Int)).bind fun r5 =>
  jn (fun m13 : Int × exchangepointmake_Deck =>
  (exchangepointref02_Make r1.1 m13.1).bind fun r15 =>
  some (r15.1, m13.2)) (fun j14 =>
  (if (r5.1 == (0 : Int)) = true then
  (exchangepointmake_Deck_Next r5.2 (w64 (m3 + (1 : Int)))).bind fun r17 =>
  j14 (r17.1, r17.2)
  else
  (if (r5.1 == (1 : Int)) = true then
  (exchangepointmake_Deck_Next r5.2 (9 : Int)).bind fun r19 =>
  j14 ((w64 (m3 - r19.1)), r19.2)
  else
  (if (r5.1 == (2 : Int)) = true then
  (exchangepointmake_Deck_Next r5.2 (5 : Int)).bind fun r21 =>
  (idx ([(8 : Int), (22 : Int), (23 : Int), (24 : Int), (16 : Int)] : List Int) r21.1).bind fun x22 =>
  j14 (x22, r21.2)
  else
  j14 (m3, r5.2)))))) (fun j4 =>
  (if r1.1.fV6 = true then
  j4 (128 : Int)
  else
  j4 (32 : Int)))
set_option maxHeartbeats 4000000 in
set_option maxRecDepth 100000 in
theorem exchangepointmake_Deck_Prefix_ac (a0 : exchangepointmake_Deck) (r : api_Prefix × exchangepointmake_Deck) (h : exchangepointmake_Deck_Prefix a0 = some r) : AC Try.prog 26 [(.ptr 0 0 [])] [(0, (.box 65 (.d (e_exchangepointmake_Deck a0))))] (.d (e_api_Prefix r.1)) [(0, some (.box 65 (.d (e_exchangepointmake_Deck r.2))))] := by
  refine AC.of_code2 Try.func26 rfl rfl (Nat.le_of_ble_eq_true (by rfl)) fun B hB hN => ?_
  have L {d : Nat} (h : Nat.blt d Try.f26.ntmps = true) : d < B.N := ltN hN h
  delta exchangepointmake_Deck_Prefix at h
  refine sr (cg (OpJ.alloc hB tyZ37 (nm := 1002) (by decide) (L rfl)) rfl cn) ?_
  refine gh [(0, _), (2, _)] [(0, some _), (1002, some _)] hB rfl rfl (by rfl) ?_
  refine AWp.seq ?_
  obtain ⟨r1, hr1, h⟩ := bindS h
  refine AWp.region (oc (mv hN (ot 0 (.ptr 0 0 [])))
  (oc (OpJ.callFn hB fnOk16 (exchangepointmake_Deck_Addr_ac a0 r1 hr1) [(0, 0)] (by kernel_rfl) (L rfl) (by kernel_rfl) (OpdL.cons (ot 7 (.ptr 0 0 [])) OpdL.nil))
  (oc (OpJ.alloc hB tyZ33 (nm := 1003) (by decide) (L rfl))
  (oc (OpJ.storeB (bt := 33) (c := (.d (.st [(.bool false), (.int .u64 0), (.int .u64 0)]))) (v := (.d (e_api_Addr r1.1))) (c' := (.d (e_api_Addr r1.1))) tyS33 (SetAt.here _ _) (by rfl) (by rfl) (by simp) rfl (ot 3 (.ptr 1003 0 [])) (ot 8 (.d (e_api_Addr r1.1))))
  (OpJs.nil))))) (by rfl) (by rfl) ?_
  refine seqQ_n ?_
  refine AWp.ghost (mp [] [(0, (.ptr 0 0 [])), (2, (.ptr 1002 0 [])), (3, (.ptr 1003 0 []))] [(0, some (.box 65 (.d (e_exchangepointmake_Deck r1.2)))), (1002, some (.box 37 (.d (.st [(.st [(.bool false), (.int .u64 0), (.int .u64 0)]), (.int .i64 0)])))), (1003, some (.box 33 (.d (e_api_Addr r1.1))))] hB) ?_
  refine sr (c (OpJ.assign (L rfl) (Opd.int .i64 (32))) rfl cn) ?_
  refine gh [(0, _), (2, _), (3, _), (4, _)] [(0, some _), (1002, some _), (1003, some _)] hB rfl rfl (by rfl) ?_
  refine AWp.seq ?_
  refine sr (c (ov (.ptr 1003 0 [0]) (fp hN Try.underlying33 0 tyS4 _ (q 3))) rfl (c (lb hN 33 _ _ tyS4 (ad _) (q 9)) rfl cn)) ?_
  refine gh [(0, _), (2, _), (3, _), (4, _), (10, _)] [(0, some _), (1002, some _), (1003, some _)] hB rfl rfl (by rfl) ?_
  refine AWp.cut h (fun m3 : Int => ([(0, (.ptr 0 0 [])), (2, (.ptr 1002 0 [])), (3, (.ptr 1003 0 [])), (4, (i6 m3))] : EL)) (fun m3 : Int => ([(0, some (.box 65 (.d (e_exchangepointmake_Deck r1.2)))), (1002, some (.box 37 (.d (.st [(.st [(.bool false), (.int .u64 0), (.int .u64 0)]), (.int .i64 0)])))), (1003, some (.box 33 (.d (e_api_Addr r1.1))))] : OL)) (fun m3 h E' O' hmat => ?_) (fun j4 hjj4 h => ?_)
  · refine seqQ_n ?_
    refine AWp.ghost hmat ?_
    refine AWp.seq ?_
    refine AWp.seq ?_
    obtain ⟨r5, hr5, h⟩ := bindS h
    refine AWp.region (oc (mv hN (ot 0 (.ptr 0 0 [])))
      (oc (OpJ.callFn hB fnOk17 (exchangepointmake_Deck_Next_ac r1.2 (4 : Int) r5 hr5) [(0, 0)] (by kernel_rfl) (L rfl) (by kernel_rfl) (OpdL.cons (ot 11 (.ptr 0 0 [])) (OpdL.cons (Opd.int .i64 (4)) OpdL.nil)))
      (OpJs.nil))) (by rfl) (by rfl) ?_
    refine seqQ_n ?_
    refine AWp.ghost (mp [] [(0, (.ptr 0 0 [])), (2, (.ptr 1002 0 [])), (3, (.ptr 1003 0 [])), (4, (i6 m3)), (12, (i6 r5.1))] [(0, some (.box 65 (.d (e_exchangepointmake_Deck r5.2)))), (1002, some (.box 37 (.d (.st [(.st [(.bool false), (.int .u64 0), (.int .u64 0)]), (.int .i64 0)])))), (1003, some (.box 33 (.d (e_api_Addr r1.1))))] hB) ?_
    refine AWp.block ?_
    refine sr (c (OpJ.eqlI (L rfl) (q 12) (Opd.int .i64 (0))) rfl (c (OpJ.assign (L rfl) (q 14)) rfl cn)) ?_
    refine gh [(0, _), (2, _), (3, _), (4, _), (12, _), (13, _)] [(0, some _), (1002, some _), (1003, some _)] hB rfl rfl (by rfl) ?_
    refine AWp.cut h (fun m13 : Int × exchangepointmake_Deck => ([(2, (.ptr 1002 0 [])), (3, (.ptr 1003 0 [])), (4, (i6 m13.1))] : EL)) (fun m13 : Int × exchangepointmake_Deck => ([(0, some (.box 65 (.d (e_exchangepointmake_Deck m13.2)))), (1002, some (.box 37 (.d (.st [(.st [(.bool false), (.int .u64 0), (.int .u64 0)]), (.int .i64 0)])))), (1003, some (.box 33 (.d (e_api_Addr r1.1))))] : OL)) (fun m13 h E' O' hmat => ?_) (fun j14 hjj14 h => ?_)
    · refine blkQ_n ?_
      refine seqQ_n ?_
      refine AWp.ghost hmat ?_
      obtain ⟨r15, hr15, h⟩ := bindS h
      refine sr (c (lb hN 33 _ _ tyS33 (At.here _) (q 3)) rfl (c (mv hN (q 4)) rfl (cg (OpJ.callFn hB fnOk18 (exchangepointref02_Make_ac r1.1 m13.1 r15 hr15) [] (by kernel_rfl) (L rfl) (by kernel_rfl) (OpdL.cons (q 33) (OpdL.cons (q 34) OpdL.nil))) rfl (c (mv hN (q 35)) rfl (c (OpJ.extract (by rfl) rfl (L rfl) (q 32)) rfl (c (OpJ.extract (by rfl) rfl (L rfl) (q 32)) rfl (cg (OpJ.alloc hB tyZ37 (nm := 1005) (by decide) (L rfl)) rfl (cg (OpJ.storeB tyS37 (SetAt.here _ _) (by rfl) (by rfl) (by simp) rfl (q 5) (q 36)) rfl (c (OpJ.assign (L rfl) (q 37)) rfl cn))))))))) ?_
      refine gh [(2, _), (5, _)] [(0, some _), (1002, some _), (1005, some _)] hB rfl rfl (by rfl) ?_
      refine sr (c (lb hN 37 _ _ tyS37 (At.here _) (q 5)) rfl (cg (OpJ.storeB tyS37 (SetAt.here _ _) (by rfl) (by rfl) (by simp) rfl (q 2) (q 38)) rfl cn)) ?_
      refine gh [(2, _)] [(0, some _), (1002, some _)] hB rfl rfl (by rfl) ?_
      refine AWp.ret ?_
      obtain rfl := Option.some.inj h
      exact ⟨.inl rfl, _, _, (kp [(2, _)] [(0, some _), (1002, some _)] hB rfl rfl (by rfl)), [(.d (e_api_Prefix r15.1))], (Res.cell (c := (.d (e_api_Prefix r15.1))) (by rfl) (by rfl) tyS37 (by rfl) (by rfl) (by rfl) Res.nil), rfl, by rfl, by rfl, by rfl⟩
    · refine AWp.cond rfl (fun hg16 => ?_) (fun hg16 => ?_)
      · replace h := ite_t hg16 h
        obtain ⟨r17, hr17, h⟩ := bindS h
        refine AWp.region (oc (mv hN (ot 0 (.ptr 0 0 [])))
          (oc (mv hN (ot 4 (i6 m3)))
          (oc (add6 (L rfl) (ot 16 (i6 m3)) (Opd.int .i64 (1)))
          (oc (OpJ.callFn hB fnOk17 (exchangepointmake_Deck_Next_ac r5.2 (w64 (m3 + (1 : Int))) r17 hr17) [(0, 0)] (by kernel_rfl) (L rfl) (by kernel_rfl) (OpdL.cons (ot 15 (.ptr 0 0 [])) (OpdL.cons (ot 17 (i6 (w64 (m3 + (1 : Int))))) OpdL.nil)))
          (oc (OpJ.assign (L rfl) (ot 18 (i6 r17.1)))
          (OpJs.nil)))))) (by rfl) (by rfl) ?_
        exact hjj14 _ h _ _ (Mat.trans (mp [] [(2, (.ptr 1002 0 [])), (3, (.ptr 1003 0 [])), (4, (i6 r17.1))] [(0, some (.box 65 (.d (e_exchangepointmake_Deck r17.2)))), (1002, some (.box 37 (.d (.st [(.st [(.bool false), (.int .u64 0), (.int .u64 0)]), (.int .i64 0)])))), (1003, some (.box 33 (.d (e_api_Addr r1.1))))] hB) (mp [] _ _ hB))
      · replace h := ite_f hg16 h
        refine sr (c (OpJ.eqlI (L rfl) (q 12) (Opd.int .i64 (1))) rfl (c (OpJ.assign (L rfl) (q 20)) rfl cn)) ?_
        refine gh [(0, _), (2, _), (3, _), (4, _), (12, _), (19, _)] [(0, some _), (1002, some _), (1003, some _)] hB rfl rfl (by rfl) ?_
        refine AWp.cond rfl (fun hg18 => ?_) (fun hg18 => ?_)
        · replace h := ite_t hg18 h
          obtain ⟨r19, hr19, h⟩ := bindS h
          refine AWp.region (oc (mv hN (ot 4 (i6 m3)))
            (oc (mv hN (ot 0 (.ptr 0 0 [])))
            (oc (OpJ.callFn hB fnOk17 (exchangepointmake_Deck_Next_ac r5.2 (9 : Int) r19 hr19) [(0, 0)] (by kernel_rfl) (L rfl) (by kernel_rfl) (OpdL.cons (ot 22 (.ptr 0 0 [])) (OpdL.cons (Opd.int .i64 (9)) OpdL.nil)))
            (oc (sub6 (L rfl) (ot 21 (i6 m3)) (ot 23 (i6 r19.1)))
            (oc (OpJ.assign (L rfl) (ot 24 (i6 (w64 (m3 - r19.1)))))
            (OpJs.nil)))))) (by rfl) (by rfl) ?_
          exact hjj14 _ h _ _ (Mat.trans (mp [] [(2, (.ptr 1002 0 [])), (3, (.ptr 1003 0 [])), (4, (i6 (w64 (m3 - r19.1))))] [(0, some (.box 65 (.d (e_exchangepointmake_Deck r19.2)))), (1002, some (.box 37 (.d (.st [(.st [(.bool false), (.int .u64 0), (.int .u64 0)]), (.int .i64 0)])))), (1003, some (.box 33 (.d (e_api_Addr r1.1))))] hB) (mp [] _ _ hB))
        · replace h := ite_f hg18 h
          refine sr (c (OpJ.eqlI (L rfl) (q 12) (Opd.int .i64 (2))) rfl (c (OpJ.assign (L rfl) (q 26)) rfl cn)) ?_
          refine gh [(0, _), (2, _), (3, _), (4, _), (25, _)] [(0, some _), (1002, some _), (1003, some _)] hB rfl rfl (by rfl) ?_
          refine AWp.cond rfl (fun hg20 => ?_) (fun hg20 => ?_)
          · replace h := ite_t hg20 h
            obtain ⟨r21, hr21, h⟩ := bindS h
            obtain ⟨x22, hx22, h⟩ := bindS h
            refine AWp.region (oc (OpJ.buildSlice Try.underlying22 tyS3 tyZD3 (by rfl) (by decide) (by decide) (Opds.cons (Opd.int .i64 (8)) (Opds.cons (Opd.int .i64 (22)) (Opds.cons (Opd.int .i64 (23)) (Opds.cons (Opd.int .i64 (24)) (Opds.cons (Opd.int .i64 (16)) Opds.nil))))) (by kernel_rfl) (es := ([(.int .i64 (8 : Int)), (.int .i64 (22 : Int)), (.int .i64 (23 : Int)), (.int .i64 (24 : Int)), (.int .i64 (16 : Int))] : List D)) (by rfl) (by rfl) (by kernel_rfl) (by simp) (L rfl))
              (oc (mv hN (ot 0 (.ptr 0 0 [])))
              (oc (OpJ.callFn hB fnOk17 (exchangepointmake_Deck_Next_ac r5.2 (5 : Int) r21 hr21) [(0, 0)] (by kernel_rfl) (L rfl) (by kernel_rfl) (OpdL.cons (ot 28 (.ptr 0 0 [])) (OpdL.cons (Opd.int .i64 (5)) OpdL.nil)))
              (oc (OpJ.indexD (el := (.int .i64 x22)) Try.underlying22 tyS3 (idx_some hx22).1 (get_map (eI .i64) (idx_some hx22).2) (L rfl) (ot 27 (qI_1 ([(8 : Int), (22 : Int), (23 : Int), (24 : Int), (16 : Int)] : List Int))) (ot 29 (i6 r21.1)))
              (oc (OpJ.loadD tyS3 (by rfl) (by rfl) (L rfl) (ot 30 (.dptr (.int .i64 x22))))
              (oc (OpJ.assign (L rfl) (ot 31 (i6 x22)))
              (OpJs.nil))))))) (by rfl) (by rfl) ?_
            exact hjj14 _ h _ _ (Mat.trans (mp [] [(2, (.ptr 1002 0 [])), (3, (.ptr 1003 0 [])), (4, (i6 x22))] [(0, some (.box 65 (.d (e_exchangepointmake_Deck r21.2)))), (1002, some (.box 37 (.d (.st [(.st [(.bool false), (.int .u64 0), (.int .u64 0)]), (.int .i64 0)])))), (1003, some (.box 33 (.d (e_api_Addr r1.1))))] hB) (mp [] _ _ hB))
          · replace h := ite_f hg20 h
            refine AWp.skip ?_
            exact hjj14 _ h _ _ (mp [] _ _ hB)
  · refine AWp.cond rfl (fun hg23 => ?_) (fun hg23 => ?_)
    · replace h := ite_t hg23 h
      refine rg (c (OpJ.assign (L rfl) (Opd.int .i64 (128))) rfl cn) ?_
      exact hjj4 _ h _ _ (Mat.trans (mp [] [(0, (.ptr 0 0 [])), (2, (.ptr 1002 0 [])), (3, (.ptr 1003 0 [])), (4, (i6 (128 : Int)))] [(0, some (.box 65 (.d (e_exchangepointmake_Deck r1.2)))), (1002, some (.box 37 (.d (.st [(.st [(.bool false), (.int .u64 0), (.int .u64 0)]), (.int .i64 0)])))), (1003, some (.box 33 (.d (e_api_Addr r1.1))))] hB) (mp [] _ _ hB))
    · replace h := ite_f hg23 h
      refine AWp.skip ?_
      exact hjj4 _ h _ _ (mp [] _ _ hB)

noncomputable def exchangepointref02_Valid (a0 : api_Prefix) : Option (Bool) :=
  (exchangepointref02_Make a0.fAddr a0.fLen).bind fun r1 =>
  some ((r1.2 == (0 : Int)) && (((a0.fAddr.fV6 == r1.1.fAddr.fV6) && ((a0.fAddr.fHi == r1.1.fAddr.fHi) && ((a0.fAddr.fLo == r1.1.fAddr.fLo) && true))) && ((a0.fLen == r1.1.fLen) && true)))
set_option maxHeartbeats 4000000 in
set_option maxRecDepth 100000 in
theorem exchangepointref02_Valid_ac (a0 : api_Prefix) (r : Bool) (h : exchangepointref02_Valid a0 = some r) : AC Try.prog 61 [(.d (e_api_Prefix a0))] [] (.d (.bool r)) [] := by
  refine AC.of_code2 Try.func61 rfl rfl (Nat.le_of_ble_eq_true (by rfl)) fun B hB hN => ?_
  delta exchangepointref02_Valid at h
  refine sr (cg (OpJ.box hB (nm := 1001) (by decide) (by simp) rfl (ltN hN rfl) (q 0)) rfl (c (OpJ.assign (ltN hN rfl) (Opd.bool false)) rfl cn)) ?_
  refine gh [(1, _)] [(1001, some _)] hB rfl rfl (by rfl) ?_
  obtain ⟨r1, hr1, h⟩ := bindS h
  refine sr (c (ov (.ptr 1001 0 [0]) (fp hN Try.underlying37 0 tyS33 _ (q 1))) rfl (c (lb hN 37 _ _ tyS33 (ad _) (q 6)) rfl (c (ov (.ptr 1001 3 [1]) (fp hN Try.underlying37 3 tyS3 _ (q 1))) rfl (c (lb hN 37 _ _ tyS3 (ad _) (q 8)) rfl (cg (OpJ.callFn hB fnOk18 (exchangepointref02_Make_ac a0.fAddr a0.fLen r1 hr1) [] (by kernel_rfl) (ltN hN rfl) (by kernel_rfl) (OpdL.cons (q 7) (OpdL.cons (q 9) OpdL.nil))) rfl (c (mv hN (q 10)) rfl (c (OpJ.extract (by rfl) rfl (ltN hN rfl) (q 5)) rfl (c (OpJ.extract (by rfl) rfl (ltN hN rfl) (q 5)) rfl (cg (OpJ.alloc hB tyZ37 (nm := 1003) (by decide) (ltN hN rfl)) rfl (cg (OpJ.storeB tyS37 (SetAt.here _ _) (by rfl) (by rfl) (by simp) rfl (q 3) (q 11)) rfl (c (OpJ.assign (ltN hN rfl) (q 12)) rfl cn))))))))))) ?_
  refine gh [(1, _), (3, _), (4, _)] [(1001, some _), (1003, some _)] hB rfl rfl (by rfl) ?_
  refine sr (c (mv hN (q 4)) rfl (c (OpJ.eqlI (ltN hN rfl) (q 13) (Opd.int .i64 (0))) rfl (c (mv hN (q 14)) rfl (c (oq hN 15 (lb hN 37 _ _ tyS37 (At.here _) (q 1)) (OptL.keep (by rfl) OptL.nil) (GuardV.plain _)) rfl (c (oq hN 15 (lb hN 37 _ _ tyS37 (At.here _) (q 3)) (OptL.keep (by rfl) OptL.nil) (GuardV.plain _)) rfl (c (oq hN 15 (OpJ.eqlD (h := 3) (FitE.st Try.underlying37 rfl held37 (FitF.cons (x := (e_api_Addr a0.fAddr)) (y := (e_api_Addr r1.1.fAddr)) (by decide) rfl tyS33 ⟨rfl, rfl⟩ ⟨rfl, rfl⟩ (FitE.st Try.underlying33 rfl held33 (FitF.cons (x := (.bool a0.fAddr.fV6)) (y := (.bool r1.1.fAddr.fV6)) (by decide) rfl tyS4 ⟨rfl, rfl⟩ ⟨rfl, rfl⟩ (FitE.bool (h := 0) a0.fAddr.fV6 r1.1.fAddr.fV6 Try.underlying4) (FitF.cons (x := (.int .u64 a0.fAddr.fHi)) (y := (.int .u64 r1.1.fAddr.fHi)) (by decide) rfl tyS31 ⟨rfl, rfl⟩ ⟨rfl, rfl⟩ (FitE.int (h := 0) a0.fAddr.fHi r1.1.fAddr.fHi Try.underlying31) (FitF.cons (x := (.int .u64 a0.fAddr.fLo)) (y := (.int .u64 r1.1.fAddr.fLo)) (by decide) rfl tyS31 ⟨rfl, rfl⟩ ⟨rfl, rfl⟩ (FitE.int (h := 0) a0.fAddr.fLo r1.1.fAddr.fLo Try.underlying31) FitF.nil)))) (FitF.cons (x := (.int .i64 a0.fLen)) (y := (.int .i64 r1.1.fLen)) (by decide) rfl tyS3 ⟨rfl, rfl⟩ ⟨rfl, rfl⟩ (FitE.int (h := 1) a0.fLen r1.1.fLen Try.underlying3) FitF.nil))) eqg37 ⟨rfl, rfl⟩ (by rfl) (ltN hN rfl) (q 16) (q 17)) (OptL.opt (OptL.opt OptL.nil)) (GuardV.plain _)) rfl (c (OpJ.pickAnd rfl (ltN hN rfl) (q 15) (q 18)) rfl (c (OpJ.assign (ltN hN rfl) (q 19)) rfl cn)))))))) ?_
  refine gh [(2, _)] [] hB rfl rfl (by rfl) ?_
  refine AWp.ret ?_
  obtain rfl := Option.some.inj h
  exact ⟨.inl rfl, _, _, (kp [(2, _)] [] hB rfl rfl (by rfl)), [(bo ((r1.2 == (0 : Int)) && (((a0.fAddr.fV6 == r1.1.fAddr.fV6) && ((a0.fAddr.fHi == r1.1.fAddr.fHi) && ((a0.fAddr.fLo == r1.1.fAddr.fLo) && true))) && ((a0.fLen == r1.1.fLen) && true))))], (Res.tmp (by rfl) (by rfl) Res.nil), rfl, by rfl, by rfl, by rfl⟩

noncomputable def exchangepointref02_Halves (a0 : api_Prefix) : Option (api_Prefix × api_Prefix × Int) :=
  (exchangepointref02_Valid a0).bind fun r1 =>
  (if (!r1) = true then
  some ((api_Prefix.mk (api_Addr.mk false (0 : Int) (0 : Int)) (0 : Int)), (api_Prefix.mk (api_Addr.mk false (0 : Int) (0 : Int)) (0 : Int)), (1 : Int))
  else
  (exchangepointref02_width a0.fAddr).bind fun r3 =>
  (if (a0.fLen == r3) = true then
  some ((api_Prefix.mk (api_Addr.mk false (0 : Int) (0 : Int)) (0 : Int)), (api_Prefix.mk (api_Addr.mk false (0 : Int) (0 : Int)) (0 : Int)), (9 : Int))
  else
  (exchangepointref01_Bytes_2 a0.fAddr).bind fun r5 =>
  (idx r5 (w64 (Int.tdiv a0.fLen (8 : Int)))).bind fun x6 =>
  (idx r5 (w64 (Int.tdiv a0.fLen (8 : Int)))).bind fun x7 =>
  (idx r5 (w64 (Int.tdiv a0.fLen (8 : Int)))).bind fun x8 =>
  (idx r5 (w64 (Int.tdiv a0.fLen (8 : Int)))).bind fun x9 =>
  (exchangepointref01_FromBytes (((r5.set (w64 (Int.tdiv a0.fLen (8 : Int))).toNat (bitI .or .u8 x7 (shrI .u8 (128 : Int) (IntKind.u64.wrap (Int.tmod a0.fLen (8 : Int)))))).drop 0).take r5.length)).bind fun r10 =>
  some ((api_Prefix.mk a0.fAddr (w64 (a0.fLen + (1 : Int)))), (api_Prefix.mk r10.1 (w64 (a0.fLen + (1 : Int)))), (0 : Int))))
set_option maxHeartbeats 4000000 in
set_option maxRecDepth 100000 in
theorem exchangepointref02_Halves_ac (a0 : api_Prefix) (r : api_Prefix × api_Prefix × Int) (h : exchangepointref02_Halves a0 = some r) : AC Try.prog 40 [(.d (e_api_Prefix a0))] [] (.tup [(.d (e_api_Prefix r.1)), (.d (e_api_Prefix r.2.1)), (.d (.int .i64 r.2.2))]) [] := by
  refine AC.of_code2 Try.func40 rfl rfl (Nat.le_of_ble_eq_true (by rfl)) fun B hB hN => ?_
  have L {d : Nat} (h : Nat.blt d Try.f40.ntmps = true) : d < B.N := ltN hN h
  delta exchangepointref02_Halves at h
  refine sr (cg (OpJ.box hB (nm := 1001) (by decide) (by simp) rfl (L rfl) (q 0)) rfl (cg (OpJ.alloc hB tyZ37 (nm := 1002) (by decide) (L rfl)) rfl (cg (OpJ.alloc hB tyZ37 (nm := 1003) (by decide) (L rfl)) rfl (c (OpJ.assign (L rfl) (Opd.int .i64 (0))) rfl cn)))) ?_
  refine gh [(1, _), (2, _), (3, _)] [(1001, some _), (1002, some _), (1003, some _)] hB rfl rfl (by rfl) ?_
  refine AWp.seq ?_
  refine AWp.block ?_
  obtain ⟨r1, hr1, h⟩ := bindS h
  refine sr (c (lb hN 37 _ _ tyS37 (At.here _) (q 1)) rfl (cg (OpJ.callFn hB fnOk61 (exchangepointref02_Valid_ac a0 r1 hr1) [] (by kernel_rfl) (L rfl) (by kernel_rfl) (OpdL.cons (q 9) OpdL.nil)) rfl (c (OpJ.not (L rfl) (q 10)) rfl (c (OpJ.assign (L rfl) (q 11)) rfl cn)))) ?_
  refine gh [(1, _), (2, _), (3, _), (8, _)] [(1001, some _), (1002, some _), (1003, some _)] hB rfl rfl (by rfl) ?_
  refine AWp.cond rfl (fun hg2 => ?_) (fun hg2 => ?_)
  · replace h := ite_t hg2 h
    refine sr (c (OpJ.coe (v := (.st [(.d (.st [(.bool false), (.int .u64 0), (.int .u64 0)])), (i6 0)])) (y := (.st [(.st [(.bool false), (.int .u64 0), (.int .u64 0)]), (.int .i64 0)])) (Co.st (CoL.cons (Co.d _) (CoL.cons (Co.d _) CoL.nil))) rfl (OpJ.build (places := [(0, 3), (3, 1)]) ⟨Try.underlying37, fun w => by kernel_rfl⟩ tyZS37 Opds.nil (by kernel_rfl) (r := (.st [(.d (.st [(.bool false), (.int .u64 0), (.int .u64 0)])), (i6 0)])) (by rfl) (L rfl))) rfl (c (OpJ.coe (v := (.st [(.d (.st [(.bool false), (.int .u64 0), (.int .u64 0)])), (i6 0)])) (y := (.st [(.st [(.bool false), (.int .u64 0), (.int .u64 0)]), (.int .i64 0)])) (Co.st (CoL.cons (Co.d _) (CoL.cons (Co.d _) CoL.nil))) rfl (OpJ.build (places := [(0, 3), (3, 1)]) ⟨Try.underlying37, fun w => by kernel_rfl⟩ tyZS37 Opds.nil (by kernel_rfl) (r := (.st [(.d (.st [(.bool false), (.int .u64 0), (.int .u64 0)])), (i6 0)])) (by rfl) (L rfl))) rfl (cg (OpJ.storeB tyS37 (SetAt.here _ _) (by rfl) (by rfl) (by simp) rfl (q 2) (q 12)) rfl (cg (OpJ.storeB tyS37 (SetAt.here _ _) (by rfl) (by rfl) (by simp) rfl (q 3) (q 13)) rfl (c (OpJ.assign (L rfl) (Opd.int .i64 (1))) rfl cn))))) ?_
    refine gh [(2, _), (3, _), (4, _)] [(1002, some _), (1003, some _)] hB rfl rfl (by rfl) ?_
    refine AWp.ret ?_
    refine blkQ_r ?_
    refine seqQ_r ?_
    obtain rfl := Option.some.inj h
    exact ⟨.inl rfl, _, _, (kp [(2, _), (3, _), (4, _)] [(1002, some _), (1003, some _)] hB rfl rfl (by rfl)), [(.d (.st [(.st [(.bool false), (.int .u64 0), (.int .u64 0)]), (.int .i64 0)])), (.d (.st [(.st [(.bool false), (.int .u64 0), (.int .u64 0)]), (.int .i64 0)])), (i6 1)], (Res.cell (c := (.d (.st [(.st [(.bool false), (.int .u64 0), (.int .u64 0)]), (.int .i64 0)]))) (by rfl) (by rfl) tyS37 (by rfl) (by rfl) (by rfl) (Res.cell (c := (.d (.st [(.st [(.bool false), (.int .u64 0), (.int .u64 0)]), (.int .i64 0)]))) (by rfl) (by rfl) tyS37 (by rfl) (by rfl) (by rfl) (Res.tmp (by rfl) (by rfl) Res.nil))), rfl, by rfl, by rfl, by rfl⟩
  · replace h := ite_f hg2 h
    obtain ⟨r3, hr3, h⟩ := bindS h
    refine sd (c (ov (.ptr 1001 3 [1]) (fp hN Try.underlying37 3 tyS3 _ (q 1))) rfl (c (lb hN 37 _ _ tyS3 (ad _) (q 15)) rfl (c (ov (.ptr 1001 0 [0]) (fp hN Try.underlying37 0 tyS33 _ (q 1))) rfl (c (lb hN 37 _ _ tyS33 (ad _) (q 17)) rfl (cg (OpJ.callFn hB fnOk51 (exchangepointref02_width_ac a0.fAddr r3 hr3) [] (by kernel_rfl) (L rfl) (by kernel_rfl) (OpdL.cons (q 18) OpdL.nil)) rfl (c (OpJ.eqlI (L rfl) (q 16) (q 19)) rfl (c (OpJ.assign (L rfl) (q 20)) rfl cn))))))) (by kernel_rfl) (by kernel_rfl) ?_
    refine gh [(1, _), (2, _), (3, _), (14, _)] [(1001, some _), (1002, some _), (1003, some _)] hB rfl rfl (by rfl) ?_
    refine AWp.cond rfl (fun hg4 => ?_) (fun hg4 => ?_)
    · replace h := ite_t hg4 h
      refine sr (c (OpJ.coe (v := (.st [(.d (.st [(.bool false), (.int .u64 0), (.int .u64 0)])), (i6 0)])) (y := (.st [(.st [(.bool false), (.int .u64 0), (.int .u64 0)]), (.int .i64 0)])) (Co.st (CoL.cons (Co.d _) (CoL.cons (Co.d _) CoL.nil))) rfl (OpJ.build (places := [(0, 3), (3, 1)]) ⟨Try.underlying37, fun w => by kernel_rfl⟩ tyZS37 Opds.nil (by kernel_rfl) (r := (.st [(.d (.st [(.bool false), (.int .u64 0), (.int .u64 0)])), (i6 0)])) (by rfl) (L rfl))) rfl (c (OpJ.coe (v := (.st [(.d (.st [(.bool false), (.int .u64 0), (.int .u64 0)])), (i6 0)])) (y := (.st [(.st [(.bool false), (.int .u64 0), (.int .u64 0)]), (.int .i64 0)])) (Co.st (CoL.cons (Co.d _) (CoL.cons (Co.d _) CoL.nil))) rfl (OpJ.build (places := [(0, 3), (3, 1)]) ⟨Try.underlying37, fun w => by kernel_rfl⟩ tyZS37 Opds.nil (by kernel_rfl) (r := (.st [(.d (.st [(.bool false), (.int .u64 0), (.int .u64 0)])), (i6 0)])) (by rfl) (L rfl))) rfl (cg (OpJ.storeB tyS37 (SetAt.here _ _) (by rfl) (by rfl) (by simp) rfl (q 2) (q 21)) rfl (cg (OpJ.storeB tyS37 (SetAt.here _ _) (by rfl) (by rfl) (by simp) rfl (q 3) (q 22)) rfl (c (OpJ.assign (L rfl) (Opd.int .i64 (9))) rfl cn))))) ?_
      refine gh [(2, _), (3, _), (4, _)] [(1002, some _), (1003, some _)] hB rfl rfl (by rfl) ?_
      refine AWp.ret ?_
      refine blkQ_r ?_
      refine seqQ_r ?_
      obtain rfl := Option.some.inj h
      exact ⟨.inl rfl, _, _, (kp [(2, _), (3, _), (4, _)] [(1002, some _), (1003, some _)] hB rfl rfl (by rfl)), [(.d (.st [(.st [(.bool false), (.int .u64 0), (.int .u64 0)]), (.int .i64 0)])), (.d (.st [(.st [(.bool false), (.int .u64 0), (.int .u64 0)]), (.int .i64 0)])), (i6 (9 : Int))], (Res.cell (c := (.d (.st [(.st [(.bool false), (.int .u64 0), (.int .u64 0)]), (.int .i64 0)]))) (by rfl) (by rfl) tyS37 (by rfl) (by rfl) (by rfl) (Res.cell (c := (.d (.st [(.st [(.bool false), (.int .u64 0), (.int .u64 0)]), (.int .i64 0)]))) (by rfl) (by rfl) tyS37 (by rfl) (by rfl) (by rfl) (Res.tmp (by rfl) (by rfl) Res.nil))), rfl, by rfl, by rfl, by rfl⟩
    · replace h := ite_f hg4 h
      refine AWp.skip ?_
      refine blkQ_n ?_
      refine seqQ_n ?_
      refine AWp.seq ?_
      obtain ⟨r5, hr5, h⟩ := bindS h
      refine AWp.region (oc (ov (.ptr 1001 0 [0]) (fp hN Try.underlying37 0 tyS33 (.box 37 (.d (e_api_Prefix a0))) (ot 1 (.ptr 1001 0 []))))
        (oc (lb hN 37 (.d (e_api_Prefix a0)) (.d (e_api_Addr a0.fAddr)) tyS33 (ad (e_api_Addr a0.fAddr)) (ot 23 (.ptr 1001 0 [0])))
        (oc (OpJ.callFn hB fnOk52 (exchangepointref01_Bytes_2_ac a0.fAddr r5 hr5) [(900000, 100200)] (by kernel_rfl) (L rfl) (by kernel_rfl) (OpdL.cons (ot 24 (.d (e_api_Addr a0.fAddr))) OpdL.nil))
        (oc (OpJ.assign (L rfl) (ot 25 (.sref 100200 1 0 r5.length)))
        (OpJs.nil))))) (by rfl) (by rfl) ?_
      refine seqQ_n ?_
      refine AWp.ghost (mp [] [(1, (.ptr 1001 0 [])), (2, (.ptr 1002 0 [])), (3, (.ptr 1003 0 [])), (5, (.sref 100200 1 0 r5.length))] [(1001, some (.box 37 (.d (e_api_Prefix a0)))), (1002, some (.box 37 (.d (.st [(.st [(.bool false), (.int .u64 0), (.int .u64 0)]), (.int .i64 0)])))), (1003, some (.box 37 (.d (.st [(.st [(.bool false), (.int .u64 0), (.int .u64 0)]), (.int .i64 0)])))), (100200, some (.row 5 1 (r5.map (eI .u8))))] hB) ?_
      obtain ⟨x6, hx6, h⟩ := bindS h
      obtain ⟨x7, hx7, h⟩ := bindS h
      obtain ⟨x8, hx8, h⟩ := bindS h
      obtain ⟨x9, hx9, h⟩ := bindS h
      refine sd (c (mv hN (q 5)) rfl (c (ov (.ptr 1001 3 [1]) (fp hN Try.underlying37 3 tyS3 _ (q 1))) rfl (c (lb hN 37 _ _ tyS3 (ad _) (q 27)) rfl (c (quo6 (L rfl) (q 28) (Opd.int .i64 (8)) (by decide)) rfl (c (OpJ.val (v' := (.ptr 100200 ((w64 (Int.tdiv a0.fLen (8 : Int))).toNat * 1) [(w64 (Int.tdiv a0.fLen (8 : Int))).toNat])) (by simp) (OpJ.indexS Try.underlying80 tyS5 (idx_some hx6).1 (by have := idx_lt hx6; first | (simpa using this) | ((try simp only [List.length_map] at this); (try simp only [List.length_map]); omega)) (L rfl) (q 26) (q 29))) rfl (c (OpJ.loadR (e := 5) (sz := 1) tyS5 (get_map (eI .u8) (idx_some hx7).2) (o := 0) (At.here _) (by rfl) (by rfl) (by rfl) (L rfl) (q 30)) rfl (c (ov (.ptr 1001 3 [1]) (fp hN Try.underlying37 3 tyS3 _ (q 1))) rfl (c (lb hN 37 _ _ tyS3 (ad _) (q 32)) rfl (c (OpJ.rem (L rfl) (q 33) (Opd.int .i64 (8)) (by decide)) rfl (c (OpJ.conv Try.underlying3 Try.underlying76 (L rfl) (q 34)) rfl (c (OpJ.shr (L rfl) (Opd.int .u8 (128)) (q 35) (wrap_nonneg rfl _)) rfl (c (OpJ.bits (.inr (.inl rfl)) (L rfl) (q 31) (q 36)) rfl (c (OpJ.val (v' := (.ptr 100200 ((w64 (Int.tdiv a0.fLen (8 : Int))).toNat * 1) [(w64 (Int.tdiv a0.fLen (8 : Int))).toNat])) (by simp) (OpJ.indexS Try.underlying80 tyS5 (idx_some hx8).1 (by have := idx_lt hx8; first | (simpa using this) | ((try simp only [List.length_map] at this); (try simp only [List.length_map]); omega)) (L rfl) (q 26) (q 29))) rfl (cg (OpJ.storeR (e := 5) (sz := 1) (es' := (r5.set (w64 (Int.tdiv a0.fLen (8 : Int))).toNat (bitI .or .u8 x7 (shrI .u8 (128 : Int) (IntKind.u64.wrap (Int.tmod a0.fLen (8 : Int)))))).map (eI .u8)) tyS5 (get_map (eI .u8) (idx_some hx9).2) (o := 0) (SetAt.here _ _) (by rfl) (map_set _ _ _ _) (by rfl) (by rfl) (q 38) (q 37)) rfl cn)))))))))))))) (by kernel_rfl) (by kernel_rfl) ?_
      refine gh [(1, _), (2, _), (3, _), (5, _)] [(1001, some _), (1002, some _), (1003, some _), (100200, some _)] hB rfl rfl (by rfl) ?_
      refine AWp.seq ?_
      refine AWp.ghost (Mat.freezeP (n := 100200) (e := 5) (sz := 1) (es := (r5.set (w64 (Int.tdiv a0.fLen (8 : Int))).toNat (bitI .or .u8 x7 (shrI .u8 (128 : Int) (IntKind.u64.wrap (Int.tmod a0.fLen (8 : Int)))))).map (eI .u8)) (Ts := [(5, (.d (.list 1 ((((r5.set (w64 (Int.tdiv a0.fLen (8 : Int))).toNat (bitI .or .u8 x7 (shrI .u8 (128 : Int) (IntKind.u64.wrap (Int.tmod a0.fLen (8 : Int)))))).drop 0).take r5.length).map (eI .u8)))))]) (Bs := []) (by rfl) (TwT.cons (x := (.sref 100200 1 0 r5.length)) (by rfl) (FrzL.cut (fs := (((r5.set (w64 (Int.tdiv a0.fLen (8 : Int))).toNat (bitI .or .u8 x7 (shrI .u8 (128 : Int) (IntKind.u64.wrap (Int.tmod a0.fLen (8 : Int)))))).drop 0).take r5.length).map (eI .u8)) (by simp only [List.length_map, List.length_append, List.length_take, List.length_drop, List.length_replicate, List.length_set]; omega) (by first | rw [List.map_drop, List.map_take] | simp [List.map_take, List.map_drop])) TwT.nil) TwB.nil) ?_
      obtain ⟨r10, hr10, h⟩ := bindS h
      refine rg (c (mv hN (q 5)) rfl (cg (OpJ.callFn hB fnOk53 (exchangepointref01_FromBytes_ac (((r5.set (w64 (Int.tdiv a0.fLen (8 : Int))).toNat (bitI .or .u8 x7 (shrI .u8 (128 : Int) (IntKind.u64.wrap (Int.tmod a0.fLen (8 : Int)))))).drop 0).take r5.length) r10 hr10) [] (by kernel_rfl) (L rfl) (by kernel_rfl) (OpdL.cons (q 40) OpdL.nil)) rfl (c (mv hN (q 41)) rfl (c (OpJ.extract (by rfl) rfl (L rfl) (q 39)) rfl (c (OpJ.extract (by rfl) rfl (L rfl) (q 39)) rfl (cg (OpJ.alloc hB tyZ33 (nm := 1006) (by decide) (L rfl)) rfl (cg (OpJ.storeB tyS33 (SetAt.here _ _) (by rfl) (by rfl) (by simp) rfl (q 6) (q 42)) rfl (c (OpJ.assign (L rfl) (q 43)) rfl cn)))))))) ?_
      refine seqQ_n ?_
      refine gh [(1, _), (2, _), (3, _), (6, _)] [(1001, some _), (1002, some _), (1003, some _), (1006, some _)] hB rfl rfl (by rfl) ?_
      refine sd (c (ov (.ptr 1001 0 [0]) (fp hN Try.underlying37 0 tyS33 _ (q 1))) rfl (c (lb hN 37 _ _ tyS33 (ad _) (q 44)) rfl (c (ov (.ptr 1001 3 [1]) (fp hN Try.underlying37 3 tyS3 _ (q 1))) rfl (c (lb hN 37 _ _ tyS3 (ad _) (q 46)) rfl (c (add6 (L rfl) (q 47) (Opd.int .i64 (1))) rfl (c (OpJ.coe (v := (.st [(.d (e_api_Addr a0.fAddr)), (i6 (w64 (a0.fLen + (1 : Int))))])) (y := (.st [(e_api_Addr a0.fAddr), (.int .i64 (w64 (a0.fLen + (1 : Int))))])) (Co.st (CoL.cons (Co.d _) (CoL.cons (Co.d _) CoL.nil))) rfl (OpJ.build (places := [(0, 3), (3, 1)]) ⟨Try.underlying37, fun w => by kernel_rfl⟩ tyZS37 (Opds.cons (q 45) (Opds.cons (q 48) Opds.nil)) (by kernel_rfl) (r := (.st [(.d (e_api_Addr a0.fAddr)), (i6 (w64 (a0.fLen + (1 : Int))))])) (by rfl) (L rfl))) rfl (c (lb hN 33 _ _ tyS33 (At.here _) (q 6)) rfl (c (ov (.ptr 1001 3 [1]) (fp hN Try.underlying37 3 tyS3 _ (q 1))) rfl (c (lb hN 37 _ _ tyS3 (ad _) (q 51)) rfl (c (add6 (L rfl) (q 52) (Opd.int .i64 (1))) rfl (c (OpJ.coe (v := (.st [(.d (e_api_Addr r10.1)), (i6 (w64 (a0.fLen + (1 : Int))))])) (y := (.st [(e_api_Addr r10.1), (.int .i64 (w64 (a0.fLen + (1 : Int))))])) (Co.st (CoL.cons (Co.d _) (CoL.cons (Co.d _) CoL.nil))) rfl (OpJ.build (places := [(0, 3), (3, 1)]) ⟨Try.underlying37, fun w => by kernel_rfl⟩ tyZS37 (Opds.cons (q 50) (Opds.cons (q 53) Opds.nil)) (by kernel_rfl) (r := (.st [(.d (e_api_Addr r10.1)), (i6 (w64 (a0.fLen + (1 : Int))))])) (by rfl) (L rfl))) rfl (cg (OpJ.storeB tyS37 (SetAt.here _ _) (by rfl) (by rfl) (by simp) rfl (q 2) (q 49)) rfl (cg (OpJ.storeB tyS37 (SetAt.here _ _) (by rfl) (by rfl) (by simp) rfl (q 3) (q 54)) rfl (c (OpJ.assign (L rfl) (Opd.int .i64 (0))) rfl cn)))))))))))))) (by kernel_rfl) (by kernel_rfl) ?_
      refine gh [(2, _), (3, _), (4, _)] [(1002, some _), (1003, some _)] hB rfl rfl (by rfl) ?_
      refine AWp.ret ?_
      obtain rfl := Option.some.inj h
      exact ⟨.inl rfl, _, _, (kp [(2, _), (3, _), (4, _)] [(1002, some _), (1003, some _)] hB rfl rfl (by rfl)), [(.d (.st [(e_api_Addr a0.fAddr), (.int .i64 (w64 (a0.fLen + (1 : Int))))])), (.d (.st [(e_api_Addr r10.1), (.int .i64 (w64 (a0.fLen + (1 : Int))))])), (i6 0)], (Res.cell (c := (.d (.st [(e_api_Addr a0.fAddr), (.int .i64 (w64 (a0.fLen + (1 : Int))))]))) (by rfl) (by rfl) tyS37 (by rfl) (by rfl) (by rfl) (Res.cell (c := (.d (.st [(e_api_Addr r10.1), (.int .i64 (w64 (a0.fLen + (1 : Int))))]))) (by rfl) (by rfl) tyS37 (by rfl) (by rfl) (by rfl) (Res.tmp (by rfl) (by rfl) Res.nil))), rfl, by rfl, by rfl, by rfl⟩

noncomputable def exchangepointref01_Cmp (a0 : api_Addr) (a1 : api_Addr) : Option (Int) :=
  (if ((a0.fV6 == a1.fV6) && ((a0.fHi == a1.fHi) && ((a0.fLo == a1.fLo) && true))) = true then
  some (0 : Int)
  else
  (if (a0.fV6 != a1.fV6) = true then
  (if a1.fV6 = true then
  some (-1 : Int)
  else
  some (1 : Int))
  else
  jn (fun m5 : Bool =>
  (if m5 = true then
  some (-1 : Int)
  else
  some (1 : Int))) (fun j6 =>
  (if (decide (a0.fHi < a1.fHi)) = true then
  j6 true
  else
  j6 ((a0.fHi == a1.fHi) && (decide (a0.fLo < a1.fLo)))))))
set_option maxHeartbeats 4000000 in
set_option maxRecDepth 100000 in
theorem exchangepointref01_Cmp_ac (a0 : api_Addr) (a1 : api_Addr) (r : Int) (h : exchangepointref01_Cmp a0 a1 = some r) : AC Try.prog 79 [(.d (e_api_Addr a0)), (.d (e_api_Addr a1))] [] (.d (.int .i64 r)) [] := by
  refine AC.of_code2 Try.func79 rfl rfl (Nat.le_of_ble_eq_true (by rfl)) fun B hB hN => ?_
  have L {d : Nat} (h : Nat.blt d Try.f79.ntmps = true) : d < B.N := ltN hN h
  delta exchangepointref01_Cmp at h
  refine sr (cg (OpJ.box hB (nm := 1002) (by decide) (by simp) rfl (L rfl) (q 0)) rfl (cg (OpJ.box hB (nm := 1003) (by decide) (by simp) rfl (L rfl) (q 1)) rfl (c (OpJ.assign (L rfl) (Opd.int .i64 (0))) rfl cn))) ?_
  refine gh [(2, _), (3, _)] [(1002, some _), (1003, some _)] hB rfl rfl (by rfl) ?_
  refine AWp.seq ?_
  refine AWp.block ?_
  refine sr (c (lb hN 33 _ _ tyS33 (At.here _) (q 2)) rfl (c (lb hN 33 _ _ tyS33 (At.here _) (q 3)) rfl (c (OpJ.eqlD (h := 2) (FitE.st Try.underlying33 rfl held33 (FitF.cons (x := (.bool a0.fV6)) (y := (.bool a1.fV6)) (by decide) rfl tyS4 ⟨rfl, rfl⟩ ⟨rfl, rfl⟩ (FitE.bool (h := 0) a0.fV6 a1.fV6 Try.underlying4) (FitF.cons (x := (.int .u64 a0.fHi)) (y := (.int .u64 a1.fHi)) (by decide) rfl tyS31 ⟨rfl, rfl⟩ ⟨rfl, rfl⟩ (FitE.int (h := 0) a0.fHi a1.fHi Try.underlying31) (FitF.cons (x := (.int .u64 a0.fLo)) (y := (.int .u64 a1.fLo)) (by decide) rfl tyS31 ⟨rfl, rfl⟩ ⟨rfl, rfl⟩ (FitE.int (h := 0) a0.fLo a1.fLo Try.underlying31) FitF.nil)))) eqg33 ⟨rfl, rfl⟩ (by rfl) (L rfl) (q 6) (q 7)) rfl (c (OpJ.assign (L rfl) (q 8)) rfl cn)))) ?_
  refine gh [(2, _), (3, _), (5, _)] [(1002, some _), (1003, some _)] hB rfl rfl (by rfl) ?_
  refine AWp.cond rfl (fun hg1 => ?_) (fun hg1 => ?_)
  · replace h := ite_t hg1 h
    refine sr (c (OpJ.assign (L rfl) (Opd.int .i64 (0))) rfl cn) ?_
    refine gh [(4, _)] [] hB rfl rfl (by rfl) ?_
    refine AWp.ret ?_
    refine blkQ_r ?_
    refine seqQ_r ?_
    obtain rfl := Option.some.inj h
    exact ⟨.inl rfl, _, _, (kp [(4, _)] [] hB rfl rfl (by rfl)), [(i6 0)], (Res.tmp (by rfl) (by rfl) Res.nil), rfl, by rfl, by rfl, by rfl⟩
  · replace h := ite_f hg1 h
    refine sr (c (ov (.ptr 1002 0 [0]) (fp hN Try.underlying33 0 tyS4 _ (q 2))) rfl (c (lb hN 33 _ _ tyS4 (ad _) (q 10)) rfl (c (ov (.ptr 1003 0 [0]) (fp hN Try.underlying33 0 tyS4 _ (q 3))) rfl (c (lb hN 33 _ _ tyS4 (ad _) (q 12)) rfl (c (OpJ.neqB Try.underlying4 (L rfl) (q 11) (q 13)) rfl (c (OpJ.assign (L rfl) (q 14)) rfl cn)))))) ?_
    refine gh [(2, _), (3, _), (9, _)] [(1002, some _), (1003, some _)] hB rfl rfl (by rfl) ?_
    refine AWp.cond rfl (fun hg2 => ?_) (fun hg2 => ?_)
    · replace h := ite_t hg2 h
      refine AWp.seq ?_
      refine sr (c (ov (.ptr 1003 0 [0]) (fp hN Try.underlying33 0 tyS4 _ (q 3))) rfl (c (lb hN 33 _ _ tyS4 (ad _) (q 15)) rfl cn)) ?_
      refine gh [(16, _)] [] hB rfl rfl (by rfl) ?_
      refine AWp.cond rfl (fun hg3 => ?_) (fun hg3 => ?_)
      · replace h := ite_t hg3 h
        refine sr (c (OpJ.assign (L rfl) (Opd.int .i64 (-1))) rfl cn) ?_
        refine gh [(4, _)] [] hB rfl rfl (by rfl) ?_
        refine AWp.ret ?_
        refine seqQ_r ?_
        refine blkQ_r ?_
        refine seqQ_r ?_
        obtain rfl := Option.some.inj h
        exact ⟨.inl rfl, _, _, (kp [(4, _)] [] hB rfl rfl (by rfl)), [(i6 (-1 : Int))], (Res.tmp (by rfl) (by rfl) Res.nil), rfl, by rfl, by rfl, by rfl⟩
      · replace h := ite_f hg3 h
        refine AWp.skip ?_
        refine seqQ_n ?_
        refine sr (c (OpJ.assign (L rfl) (Opd.int .i64 (1))) rfl cn) ?_
        refine gh [(4, _)] [] hB rfl rfl (by rfl) ?_
        refine AWp.ret ?_
        refine blkQ_r ?_
        refine seqQ_r ?_
        obtain rfl := Option.some.inj h
        exact ⟨.inl rfl, _, _, (kp [(4, _)] [] hB rfl rfl (by rfl)), [(i6 1)], (Res.tmp (by rfl) (by rfl) Res.nil), rfl, by rfl, by rfl, by rfl⟩
    · replace h := ite_f hg2 h
      refine AWp.seq ?_
      refine AWp.cut h (fun m5 : Bool => ([(17, (bo m5))] : EL)) (fun m5 : Bool => ([] : OL)) (fun m5 h E' O' hmat => ?_) (fun j6 hjj6 h => ?_)
      · refine seqQ_n ?_
        refine AWp.ghost hmat ?_
        refine AWp.cond rfl (fun hg7 => ?_) (fun hg7 => ?_)
        · replace h := ite_t hg7 h
          refine sr (c (OpJ.assign (L rfl) (Opd.int .i64 (-1))) rfl cn) ?_
          refine gh [(4, _)] [] hB rfl rfl (by rfl) ?_
          refine AWp.ret ?_
          refine blkQ_r ?_
          refine seqQ_r ?_
          obtain rfl := Option.some.inj h
          exact ⟨.inl rfl, _, _, (kp [(4, _)] [] hB rfl rfl (by rfl)), [(i6 (-1 : Int))], (Res.tmp (by rfl) (by rfl) Res.nil), rfl, by rfl, by rfl, by rfl⟩
        · replace h := ite_f hg7 h
          refine AWp.skip ?_
          refine blkQ_n ?_
          refine seqQ_n ?_
          refine sr (c (OpJ.assign (L rfl) (Opd.int .i64 (1))) rfl cn) ?_
          refine gh [(4, _)] [] hB rfl rfl (by rfl) ?_
          refine AWp.ret ?_
          obtain rfl := Option.some.inj h
          exact ⟨.inl rfl, _, _, (kp [(4, _)] [] hB rfl rfl (by rfl)), [(i6 1)], (Res.tmp (by rfl) (by rfl) Res.nil), rfl, by rfl, by rfl, by rfl⟩
      · rcases Bool.eq_false_or_eq_true (decide (a0.fHi < a1.fHi)) with hg8 | hg8
        · replace h := ite_t hg8 h
          refine rg (c (ov (.ptr 1002 1 [1]) (fp hN Try.underlying33 1 tyS31 _ (q 2))) rfl (c (lb hN 33 _ _ tyS31 (ad _) (q 18)) rfl (c (ov (.ptr 1003 1 [1]) (fp hN Try.underlying33 1 tyS31 _ (q 3))) rfl (c (lb hN 33 _ _ tyS31 (ad _) (q 20)) rfl (c (OpJ.lss (L rfl) (q 19) (q 21)) rfl (c (OpJ.val (v' := .d (.bool true)) (by rw [hg8]) (mv hN (q 22))) rfl (cg (OpJ.skipU (g := 23) (L rfl) (by rfl)) rfl (cg (OpJ.skipU (g := 23) (L rfl) (by rfl)) rfl (cg (OpJ.skipU (g := 23) (L rfl) (by rfl)) rfl (cg (OpJ.skipU (g := 23) (L rfl) (by rfl)) rfl (cg (OpJ.skipU (g := 23) (L rfl) (by rfl)) rfl (cg (OpJ.skipU (g := 23) (L rfl) (by rfl)) rfl (cg (OpJ.skipV (g := 29) (L rfl) (by rfl)) rfl (cg (OpJ.skipV (g := 29) (L rfl) (by rfl)) rfl (cg (OpJ.skipV (g := 29) (L rfl) (by rfl)) rfl (cg (OpJ.skipV (g := 29) (L rfl) (by rfl)) rfl (cg (OpJ.skipV (g := 29) (L rfl) (by rfl)) rfl (cg (OpJ.skipU (g := 23) (L rfl) (by rfl)) rfl (c (OpJ.pickT (L rfl) (q 23) (Opd.bool true)) rfl (c (OpJ.assign (L rfl) (q 36)) rfl cn)))))))))))))))))))) ?_
          exact hjj6 _ h _ _ (Mat.trans (mp [] [(17, (bo true))] [] hB) (mp [] _ _ hB))
        · replace h := ite_f hg8 h
          refine rg (c (ov (.ptr 1002 1 [1]) (fp hN Try.underlying33 1 tyS31 _ (q 2))) rfl (c (lb hN 33 _ _ tyS31 (ad _) (q 18)) rfl (c (ov (.ptr 1003 1 [1]) (fp hN Try.underlying33 1 tyS31 _ (q 3))) rfl (c (lb hN 33 _ _ tyS31 (ad _) (q 20)) rfl (c (OpJ.lss (L rfl) (q 19) (q 21)) rfl (c (OpJ.val (v' := .d (.bool false)) (by rw [hg8]) (mv hN (q 22))) rfl (c (OpJ.guarded (g := 23) (by rfl) (ov (.ptr 1002 1 [1]) (fp hN Try.underlying33 1 tyS31 _ (q 2)))) rfl (c (OpJ.guarded (g := 23) (by rfl) (lb hN 33 _ _ tyS31 (ad _) (q 24))) rfl (c (OpJ.guarded (g := 23) (by rfl) (ov (.ptr 1003 1 [1]) (fp hN Try.underlying33 1 tyS31 _ (q 3)))) rfl (c (OpJ.guarded (g := 23) (by rfl) (lb hN 33 _ _ tyS31 (ad _) (q 26))) rfl (c (OpJ.guarded (g := 23) (by rfl) (OpJ.eqlI (L rfl) (q 25) (q 27))) rfl (c (OpJ.guarded (g := 23) (by rfl) (mv hN (q 28))) rfl (c (oq hN 29 (ov (.ptr 1002 2 [2]) (fp hN Try.underlying33 2 tyS31 _ (q 2))) (OptL.keep (by rfl) OptL.nil) (GuardV.plain _)) rfl (c (oq hN 29 (lb hN 33 _ _ tyS31 (ad _) (q 30)) (OptL.opt OptL.nil) (GuardV.plain _)) rfl (c (oq hN 29 (ov (.ptr 1003 2 [2]) (fp hN Try.underlying33 2 tyS31 _ (q 3))) (OptL.keep (by rfl) OptL.nil) (GuardV.plain _)) rfl (c (oq hN 29 (lb hN 33 _ _ tyS31 (ad _) (q 32)) (OptL.opt OptL.nil) (GuardV.plain _)) rfl (c (oq hN 29 (OpJ.lss (L rfl) (q 31) (q 33)) (OptL.opt (OptL.opt OptL.nil)) (GuardV.plain _)) rfl (c (OpJ.guarded (g := 23) (by rfl) (OpJ.pickAnd rfl (L rfl) (q 29) (q 34))) rfl (c (OpJ.pickF (L rfl) (q 23) (q 35)) rfl (c (OpJ.assign (L rfl) (q 36)) rfl cn)))))))))))))))))))) ?_
          exact hjj6 _ h _ _ (Mat.trans (mp [] [(17, (bo ((a0.fHi == a1.fHi) && (decide (a0.fLo < a1.fLo)))))] [] hB) (mp [] _ _ hB))

noncomputable def exchangepointref02_Cmp (a0 : api_Prefix) (a1 : api_Prefix) : Option (Int) :=
  (exchangepointref01_Cmp a0.fAddr a1.fAddr).bind fun r1 =>
  (if (r1 != (0 : Int)) = true then
  some r1
  else
  (if (decide (a0.fLen < a1.fLen)) = true then
  some (-1 : Int)
  else
  (if (decide (a1.fLen < a0.fLen)) = true then
  some (1 : Int)
  else
  some (0 : Int))))
set_option maxHeartbeats 4000000 in
set_option maxRecDepth 100000 in
theorem exchangepointref02_Cmp_ac (a0 : api_Prefix) (a1 : api_Prefix) (r : Int) (h : exchangepointref02_Cmp a0 a1 = some r) : AC Try.prog 62 [(.d (e_api_Prefix a0)), (.d (e_api_Prefix a1))] [] (.d (.int .i64 r)) [] := by
  refine AC.of_code2 Try.func62 rfl rfl (Nat.le_of_ble_eq_true (by rfl)) fun B hB hN => ?_
  have L {d : Nat} (h : Nat.blt d Try.f62.ntmps = true) : d < B.N := ltN hN h
  delta exchangepointref02_Cmp at h
  refine sr (cg (OpJ.box hB (nm := 1002) (by decide) (by simp) rfl (L rfl) (q 0)) rfl (cg (OpJ.box hB (nm := 1003) (by decide) (by simp) rfl (L rfl) (q 1)) rfl (c (OpJ.assign (L rfl) (Opd.int .i64 (0))) rfl cn))) ?_
  refine gh [(2, _), (3, _)] [(1002, some _), (1003, some _)] hB rfl rfl (by rfl) ?_
  refine AWp.seq ?_
  obtain ⟨r1, hr1, h⟩ := bindS h
  refine sr (c (ov (.ptr 1002 0 [0]) (fp hN Try.underlying37 0 tyS33 _ (q 2))) rfl (c (lb hN 37 _ _ tyS33 (ad _) (q 6)) rfl (c (ov (.ptr 1003 0 [0]) (fp hN Try.underlying37 0 tyS33 _ (q 3))) rfl (c (lb hN 37 _ _ tyS33 (ad _) (q 8)) rfl (cg (OpJ.callFn hB fnOk79 (exchangepointref01_Cmp_ac a0.fAddr a1.fAddr r1 hr1) [] (by kernel_rfl) (L rfl) (by kernel_rfl) (OpdL.cons (q 7) (OpdL.cons (q 9) OpdL.nil))) rfl (c (OpJ.assign (L rfl) (q 10)) rfl cn)))))) ?_
  refine gh [(2, _), (3, _), (5, _)] [(1002, some _), (1003, some _)] hB rfl rfl (by rfl) ?_
  refine sr (c (mv hN (q 5)) rfl (c (OpJ.neqI (L rfl) (q 11) (Opd.int .i64 (0))) rfl cn)) ?_
  refine gh [(2, _), (3, _), (5, _), (12, _)] [(1002, some _), (1003, some _)] hB rfl rfl (by rfl) ?_
  refine AWp.cond rfl (fun hg2 => ?_) (fun hg2 => ?_)
  · replace h := ite_t hg2 h
    refine sr (c (mv hN (q 5)) rfl (c (OpJ.assign (L rfl) (q 13)) rfl cn)) ?_
    refine gh [(4, _)] [] hB rfl rfl (by rfl) ?_
    refine AWp.ret ?_
    refine seqQ_r ?_
    obtain rfl := Option.some.inj h
    exact ⟨.inl rfl, _, _, (kp [(4, _)] [] hB rfl rfl (by rfl)), [(i6 r1)], (Res.tmp (by rfl) (by rfl) Res.nil), rfl, by rfl, by rfl, by rfl⟩
  · replace h := ite_f hg2 h
    refine AWp.skip ?_
    refine seqQ_n ?_
    refine AWp.seq ?_
    refine AWp.block ?_
    refine sr (c (ov (.ptr 1002 3 [1]) (fp hN Try.underlying37 3 tyS3 _ (q 2))) rfl (c (lb hN 37 _ _ tyS3 (ad _) (q 15)) rfl (c (ov (.ptr 1003 3 [1]) (fp hN Try.underlying37 3 tyS3 _ (q 3))) rfl (c (lb hN 37 _ _ tyS3 (ad _) (q 17)) rfl (c (OpJ.lss (L rfl) (q 16) (q 18)) rfl (c (OpJ.assign (L rfl) (q 19)) rfl cn)))))) ?_
    refine gh [(2, _), (3, _), (14, _)] [(1002, some _), (1003, some _)] hB rfl rfl (by rfl) ?_
    refine AWp.cond rfl (fun hg3 => ?_) (fun hg3 => ?_)
    · replace h := ite_t hg3 h
      refine sr (c (OpJ.assign (L rfl) (Opd.int .i64 (-1))) rfl cn) ?_
      refine gh [(4, _)] [] hB rfl rfl (by rfl) ?_
      refine AWp.ret ?_
      refine blkQ_r ?_
      refine seqQ_r ?_
      obtain rfl := Option.some.inj h
      exact ⟨.inl rfl, _, _, (kp [(4, _)] [] hB rfl rfl (by rfl)), [(i6 (-1 : Int))], (Res.tmp (by rfl) (by rfl) Res.nil), rfl, by rfl, by rfl, by rfl⟩
    · replace h := ite_f hg3 h
      refine sr (c (ov (.ptr 1002 3 [1]) (fp hN Try.underlying37 3 tyS3 _ (q 2))) rfl (c (lb hN 37 _ _ tyS3 (ad _) (q 21)) rfl (c (ov (.ptr 1003 3 [1]) (fp hN Try.underlying37 3 tyS3 _ (q 3))) rfl (c (lb hN 37 _ _ tyS3 (ad _) (q 23)) rfl (c (OpJ.gtr (L rfl) (q 22) (q 24)) rfl (c (OpJ.assign (L rfl) (q 25)) rfl cn)))))) ?_
      refine gh [(20, _)] [] hB rfl rfl (by rfl) ?_
      refine AWp.cond rfl (fun hg4 => ?_) (fun hg4 => ?_)
      · replace h := ite_t hg4 h
        refine sr (c (OpJ.assign (L rfl) (Opd.int .i64 (1))) rfl cn) ?_
        refine gh [(4, _)] [] hB rfl rfl (by rfl) ?_
        refine AWp.ret ?_
        refine blkQ_r ?_
        refine seqQ_r ?_
        obtain rfl := Option.some.inj h
        exact ⟨.inl rfl, _, _, (kp [(4, _)] [] hB rfl rfl (by rfl)), [(i6 1)], (Res.tmp (by rfl) (by rfl) Res.nil), rfl, by rfl, by rfl, by rfl⟩
      · replace h := ite_f hg4 h
        refine AWp.skip ?_
        refine blkQ_n ?_
        refine seqQ_n ?_
        refine sr (c (OpJ.assign (L rfl) (Opd.int .i64 (0))) rfl cn) ?_
        refine gh [(4, _)] [] hB rfl rfl (by rfl) ?_
        refine AWp.ret ?_
        obtain rfl := Option.some.inj h
        exact ⟨.inl rfl, _, _, (kp [(4, _)] [] hB rfl rfl (by rfl)), [(i6 0)], (Res.tmp (by rfl) (by rfl) Res.nil), rfl, by rfl, by rfl, by rfl⟩

noncomputable def exchangepointref03_Valid_L0 (a0 : (List api_Entry)) (s1 : Int) : Option (((Unit) ⊕ (Unit)) ⊕ (Int)) :=
  (if (decide (s1 < (a0.length : Int))) = true then
  (idx a0 s1).bind fun x37 =>
  jn (fun m44 : Bool =>
  (if m44 = true then
  some (.inl (.inl ()))
  else
  some (.inr (w64 (s1 + (1 : Int)))))) (fun j45 =>
  (exchangepointref02_Valid x37.fPrefix).bind fun r47 =>
  (if (!r47) = true then
  j45 true
  else
  (if (decide ((0 : Int) < s1)) = true then
  (idx a0 (w64 (s1 - (1 : Int)))).bind fun x50 =>
  (exchangepointref02_Cmp x50.fPrefix x37.fPrefix).bind fun r51 =>
  j45 (decide ((0 : Int) ≤ r51))
  else
  j45 false)))
  else
  some (.inl (.inr ())))
noncomputable def exchangepointref03_Valid (a0 : (List api_Entry)) : Option (Bool) :=
  (loop (exchangepointref03_Valid_L0 a0) (0 : Int)).bind fun x52 => match x52 with
  | (.inl _) =>
    some false
  | (.inr _) =>
    some (decide ((a0.length : Int) ≤ (512 : Int)))
set_option maxHeartbeats 4000000 in
set_option maxRecDepth 100000 in
theorem exchangepointref03_Valid_ac (a0 : (List api_Entry)) (r : Bool) (h : exchangepointref03_Valid a0 = some r) : AC Try.prog 27 [(.d (.list 5 (a0.map e_api_Entry)))] [] (.d (.bool r)) [] := by
  refine AC.of_code2 Try.func27 rfl rfl (Nat.le_of_ble_eq_true (by rfl)) fun B hB hN => ?_
  have L {d : Nat} (h : Nat.blt d Try.f27.ntmps = true) : d < B.N := ltN hN h
  delta exchangepointref03_Valid at h
  refine sr (c (OpJ.assign (L rfl) (Opd.bool false)) rfl cn) ?_
  refine gh [(0, _)] [] hB rfl rfl (by rfl) ?_
  refine AWp.seq ?_
  refine sr (c (mv hN (q 0)) rfl (c (OpJ.val (v' := (i6 (a0.length : Int))) (by simp) (OpJ.lenD Try.underlying23 (L rfl) (q 5))) rfl (c (mv hN (Opd.int .i64 (0))) rfl cn))) ?_
  refine gh [(0, _), (5, _), (6, _), (7, _)] [] hB rfl rfl (by rfl) ?_
  refine AWp.block ?_
  obtain ⟨x52, hx53, h⟩ := bindS h
  refine lg (exchangepointref03_Valid_L0 a0) (fun s1 : Int => ([(0, (qe_api_Entry_5 a0)), (5, (qe_api_Entry_5 a0)), (6, (i6 (a0.length : Int))), (7, (i6 s1))] : EL)) (fun s1 : Int => ([] : OL)) (fun (x : (Unit) ⊕ (Unit)) e E' O' => match x with | (.inl _p) => e = .ret ∧ Mat B E' O' ([(2, (bo false))] : EL) ([] : OL) | (.inr _p) => e = .exit 0 ∧ Mat B E' O' ([(0, (qe_api_Entry_5 a0))] : EL) ([] : OL)) hx53 (mp [] _ _ hB) (fun s1 y h => ?_) (fun e E' O' hR => ?_)
  · unfold exchangepointref03_Valid_L0 at h
    refine sr (c (OpJ.lss (L rfl) (q 7) (q 6)) rfl cn) ?_
    refine gh [(0, _), (5, _), (6, _), (7, _), (8, _)] [] hB rfl rfl (by rfl) ?_
    refine AWp.seq ?_
    refine AWp.cond rfl (fun hg36 => ?_) (fun hg36 => ?_)
    · replace h := ite_t hg36 h
      refine AWp.skip ?_
      refine seqQ_n ?_
      refine AWp.seq ?_
      refine AWp.block ?_
      obtain ⟨x37, hx37, h⟩ := bindS h
      refine sr (c (mv hN (q 7)) rfl (c (OpJ.indexD Try.underlying23 tyS39 (idx_some hx37).1 (get_map e_api_Entry (idx_some hx37).2) (L rfl) (q 5) (q 7)) rfl (c (OpJ.loadD tyS39 (by rfl) (by rfl) (L rfl) (q 10)) rfl (cg (OpJ.alloc hB tyZ39 (nm := 1004) (by decide) (L rfl)) rfl (c (OpJ.assign (L rfl) (q 9)) rfl (cg (OpJ.storeB tyS39 (SetAt.here _ _) (by rfl) (by rfl) (by simp) rfl (q 4) (q 11)) rfl cn)))))) ?_
      refine gh [(0, _), (3, _), (4, _), (5, _), (6, _), (7, _)] [(1004, some _)] hB rfl rfl (by rfl) ?_
      refine AWp.seq ?_
      refine AWp.cut h (fun m44 : Bool => ([(0, (qe_api_Entry_5 a0)), (5, (qe_api_Entry_5 a0)), (6, (i6 (a0.length : Int))), (7, (i6 s1)), (31, (bo m44))] : EL)) (fun m44 : Bool => ([] : OL)) (fun m44 h E' O' hmat => ?_) (fun j45 hjj45 h => ?_)
      · refine seqQ_n ?_
        refine AWp.ghost hmat ?_
        refine AWp.cond rfl (fun hg46 => ?_) (fun hg46 => ?_)
        · replace h := ite_t hg46 h
          refine sr (c (OpJ.assign (L rfl) (Opd.bool false)) rfl cn) ?_
          refine gh [(2, _)] [] hB rfl rfl (by rfl) ?_
          refine AWp.ret ?_
          refine blkQ_r ?_
          refine seqQ_r ?_
          obtain rfl := Option.some.inj h
          exact ⟨(fun hc => by cases hc), rfl, (mp [] _ _ hB)⟩
        · replace h := ite_f hg46 h
          refine AWp.skip ?_
          refine blkQ_n ?_
          refine seqQ_n ?_
          refine rg (c (add6 (L rfl) (q 7) (Opd.int .i64 (1))) rfl (c (mv hN (q 32)) rfl cn)) ?_
          obtain rfl := Option.some.inj h
          exact ⟨rfl, (Mat.trans (mp [] [(0, (qe_api_Entry_5 a0)), (5, (qe_api_Entry_5 a0)), (6, (i6 (a0.length : Int))), (7, (i6 (w64 (s1 + (1 : Int)))))] [] hB) (mp [] _ _ hB))⟩
      · obtain ⟨r47, hr47, h⟩ := bindS h
        rcases Bool.eq_false_or_eq_true (!r47) with hg48 | hg48
        · replace h := ite_t hg48 h
          refine dr (c (ov (.ptr 1004 0 [0]) (fp hN Try.underlying39 0 tyS37 _ (q 4))) rfl (c (lb hN 39 _ _ tyS37 (ad _) (q 12)) rfl (cg (OpJ.callFn hB fnOk61 (exchangepointref02_Valid_ac x37.fPrefix r47 hr47) [] (by kernel_rfl) (L rfl) (by kernel_rfl) (OpdL.cons (q 13) OpdL.nil)) rfl (c (OpJ.not (L rfl) (q 14)) rfl (c (OpJ.val (v' := .d (.bool true)) (by rw [hg48]) (mv hN (q 15))) rfl (cg (OpJ.skipU (g := 16) (L rfl) (by rfl)) rfl (cg (OpJ.skipU (g := 16) (L rfl) (by rfl)) rfl (cg (OpJ.skipU (g := 16) (L rfl) (by rfl)) rfl (cg (OpJ.skipV (g := 19) (L rfl) (by rfl)) rfl (cg (OpJ.skipV (g := 19) (L rfl) (by rfl)) rfl (cg (OpJ.skipV (g := 19) (L rfl) (by rfl)) rfl (cg (OpJ.skipV (g := 19) (L rfl) (by rfl)) rfl (cg (OpJ.skipV (g := 19) (L rfl) (by rfl)) rfl (cg (OpJ.skipV (g := 19) (L rfl) (by rfl)) rfl (cg (OpJ.skipV (g := 19) (L rfl) (by rfl)) rfl (cg (OpJ.skipV (g := 19) (L rfl) (by rfl)) rfl (cg (OpJ.skipV (g := 19) (L rfl) (by rfl)) rfl (cg (OpJ.skipV (g := 19) (L rfl) (by rfl)) rfl (cg (OpJ.skipU (g := 16) (L rfl) (by rfl)) rfl (c (OpJ.pickT (L rfl) (q 16) (Opd.bool true)) rfl cn)))))))))))))))))))) (by kernel_rfl) (by kernel_rfl) ?_
          exact hjj45 _ h _ _ (Mat.trans (mp [] [(0, (qe_api_Entry_5 a0)), (5, (qe_api_Entry_5 a0)), (6, (i6 (a0.length : Int))), (7, (i6 s1)), (31, (bo true))] [] hB) (mp [] _ _ hB))
        · replace h := ite_f hg48 h
          rcases Bool.eq_false_or_eq_true (decide ((0 : Int) < s1)) with hg49 | hg49
          · replace h := ite_t hg49 h
            obtain ⟨x50, hx50, h⟩ := bindS h
            obtain ⟨r51, hr51, h⟩ := bindS h
            refine dr (c (ov (.ptr 1004 0 [0]) (fp hN Try.underlying39 0 tyS37 _ (q 4))) rfl (c (lb hN 39 _ _ tyS37 (ad _) (q 12)) rfl (cg (OpJ.callFn hB fnOk61 (exchangepointref02_Valid_ac x37.fPrefix r47 hr47) [] (by kernel_rfl) (L rfl) (by kernel_rfl) (OpdL.cons (q 13) OpdL.nil)) rfl (c (OpJ.not (L rfl) (q 14)) rfl (c (OpJ.val (v' := .d (.bool false)) (by rw [hg48]) (mv hN (q 15))) rfl (c (OpJ.guarded (g := 16) (by rfl) (mv hN (q 3))) rfl (c (OpJ.guarded (g := 16) (by rfl) (OpJ.gtr (L rfl) (q 17) (Opd.int .i64 (0)))) rfl (c (OpJ.guarded (g := 16) (by rfl) (OpJ.val (v' := .d (.bool true)) (by rw [hg49]) (mv hN (q 18)))) rfl (c (OpJ.guarded (g := 19) (by rfl) (mv hN (q 0))) rfl (c (OpJ.guarded (g := 19) (by rfl) (mv hN (q 3))) rfl (c (OpJ.guarded (g := 19) (by rfl) (sub6 (L rfl) (q 21) (Opd.int .i64 (1)))) rfl (c (OpJ.guarded (g := 19) (by rfl) (OpJ.indexD Try.underlying23 tyS39 (idx_some hx50).1 (get_map e_api_Entry (idx_some hx50).2) (L rfl) (q 20) (q 22))) rfl (c (OpJ.guarded (g := 19) (by rfl) (OpJ.fieldD Try.underlying39 (by rfl) (o := 0) (by rfl) tyS37 (by decide) (by rfl) (by rfl) (L rfl) (q 23))) rfl (c (OpJ.guarded (g := 19) (by rfl) (OpJ.loadD tyS37 (by rfl) (by rfl) (L rfl) (q 24))) rfl (c (OpJ.guarded (g := 19) (by rfl) (ov (.ptr 1004 0 [0]) (fp hN Try.underlying39 0 tyS37 _ (q 4)))) rfl (c (OpJ.guarded (g := 19) (by rfl) (lb hN 39 _ _ tyS37 (ad _) (q 26))) rfl (cg (OpJ.guarded (g := 19) (by rfl) (OpJ.callFn hB fnOk62 (exchangepointref02_Cmp_ac x50.fPrefix x37.fPrefix r51 hr51) [] (by kernel_rfl) (L rfl) (by kernel_rfl) (OpdL.cons (q 25) (OpdL.cons (q 27) OpdL.nil)))) rfl (c (OpJ.guarded (g := 19) (by rfl) (OpJ.geq (L rfl) (q 28) (Opd.int .i64 (0)))) rfl (c (OpJ.guarded (g := 16) (by rfl) (OpJ.pickT (L rfl) (q 19) (q 29))) rfl (c (OpJ.pickF (L rfl) (q 16) (q 30)) rfl cn)))))))))))))))))))) (by kernel_rfl) (by kernel_rfl) ?_
            exact hjj45 _ h _ _ (Mat.trans (mp [] [(0, (qe_api_Entry_5 a0)), (5, (qe_api_Entry_5 a0)), (6, (i6 (a0.length : Int))), (7, (i6 s1)), (31, (bo (decide ((0 : Int) ≤ r51))))] [] hB) (mp [] _ _ hB))
          · replace h := ite_f hg49 h
            refine dr (c (ov (.ptr 1004 0 [0]) (fp hN Try.underlying39 0 tyS37 _ (q 4))) rfl (c (lb hN 39 _ _ tyS37 (ad _) (q 12)) rfl (cg (OpJ.callFn hB fnOk61 (exchangepointref02_Valid_ac x37.fPrefix r47 hr47) [] (by kernel_rfl) (L rfl) (by kernel_rfl) (OpdL.cons (q 13) OpdL.nil)) rfl (c (OpJ.not (L rfl) (q 14)) rfl (c (OpJ.val (v' := .d (.bool false)) (by rw [hg48]) (mv hN (q 15))) rfl (c (OpJ.guarded (g := 16) (by rfl) (mv hN (q 3))) rfl (c (OpJ.guarded (g := 16) (by rfl) (OpJ.gtr (L rfl) (q 17) (Opd.int .i64 (0)))) rfl (c (OpJ.guarded (g := 16) (by rfl) (OpJ.val (v' := .d (.bool false)) (by rw [hg49]) (mv hN (q 18)))) rfl (cg (OpJ.skipU (g := 19) (L rfl) (by rfl)) rfl (cg (OpJ.skipU (g := 19) (L rfl) (by rfl)) rfl (cg (OpJ.skipU (g := 19) (L rfl) (by rfl)) rfl (cg (OpJ.skipU (g := 19) (L rfl) (by rfl)) rfl (cg (OpJ.skipU (g := 19) (L rfl) (by rfl)) rfl (cg (OpJ.skipU (g := 19) (L rfl) (by rfl)) rfl (cg (OpJ.skipU (g := 19) (L rfl) (by rfl)) rfl (cg (OpJ.skipU (g := 19) (L rfl) (by rfl)) rfl (cg (OpJ.skipU (g := 19) (L rfl) (by rfl)) rfl (cg (OpJ.skipU (g := 19) (L rfl) (by rfl)) rfl (c (OpJ.guarded (g := 16) (by rfl) (OpJ.pickF (L rfl) (q 19) (Opd.bool false))) rfl (c (OpJ.pickF (L rfl) (q 16) (q 30)) rfl cn)))))))))))))))))))) (by kernel_rfl) (by kernel_rfl) ?_
            exact hjj45 _ h _ _ (Mat.trans (mp [] [(0, (qe_api_Entry_5 a0)), (5, (qe_api_Entry_5 a0)), (6, (i6 (a0.length : Int))), (7, (i6 s1)), (31, (bo false))] [] hB) (mp [] _ _ hB))
    · replace h := ite_f hg36 h
      refine AWp.exit ?_
      refine seqQ_e ?_
      obtain rfl := Option.some.inj h
      exact ⟨(fun hc => by cases hc), rfl, (mp [] _ _ hB)⟩
  · rcases x52 with _ | _
    · obtain ⟨rfl, hmat⟩ := hR
      refine blkQ_r ?_
      refine seqQ_r ?_
      obtain rfl := Option.some.inj h
      exact ⟨.inl rfl, _, _, (Mat.trans hmat (mp [] [(2, (bo false))] [] hB)), [(bo false)], (Res.tmp (by rfl) (by rfl) Res.nil), rfl, by rfl, by rfl, by rfl⟩
    · obtain ⟨rfl, hmat⟩ := hR
      refine blkQ_hit ?_
      refine seqQ_n ?_
      refine AWp.ghost hmat ?_
      refine sr (c (mv hN (q 0)) rfl (c (OpJ.val (v' := (i6 (a0.length : Int))) (by simp) (OpJ.lenD Try.underlying23 (L rfl) (q 33))) rfl (c (OpJ.leq (L rfl) (q 34) (Opd.int .i64 (512))) rfl (c (OpJ.assign (L rfl) (q 35)) rfl cn)))) ?_
      refine gh [(2, _)] [] hB rfl rfl (by rfl) ?_
      refine AWp.ret ?_
      obtain rfl := Option.some.inj h
      exact ⟨.inl rfl, _, _, (kp [(2, _)] [] hB rfl rfl (by rfl)), [(bo (decide ((a0.length : Int) ≤ (512 : Int))))], (Res.tmp (by rfl) (by rfl) Res.nil), rfl, by rfl, by rfl, by rfl⟩

noncomputable def exchangepointref03_set_L0 (a0 : (List api_Entry)) (a1 : api_Prefix) (s1 : Int) : Option (((Int)) ⊕ (Int)) :=
  jn (fun m24 : Bool =>
  (if m24 = true then
  some (.inr (w64 (s1 + (1 : Int))))
  else
  some (.inl s1))) (fun j25 =>
  (if (decide (s1 < (a0.length : Int))) = true then
  (idx a0 s1).bind fun x28 =>
  (exchangepointref02_Cmp x28.fPrefix a1).bind fun r29 =>
  j25 (decide (r29 < (0 : Int)))
  else
  j25 false))
noncomputable def exchangepointref03_set (a0 : (List api_Entry)) (a1 : api_Prefix) (a2 : Int) : Option ((List api_Entry)) :=
  (loop (exchangepointref03_set_L0 a0 a1) (0 : Int)).bind fun p20 =>
  chk ((decide (0 ≤ p20) && decide (p20.toNat ≤ a0.length) && decide (a0.length ≤ a0.length))) <|
  jn (fun m35 : Bool =>
  jn (fun m39 : (List api_Entry) =>
  chk ((decide (0 ≤ p20) && decide (0 ≤ p20.toNat) && decide (p20.toNat ≤ a0.length))) <|
  chk (decide (((a0.take p20.toNat).drop 0).length ≤ LIM)) <|
  chk (decide ((((a0.take p20.toNat).drop 0) ++ ([(api_Entry.mk a1 a2)] : List api_Entry)).length ≤ LIM)) <|
  chk (decide (((((a0.take p20.toNat).drop 0) ++ ([(api_Entry.mk a1 a2)] : List api_Entry)) ++ m39).length ≤ LIM)) <|
  some ((((a0.take p20.toNat).drop 0) ++ ([(api_Entry.mk a1 a2)] : List api_Entry)) ++ m39)) (fun j40 =>
  (if m35 = true then
  chk ((decide (0 ≤ (1 : Int)) && decide (1 ≤ ((a0.take a0.length).drop p20.toNat).length) && decide (((a0.take a0.length).drop p20.toNat).length ≤ ((a0.take a0.length).drop p20.toNat).length))) <|
  j40 ((((a0.take a0.length).drop p20.toNat).take (((a0.take a0.length).drop p20.toNat).length)).drop 1)
  else
  j40 ((a0.take a0.length).drop p20.toNat)))) (fun j36 =>
  (if (decide ((0 : Int) < (((a0.take a0.length).drop p20.toNat).length : Int))) = true then
  (idx ((a0.take a0.length).drop p20.toNat) (0 : Int)).bind fun x48 =>
  j36 (((x48.fPrefix.fAddr.fV6 == a1.fAddr.fV6) && ((x48.fPrefix.fAddr.fHi == a1.fAddr.fHi) && ((x48.fPrefix.fAddr.fLo == a1.fAddr.fLo) && true))) && ((x48.fPrefix.fLen == a1.fLen) && true))
  else
  j36 false))
set_option maxHeartbeats 4000000 in
set_option maxRecDepth 100000 in
theorem exchangepointref03_set_ac (a0 : (List api_Entry)) (a1 : api_Prefix) (a2 : Int) (r : (List api_Entry)) (h : exchangepointref03_set a0 a1 a2 = some r) : AC Try.prog 48 [(.d (.list 5 (a0.map e_api_Entry))), (.d (e_api_Prefix a1)), (.d (.int .i64 a2))] [] (.d (.list 5 (r.map e_api_Entry))) [] := by
  refine AC.of_code2 Try.func48 rfl rfl (Nat.le_of_ble_eq_true (by rfl)) fun B hB hN => ?_
  have L {d : Nat} (h : Nat.blt d Try.f48.ntmps = true) : d < B.N := ltN hN h
  delta exchangepointref03_set at h
  refine sr (cg (OpJ.box hB (nm := 1004) (by decide) (by simp) rfl (L rfl) (q 1)) rfl (c (OpJ.assign (L rfl) Opd.nils) rfl cn)) ?_
  refine gh [(0, _), (2, _), (4, _)] [(1004, some _)] hB rfl rfl (by rfl) ?_
  refine sr (c (OpJ.assign (L rfl) (Opd.int .i64 (0))) rfl cn) ?_
  refine gh [(0, _), (2, _), (4, _), (7, _)] [(1004, some _)] hB rfl rfl (by rfl) ?_
  refine AWp.seq ?_
  refine AWp.block ?_
  obtain ⟨p20, hx31, h⟩ := bindS h
  refine lg (exchangepointref03_set_L0 a0 a1) (fun s1 : Int => ([(0, (qe_api_Entry_5 a0)), (2, (i6 a2)), (4, (.ptr 1004 0 [])), (7, (i6 s1))] : EL)) (fun s1 : Int => ([(1004, some (.box 37 (.d (e_api_Prefix a1))))] : OL)) (fun (p20 : (Int)) e E' O' => e = .exit 0 ∧ Mat B E' O' ([(0, (qe_api_Entry_5 a0)), (2, (i6 a2)), (4, (.ptr 1004 0 [])), (7, (i6 p20))] : EL) ([(1004, some (.box 37 (.d (e_api_Prefix a1))))] : OL)) hx31 (mp [] _ _ hB) (fun s1 y h => ?_) (fun e E' O' hR => ?_)
  · unfold exchangepointref03_set_L0 at h
    refine AWp.seq ?_
    refine AWp.seq ?_
    refine AWp.cut h (fun m24 : Bool => ([(0, (qe_api_Entry_5 a0)), (2, (i6 a2)), (4, (.ptr 1004 0 [])), (7, (i6 s1)), (22, (bo m24))] : EL)) (fun m24 : Bool => ([(1004, some (.box 37 (.d (e_api_Prefix a1))))] : OL)) (fun m24 h E' O' hmat => ?_) (fun j25 hjj25 h => ?_)
    · refine seqQ_n ?_
      refine AWp.ghost hmat ?_
      refine AWp.cond rfl (fun hg26 => ?_) (fun hg26 => ?_)
      · replace h := ite_t hg26 h
        refine AWp.skip ?_
        refine seqQ_n ?_
        refine AWp.block ?_
        refine rg (c (mv hN (q 7)) rfl (c (add6 (L rfl) (q 23) (Opd.int .i64 (1))) rfl (c (OpJ.assign (L rfl) (q 24)) rfl cn))) ?_
        refine blkQ_n ?_
        obtain rfl := Option.some.inj h
        exact ⟨rfl, (Mat.trans (mp [] [(0, (qe_api_Entry_5 a0)), (2, (i6 a2)), (4, (.ptr 1004 0 [])), (7, (i6 (w64 (s1 + (1 : Int)))))] [(1004, some (.box 37 (.d (e_api_Prefix a1))))] hB) (mp [] _ _ hB))⟩
      · replace h := ite_f hg26 h
        refine AWp.exit ?_
        refine seqQ_e ?_
        obtain rfl := Option.some.inj h
        exact ⟨(fun hc => by cases hc), rfl, (mp [] _ _ hB)⟩
    · rcases Bool.eq_false_or_eq_true (decide (s1 < (a0.length : Int))) with hg27 | hg27
      · replace h := ite_t hg27 h
        obtain ⟨x28, hx28, h⟩ := bindS h
        obtain ⟨r29, hr29, h⟩ := bindS h
        refine dr (c (mv hN (q 7)) rfl (c (mv hN (q 0)) rfl (c (OpJ.val (v' := (i6 (a0.length : Int))) (by simp) (OpJ.lenD Try.underlying23 (L rfl) (q 10))) rfl (c (OpJ.lss (L rfl) (q 9) (q 11)) rfl (c (OpJ.val (v' := .d (.bool true)) (by rw [hg27]) (mv hN (q 12))) rfl (c (OpJ.guarded (g := 13) (by rfl) (mv hN (q 0))) rfl (c (OpJ.guarded (g := 13) (by rfl) (mv hN (q 7))) rfl (c (OpJ.guarded (g := 13) (by rfl) (OpJ.indexD Try.underlying23 tyS39 (idx_some hx28).1 (get_map e_api_Entry (idx_some hx28).2) (L rfl) (q 14) (q 15))) rfl (c (OpJ.guarded (g := 13) (by rfl) (OpJ.fieldD Try.underlying39 (by rfl) (o := 0) (by rfl) tyS37 (by decide) (by rfl) (by rfl) (L rfl) (q 16))) rfl (c (OpJ.guarded (g := 13) (by rfl) (OpJ.loadD tyS37 (by rfl) (by rfl) (L rfl) (q 17))) rfl (c (OpJ.guarded (g := 13) (by rfl) (lb hN 37 _ _ tyS37 (At.here _) (q 4))) rfl (cg (OpJ.guarded (g := 13) (by rfl) (OpJ.callFn hB fnOk62 (exchangepointref02_Cmp_ac x28.fPrefix a1 r29 hr29) [] (by kernel_rfl) (L rfl) (by kernel_rfl) (OpdL.cons (q 18) (OpdL.cons (q 19) OpdL.nil)))) rfl (c (OpJ.guarded (g := 13) (by rfl) (OpJ.lss (L rfl) (q 20) (Opd.int .i64 (0)))) rfl (c (OpJ.pickT (L rfl) (q 13) (q 21)) rfl cn)))))))))))))) (by kernel_rfl) (by kernel_rfl) ?_
        exact hjj25 _ h _ _ (Mat.trans (mp [] [(0, (qe_api_Entry_5 a0)), (2, (i6 a2)), (4, (.ptr 1004 0 [])), (7, (i6 s1)), (22, (bo (decide (r29 < (0 : Int)))))] [(1004, some (.box 37 (.d (e_api_Prefix a1))))] hB) (mp [] _ _ hB))
      · replace h := ite_f hg27 h
        refine dr (c (mv hN (q 7)) rfl (c (mv hN (q 0)) rfl (c (OpJ.val (v' := (i6 (a0.length : Int))) (by simp) (OpJ.lenD Try.underlying23 (L rfl) (q 10))) rfl (c (OpJ.lss (L rfl) (q 9) (q 11)) rfl (c (OpJ.val (v' := .d (.bool false)) (by rw [hg27]) (mv hN (q 12))) rfl (cg (OpJ.skipU (g := 13) (L rfl) (by rfl)) rfl (cg (OpJ.skipU (g := 13) (L rfl) (by rfl)) rfl (cg (OpJ.skipU (g := 13) (L rfl) (by rfl)) rfl (cg (OpJ.skipU (g := 13) (L rfl) (by rfl)) rfl (cg (OpJ.skipU (g := 13) (L rfl) (by rfl)) rfl (cg (OpJ.skipU (g := 13) (L rfl) (by rfl)) rfl (cg (OpJ.skipU (g := 13) (L rfl) (by rfl)) rfl (cg (OpJ.skipU (g := 13) (L rfl) (by rfl)) rfl (c (OpJ.pickF (L rfl) (q 13) (Opd.bool false)) rfl cn)))))))))))))) (by kernel_rfl) (by kernel_rfl) ?_
        exact hjj25 _ h _ _ (Mat.trans (mp [] [(0, (qe_api_Entry_5 a0)), (2, (i6 a2)), (4, (.ptr 1004 0 [])), (7, (i6 s1)), (22, (bo false))] [(1004, some (.box 37 (.d (e_api_Prefix a1))))] hB) (mp [] _ _ hB))
  · obtain ⟨rfl, hmat⟩ := hR
    refine blkQ_hit ?_
    refine seqQ_n ?_
    refine AWp.ghost hmat ?_
    obtain ⟨hc32, h⟩ := chk_some h
    refine sr (c (mv hN (q 0)) rfl (c (mv hN (q 7)) rfl (c (OpJ.cutD Try.underlying23 tyS39 (es' := ((a0.take a0.length).drop p20.toNat).map e_api_Entry) (l := p20.toNat) (h := a0.length) (.inr ⟨_, _, _, rfl, (ot 26 (i6 p20)), (of_decide_eq_true (and_l2 (and_l2 hc32))), rfl⟩) (.inl ⟨rfl, by simp, rfl⟩) (of_decide_eq_true (and_r2 (and_l2 hc32))) (by first | (simp; done) | simpa using (of_decide_eq_true (and_r2 hc32))) (by first | rw [List.map_drop, List.map_take] | simp [List.map_take, List.map_drop]) (L rfl) (q 25)) rfl (c (OpJ.assign (L rfl) (q 27)) rfl cn)))) ?_
    refine gh [(0, _), (2, _), (4, _), (7, _), (8, _)] [(1004, some _)] hB rfl rfl (by rfl) ?_
    refine AWp.seq ?_
    refine AWp.seq ?_
    refine AWp.cut h (fun m35 : Bool => ([(0, (qe_api_Entry_5 a0)), (2, (i6 a2)), (4, (.ptr 1004 0 [])), (7, (i6 p20)), (8, (qe_api_Entry_5 ((a0.take a0.length).drop p20.toNat))), (38, (bo m35))] : EL)) (fun m35 : Bool => ([(1004, some (.box 37 (.d (e_api_Prefix a1))))] : OL)) (fun m35 h E' O' hmat => ?_) (fun j36 hjj36 h => ?_)
    · refine seqQ_n ?_
      refine AWp.ghost hmat ?_
      refine AWp.cut h (fun m39 : (List api_Entry) => ([(0, (qe_api_Entry_5 a0)), (2, (i6 a2)), (4, (.ptr 1004 0 [])), (7, (i6 p20)), (8, (qe_api_Entry_5 m39))] : EL)) (fun m39 : (List api_Entry) => ([(1004, some (.box 37 (.d (e_api_Prefix a1))))] : OL)) (fun m39 h E' O' hmat => ?_) (fun j40 hjj40 h => ?_)
      · refine seqQ_n ?_
        refine AWp.ghost hmat ?_
        obtain ⟨hc41, h⟩ := chk_some h
        obtain ⟨hc42, h⟩ := chk_some h
        obtain ⟨hc43, h⟩ := chk_some h
        obtain ⟨hc44, h⟩ := chk_some h
        refine sd (c (mv hN (q 0)) rfl (c (mv hN (q 7)) rfl (c (OpJ.cutD Try.underlying23 tyS39 (es' := ((a0.take p20.toNat).drop 0).map e_api_Entry) (l := 0) (h := p20.toNat) (.inl ⟨rfl, rfl, rfl⟩) (.inr ⟨_, _, _, rfl, (ot 42 (i6 p20)), (of_decide_eq_true (and_l2 (and_l2 hc41))), rfl⟩) (of_decide_eq_true (and_r2 (and_l2 hc41))) (by first | (simp; done) | simpa using (of_decide_eq_true (and_r2 hc41))) (by first | rw [List.map_drop, List.map_take] | simp [List.map_take, List.map_drop]) (L rfl) (q 41)) rfl (cg (OpJ.appendN hB Try.underlying23 tyE39 (nm := 1044) (by decide) (ys := ((a0.take p20.toNat).drop 0).map e_api_Entry) (len := ((a0.take p20.toNat).drop 0).length) (by simp) (map_sz (f := e_api_Entry) (fun _ => rfl)) (by rw [List.length_map]; exact lim_mulN hc42 (by decide)) (by rw [List.length_map]; exact lim_leN hc42) (L rfl) Opd.nils (q 43)) rfl (c (lb hN 37 _ _ tyS37 (At.here _) (q 4)) rfl (c (mv hN (q 2)) rfl (c (OpJ.coe (v := (.st [(.d (e_api_Prefix a1)), (i6 a2)])) (y := (.st [(e_api_Prefix a1), (.int .i64 a2)])) (Co.st (CoL.cons (Co.d _) (CoL.cons (Co.d _) CoL.nil))) rfl (OpJ.build (places := [(0, 4), (4, 1)]) ⟨Try.underlying39, fun w => by kernel_rfl⟩ tyZS39 (Opds.cons (q 45) (Opds.cons (q 46) Opds.nil)) (by kernel_rfl) (r := (.st [(.d (e_api_Prefix a1)), (i6 a2)])) (by rfl) (L rfl))) rfl (c (OpJ.buildSlice Try.underlying23 tyS39 tyZD39 (by rfl) (by decide) (by decide) (Opds.cons (q 47) Opds.nil) (by kernel_rfl) (es := ([(.st [(e_api_Prefix a1), (.int .i64 a2)])] : List D)) (by rfl) (by rfl) (by kernel_rfl) (by simp) (L rfl)) rfl (cg (OpJ.append hB Try.underlying23 tyE39 (nm := 1049) (by decide) (es := ((a0.take p20.toNat).drop 0).map e_api_Entry) (ys := ([(api_Entry.mk a1 a2)] : List api_Entry).map e_api_Entry) (es' := (((a0.take p20.toNat).drop 0) ++ ([(api_Entry.mk a1 a2)] : List api_Entry)).map e_api_Entry) (len := (((a0.take p20.toNat).drop 0) ++ ([(api_Entry.mk a1 a2)] : List api_Entry)).length) (by simp) (by simp) (map_sz (f := e_api_Entry) (fun _ => rfl)) (by rw [List.length_map]; exact lim_mulN hc43 (by decide)) (by rw [List.length_map]; exact lim_leN hc43) (L rfl) (by simp) (q 44) (q 48)) rfl (c (mv hN (q 8)) rfl (cg (OpJ.append hB Try.underlying23 tyE39 (nm := 1051) (by decide) (es := (((a0.take p20.toNat).drop 0) ++ ([(api_Entry.mk a1 a2)] : List api_Entry)).map e_api_Entry) (ys := m39.map e_api_Entry) (es' := ((((a0.take p20.toNat).drop 0) ++ ([(api_Entry.mk a1 a2)] : List api_Entry)) ++ m39).map e_api_Entry) (len := ((((a0.take p20.toNat).drop 0) ++ ([(api_Entry.mk a1 a2)] : List api_Entry)) ++ m39).length) (by simp) (by simp) (map_sz (f := e_api_Entry) (fun _ => rfl)) (by rw [List.length_map]; exact lim_mulN hc44 (by decide)) (by rw [List.length_map]; exact lim_leN hc44) (L rfl) (by simp) (q 49) (q 50)) rfl (c (OpJ.assign (L rfl) (q 51)) rfl cn)))))))))))) (by kernel_rfl) (by kernel_rfl) ?_
        refine gh [(6, _)] [(1051, some _)] hB rfl rfl (by rfl) ?_
        refine AWp.ret ?_
        obtain rfl := Option.some.inj h
        exact ⟨.inl rfl, _, _, (Mat.trans (Mat.freezeP (n := 1051) (e := 39) (sz := 5) (es := ((((a0.take p20.toNat).drop 0) ++ ([(api_Entry.mk a1 a2)] : List api_Entry)) ++ m39).map e_api_Entry) (Ts := [(6, (qe_api_Entry_5 ((((a0.take p20.toNat).drop 0) ++ ([(api_Entry.mk a1 a2)] : List api_Entry)) ++ m39)))]) (Bs := []) (by rfl) (TwT.cons (x := (.sref 1051 5 0 (((((a0.take p20.toNat).drop 0) ++ ([(api_Entry.mk a1 a2)] : List api_Entry)) ++ m39).length))) (by rfl) (FrzL.all (by first | rfl | (simp; done) | (simp; omega))) TwT.nil) TwB.nil) (mp [] [(6, (qe_api_Entry_5 ((((a0.take p20.toNat).drop 0) ++ ([(api_Entry.mk a1 a2)] : List api_Entry)) ++ m39)))] [] hB)), [(qe_api_Entry_5 ((((a0.take p20.toNat).drop 0) ++ ([(api_Entry.mk a1 a2)] : List api_Entry)) ++ m39))], (Res.tmp (by rfl) (by rfl) Res.nil), rfl, by rfl, by rfl, by rfl⟩
      · refine AWp.cond rfl (fun hg45 => ?_) (fun hg45 => ?_)
        · replace h := ite_t hg45 h
          obtain ⟨hc46, h⟩ := chk_some h
          refine rg (c (mv hN (q 8)) rfl (c (OpJ.cutD Try.underlying23 tyS39 (es' := ((((a0.take a0.length).drop p20.toNat).take (((a0.take a0.length).drop p20.toNat).length)).drop 1).map e_api_Entry) (l := 1) (h := ((a0.take a0.length).drop p20.toNat).length) (.inr ⟨_, _, _, rfl, (Opd.int .i64 (1)), (of_decide_eq_true (and_l2 (and_l2 hc46))), rfl⟩) (.inl ⟨rfl, by simp, rfl⟩) (of_decide_eq_true (and_r2 (and_l2 hc46))) (by first | (simp; done) | simpa using (of_decide_eq_true (and_r2 hc46))) (by first | rw [List.map_drop, List.map_take] | simp [List.map_take, List.map_drop]) (L rfl) (q 39)) rfl (c (OpJ.assign (L rfl) (q 40)) rfl cn))) ?_
          exact hjj40 _ h _ _ (Mat.trans (mp [] [(0, (qe_api_Entry_5 a0)), (2, (i6 a2)), (4, (.ptr 1004 0 [])), (7, (i6 p20)), (8, (qe_api_Entry_5 ((((a0.take a0.length).drop p20.toNat).take (((a0.take a0.length).drop p20.toNat).length)).drop 1)))] [(1004, some (.box 37 (.d (e_api_Prefix a1))))] hB) (mp [] _ _ hB))
        · replace h := ite_f hg45 h
          refine AWp.skip ?_
          exact hjj40 _ h _ _ (mp [] _ _ hB)
    · rcases Bool.eq_false_or_eq_true (decide ((0 : Int) < (((a0.take a0.length).drop p20.toNat).length : Int))) with hg47 | hg47
      · replace h := ite_t hg47 h
        obtain ⟨x48, hx48, h⟩ := bindS h
        refine dr (c (mv hN (q 8)) rfl (c (OpJ.val (v' := (i6 (((a0.take a0.length).drop p20.toNat).length : Int))) (by simp) (OpJ.lenD Try.underlying23 (L rfl) (q 28))) rfl (c (OpJ.gtr (L rfl) (q 29) (Opd.int .i64 (0))) rfl (c (OpJ.val (v' := .d (.bool true)) (by rw [hg47]) (mv hN (q 30))) rfl (c (OpJ.guarded (g := 31) (by rfl) (mv hN (q 8))) rfl (c (OpJ.guarded (g := 31) (by rfl) (OpJ.indexD Try.underlying23 tyS39 (idx_some hx48).1 (get_map e_api_Entry (idx_some hx48).2) (L rfl) (q 32) (Opd.int .i64 (0)))) rfl (c (OpJ.guarded (g := 31) (by rfl) (OpJ.fieldD Try.underlying39 (by rfl) (o := 0) (by rfl) tyS37 (by decide) (by rfl) (by rfl) (L rfl) (q 33))) rfl (c (OpJ.guarded (g := 31) (by rfl) (OpJ.loadD tyS37 (by rfl) (by rfl) (L rfl) (q 34))) rfl (c (OpJ.guarded (g := 31) (by rfl) (lb hN 37 _ _ tyS37 (At.here _) (q 4))) rfl (c (OpJ.guarded (g := 31) (by rfl) (OpJ.eqlD (h := 3) (FitE.st Try.underlying37 rfl held37 (FitF.cons (x := (e_api_Addr x48.fPrefix.fAddr)) (y := (e_api_Addr a1.fAddr)) (by decide) rfl tyS33 ⟨rfl, rfl⟩ ⟨rfl, rfl⟩ (FitE.st Try.underlying33 rfl held33 (FitF.cons (x := (.bool x48.fPrefix.fAddr.fV6)) (y := (.bool a1.fAddr.fV6)) (by decide) rfl tyS4 ⟨rfl, rfl⟩ ⟨rfl, rfl⟩ (FitE.bool (h := 0) x48.fPrefix.fAddr.fV6 a1.fAddr.fV6 Try.underlying4) (FitF.cons (x := (.int .u64 x48.fPrefix.fAddr.fHi)) (y := (.int .u64 a1.fAddr.fHi)) (by decide) rfl tyS31 ⟨rfl, rfl⟩ ⟨rfl, rfl⟩ (FitE.int (h := 0) x48.fPrefix.fAddr.fHi a1.fAddr.fHi Try.underlying31) (FitF.cons (x := (.int .u64 x48.fPrefix.fAddr.fLo)) (y := (.int .u64 a1.fAddr.fLo)) (by decide) rfl tyS31 ⟨rfl, rfl⟩ ⟨rfl, rfl⟩ (FitE.int (h := 0) x48.fPrefix.fAddr.fLo a1.fAddr.fLo Try.underlying31) FitF.nil)))) (FitF.cons (x := (.int .i64 x48.fPrefix.fLen)) (y := (.int .i64 a1.fLen)) (by decide) rfl tyS3 ⟨rfl, rfl⟩ ⟨rfl, rfl⟩ (FitE.int (h := 1) x48.fPrefix.fLen a1.fLen Try.underlying3) FitF.nil))) eqg37 ⟨rfl, rfl⟩ (by rfl) (L rfl) (q 35) (q 36))) rfl (c (OpJ.pickT (L rfl) (q 31) (q 37)) rfl cn))))))))))) (by kernel_rfl) (by kernel_rfl) ?_
        exact hjj36 _ h _ _ (Mat.trans (mp [] [(0, (qe_api_Entry_5 a0)), (2, (i6 a2)), (4, (.ptr 1004 0 [])), (7, (i6 p20)), (8, (qe_api_Entry_5 ((a0.take a0.length).drop p20.toNat))), (38, (bo (((x48.fPrefix.fAddr.fV6 == a1.fAddr.fV6) && ((x48.fPrefix.fAddr.fHi == a1.fAddr.fHi) && ((x48.fPrefix.fAddr.fLo == a1.fAddr.fLo) && true))) && ((x48.fPrefix.fLen == a1.fLen) && true))))] [(1004, some (.box 37 (.d (e_api_Prefix a1))))] hB) (mp [] _ _ hB))
      · replace h := ite_f hg47 h
        refine dr (c (mv hN (q 8)) rfl (c (OpJ.val (v' := (i6 (((a0.take a0.length).drop p20.toNat).length : Int))) (by simp) (OpJ.lenD Try.underlying23 (L rfl) (q 28))) rfl (c (OpJ.gtr (L rfl) (q 29) (Opd.int .i64 (0))) rfl (c (OpJ.val (v' := .d (.bool false)) (by rw [hg47]) (mv hN (q 30))) rfl (cg (OpJ.skipU (g := 31) (L rfl) (by rfl)) rfl (cg (OpJ.skipU (g := 31) (L rfl) (by rfl)) rfl (cg (OpJ.skipU (g := 31) (L rfl) (by rfl)) rfl (cg (OpJ.skipU (g := 31) (L rfl) (by rfl)) rfl (cg (OpJ.skipU (g := 31) (L rfl) (by rfl)) rfl (cg (OpJ.skipU (g := 31) (L rfl) (by rfl)) rfl (c (OpJ.pickF (L rfl) (q 31) (Opd.bool false)) rfl cn))))))))))) (by kernel_rfl) (by kernel_rfl) ?_
        exact hjj36 _ h _ _ (Mat.trans (mp [] [(0, (qe_api_Entry_5 a0)), (2, (i6 a2)), (4, (.ptr 1004 0 [])), (7, (i6 p20)), (8, (qe_api_Entry_5 ((a0.take a0.length).drop p20.toNat))), (38, (bo false))] [(1004, some (.box 37 (.d (e_api_Prefix a1))))] hB) (mp [] _ _ hB))

noncomputable def exchangepointref03_Put (a0 : (List api_Entry)) (a1 : api_Prefix) (a2 : Int) : Option ((List api_Entry) × Int) :=
  jn (fun m5 : Bool =>
  (if m5 = true then
  some (([] : List api_Entry), (1 : Int))
  else
  (exchangepointref03_set a0 a1 a2).bind fun r8 =>
  (if (decide ((512 : Int) < (r8.length : Int))) = true then
  some (([] : List api_Entry), (3 : Int))
  else
  some (r8, (0 : Int))))) (fun j6 =>
  (exchangepointref03_Valid a0).bind fun r10 =>
  (if (!r10) = true then
  j6 true
  else
  (exchangepointref02_Valid a1).bind fun r12 =>
  j6 (!r12)))
set_option maxHeartbeats 4000000 in
set_option maxRecDepth 100000 in
theorem exchangepointref03_Put_ac (a0 : (List api_Entry)) (a1 : api_Prefix) (a2 : Int) (r : (List api_Entry) × Int) (h : exchangepointref03_Put a0 a1 a2 = some r) : AC Try.prog 36 [(.d (.list 5 (a0.map e_api_Entry))), (.d (e_api_Prefix a1)), (.d (.int .i64 a2))] [] (.tup [(.d (.list 5 (r.1.map e_api_Entry))), (.d (.int .i64 r.2))]) [] := by
  refine AC.of_code2 Try.func36 rfl rfl (Nat.le_of_ble_eq_true (by rfl)) fun B hB hN => ?_
  have L {d : Nat} (h : Nat.blt d Try.f36.ntmps = true) : d < B.N := ltN hN h
  delta exchangepointref03_Put at h
  refine sr (cg (OpJ.box hB (nm := 1004) (by decide) (by simp) rfl (L rfl) (q 1)) rfl (c (OpJ.assign (L rfl) Opd.nils) rfl (c (OpJ.assign (L rfl) (Opd.int .i64 (0))) rfl cn))) ?_
  refine gh [(0, _), (2, _), (4, _)] [(1004, some _)] hB rfl rfl (by rfl) ?_
  refine AWp.seq ?_
  refine AWp.seq ?_
  refine AWp.cut h (fun m5 : Bool => ([(0, (qe_api_Entry_5 a0)), (2, (i6 a2)), (4, (.ptr 1004 0 [])), (16, (bo m5))] : EL)) (fun m5 : Bool => ([(1004, some (.box 37 (.d (e_api_Prefix a1))))] : OL)) (fun m5 h E' O' hmat => ?_) (fun j6 hjj6 h => ?_)
  · refine seqQ_n ?_
    refine AWp.ghost hmat ?_
    refine AWp.cond rfl (fun hg7 => ?_) (fun hg7 => ?_)
    · replace h := ite_t hg7 h
      refine sr (c (OpJ.assign (L rfl) Opd.nils) rfl (c (OpJ.assign (L rfl) (Opd.int .i64 (1))) rfl cn)) ?_
      refine gh [(6, _), (7, _)] [] hB rfl rfl (by rfl) ?_
      refine AWp.ret ?_
      refine seqQ_r ?_
      obtain rfl := Option.some.inj h
      exact ⟨.inl rfl, _, _, (Mat.trans (Mat.coeP (Ts := [(6, (qe_api_Entry_5 ([] : List api_Entry)))]) (Bs := []) (TwT.cons (x := .nils) (by rfl) (Tw.leaf ⟨_, (Co.nils 5), rfl⟩) TwT.nil) TwB.nil) (mp [] [(6, (qe_api_Entry_5 ([] : List api_Entry))), (7, (i6 1))] [] hB)), [(qe_api_Entry_5 ([] : List api_Entry)), (i6 1)], (Res.tmp (by rfl) (by rfl) (Res.tmp (by rfl) (by rfl) Res.nil)), rfl, by rfl, by rfl, by rfl⟩
    · replace h := ite_f hg7 h
      refine AWp.skip ?_
      refine seqQ_n ?_
      obtain ⟨r8, hr8, h⟩ := bindS h
      refine sr (c (mv hN (q 0)) rfl (c (lb hN 37 _ _ tyS37 (At.here _) (q 4)) rfl (c (mv hN (q 2)) rfl (cg (OpJ.callFn hB fnOk48 (exchangepointref03_set_ac a0 a1 a2 r8 hr8) [] (by kernel_rfl) (L rfl) (by kernel_rfl) (OpdL.cons (q 17) (OpdL.cons (q 18) (OpdL.cons (q 19) OpdL.nil)))) rfl (c (OpJ.assign (L rfl) (q 20)) rfl cn))))) ?_
      refine gh [(8, _)] [] hB rfl rfl (by rfl) ?_
      refine AWp.seq ?_
      refine sr (c (mv hN (q 8)) rfl (c (OpJ.val (v' := (i6 (r8.length : Int))) (by simp) (OpJ.lenD Try.underlying23 (L rfl) (q 21))) rfl (c (OpJ.gtr (L rfl) (q 22) (Opd.int .i64 (512))) rfl cn))) ?_
      refine gh [(8, _), (23, _)] [] hB rfl rfl (by rfl) ?_
      refine AWp.cond rfl (fun hg9 => ?_) (fun hg9 => ?_)
      · replace h := ite_t hg9 h
        refine sr (c (OpJ.assign (L rfl) Opd.nils) rfl (c (OpJ.assign (L rfl) (Opd.int .i64 (3))) rfl cn)) ?_
        refine gh [(6, _), (7, _)] [] hB rfl rfl (by rfl) ?_
        refine AWp.ret ?_
        refine seqQ_r ?_
        obtain rfl := Option.some.inj h
        exact ⟨.inl rfl, _, _, (Mat.trans (Mat.coeP (Ts := [(6, (qe_api_Entry_5 ([] : List api_Entry)))]) (Bs := []) (TwT.cons (x := .nils) (by rfl) (Tw.leaf ⟨_, (Co.nils 5), rfl⟩) TwT.nil) TwB.nil) (mp [] [(6, (qe_api_Entry_5 ([] : List api_Entry))), (7, (i6 (3 : Int)))] [] hB)), [(qe_api_Entry_5 ([] : List api_Entry)), (i6 (3 : Int))], (Res.tmp (by rfl) (by rfl) (Res.tmp (by rfl) (by rfl) Res.nil)), rfl, by rfl, by rfl, by rfl⟩
      · replace h := ite_f hg9 h
        refine AWp.skip ?_
        refine seqQ_n ?_
        refine sr (c (mv hN (q 8)) rfl (c (OpJ.assign (L rfl) (q 24)) rfl (c (OpJ.assign (L rfl) (Opd.int .i64 (0))) rfl cn))) ?_
        refine gh [(6, _), (7, _)] [] hB rfl rfl (by rfl) ?_
        refine AWp.ret ?_
        obtain rfl := Option.some.inj h
        exact ⟨.inl rfl, _, _, (kp [(6, _), (7, _)] [] hB rfl rfl (by rfl)), [(qe_api_Entry_5 r8), (i6 0)], (Res.tmp (by rfl) (by rfl) (Res.tmp (by rfl) (by rfl) Res.nil)), rfl, by rfl, by rfl, by rfl⟩
  · obtain ⟨r10, hr10, h⟩ := bindS h
    rcases Bool.eq_false_or_eq_true (!r10) with hg11 | hg11
    · replace h := ite_t hg11 h
      refine rg (c (mv hN (q 0)) rfl (cg (OpJ.callFn hB fnOk27 (exchangepointref03_Valid_ac a0 r10 hr10) [] (by kernel_rfl) (L rfl) (by kernel_rfl) (OpdL.cons (q 9) OpdL.nil)) rfl (c (OpJ.not (L rfl) (q 10)) rfl (c (OpJ.val (v' := .d (.bool true)) (by rw [hg11]) (mv hN (q 11))) rfl (cg (OpJ.skipU (g := 12) (L rfl) (by rfl)) rfl (cg (OpJ.skipU (g := 12) (L rfl) (by rfl)) rfl (cg (OpJ.skipU (g := 12) (L rfl) (by rfl)) rfl (c (OpJ.pickT (L rfl) (q 12) (Opd.bool true)) rfl cn)))))))) ?_
      exact hjj6 _ h _ _ (Mat.trans (mp [] [(0, (qe_api_Entry_5 a0)), (2, (i6 a2)), (4, (.ptr 1004 0 [])), (16, (bo true))] [(1004, some (.box 37 (.d (e_api_Prefix a1))))] hB) (mp [] _ _ hB))
    · replace h := ite_f hg11 h
      obtain ⟨r12, hr12, h⟩ := bindS h
      refine rg (c (mv hN (q 0)) rfl (cg (OpJ.callFn hB fnOk27 (exchangepointref03_Valid_ac a0 r10 hr10) [] (by kernel_rfl) (L rfl) (by kernel_rfl) (OpdL.cons (q 9) OpdL.nil)) rfl (c (OpJ.not (L rfl) (q 10)) rfl (c (OpJ.val (v' := .d (.bool false)) (by rw [hg11]) (mv hN (q 11))) rfl (c (OpJ.guarded (g := 12) (by rfl) (lb hN 37 _ _ tyS37 (At.here _) (q 4))) rfl (cg (OpJ.guarded (g := 12) (by rfl) (OpJ.callFn hB fnOk61 (exchangepointref02_Valid_ac a1 r12 hr12) [] (by kernel_rfl) (L rfl) (by kernel_rfl) (OpdL.cons (q 13) OpdL.nil))) rfl (c (OpJ.guarded (g := 12) (by rfl) (OpJ.not (L rfl) (q 14))) rfl (c (OpJ.pickF (L rfl) (q 12) (q 15)) rfl cn)))))))) ?_
      exact hjj6 _ h _ _ (Mat.trans (mp [] [(0, (qe_api_Entry_5 a0)), (2, (i6 a2)), (4, (.ptr 1004 0 [])), (16, (bo (!r12)))] [(1004, some (.box 37 (.d (e_api_Prefix a1))))] hB) (mp [] _ _ hB))

noncomputable def exchangepointmake_Deck_Table_L0 (s2 : (List api_Entry) × Int × exchangepointmake_Deck) : Option ((((List api_Entry) × exchangepointmake_Deck)) ⊕ ((List api_Entry) × Int × exchangepointmake_Deck)) :=
  (if (decide ((0 : Int) < s2.2.1)) = true then
  (exchangepointmake_Deck_Prefix s2.2.2).bind fun r109 =>
  jn (fun m112 : Bool × exchangepointmake_Deck =>
  jn (fun m132 : api_Prefix × exchangepointmake_Deck =>
  (exchangepointmake_Deck_Next m132.2 (3 : Int)).bind fun r134 =>
  (exchangepointref03_Put s2.1 m132.1 r134.1).bind fun r135 =>
  jn (fun m137 : (List api_Entry) =>
  some (.inr (m137, (w64 (s2.2.1 - (1 : Int))), r134.2))) (fun j138 =>
  (if (r135.2 == (0 : Int)) = true then
  j138 r135.1
  else
  j138 s2.1))) (fun j133 =>
  (if m112.1 = true then
  (exchangepointmake_Deck_Next m112.2 (s2.1.length : Int)).bind fun r141 =>
  (idx s2.1 r141.1).bind fun x142 =>
  (exchangepointref02_Halves x142.fPrefix).bind fun r143 =>
  jn (fun m146 : Bool × exchangepointmake_Deck =>
  (if m146.1 = true then
  (exchangepointmake_Deck_Next m146.2 (2 : Int)).bind fun r149 =>
  (idx ([r143.1, r143.2.1] : List api_Prefix) r149.1).bind fun x150 =>
  j133 (x150, r149.2)
  else
  (if (decide ((0 : Int) < x142.fPrefix.fLen)) = true then
  (exchangepointref02_Make x142.fPrefix.fAddr (w64 (x142.fPrefix.fLen - (1 : Int)))).bind fun r152 =>
  (exchangepointref02_Halves r152.1).bind fun r153 =>
  (exchangepointmake_Deck_Next m146.2 (2 : Int)).bind fun r154 =>
  (idx ([r153.1, r153.2.1] : List api_Prefix) r154.1).bind fun x155 =>
  j133 (x155, r154.2)
  else
  j133 (x142.fPrefix, m146.2)))) (fun j147 =>
  (if (r143.2.2 == (0 : Int)) = true then
  (exchangepointmake_Deck_Next r141.2 (2 : Int)).bind fun r157 =>
  j147 ((r157.1 == (0 : Int)), r157.2)
  else
  j147 (false, r141.2)))
  else
  j133 (r109.1, m112.2)))) (fun j113 =>
  (if (decide ((0 : Int) < (s2.1.length : Int))) = true then
  (exchangepointmake_Deck_Next r109.2 (2 : Int)).bind fun r159 =>
  j113 ((r159.1 == (0 : Int)), r159.2)
  else
  j113 (false, r109.2)))
  else
  some (.inl (s2.1, s2.2.2)))
noncomputable def exchangepointmake_Deck_Table (a0 : exchangepointmake_Deck) : Option ((List api_Entry) × exchangepointmake_Deck) :=
  (exchangepointmake_Deck_Next a0 (24 : Int)).bind fun r1 =>
  (loop (exchangepointmake_Deck_Table_L0) (([] : List api_Entry), r1.1, r1.2)).bind fun p107 =>
  some (p107.1, p107.2)
set_option maxHeartbeats 4000000 in
set_option maxRecDepth 100000 in
theorem exchangepointmake_Deck_Table_ac (a0 : exchangepointmake_Deck) (r : (List api_Entry) × exchangepointmake_Deck) (h : exchangepointmake_Deck_Table a0 = some r) : AC Try.prog 11 [(.ptr 0 0 [])] [(0, (.box 65 (.d (e_exchangepointmake_Deck a0))))] (.d (.list 5 (r.1.map e_api_Entry))) [(0, some (.box 65 (.d (e_exchangepointmake_Deck r.2))))] := by
  refine AC.of_code2 Try.func11 rfl rfl (Nat.le_of_ble_eq_true (by rfl)) fun B hB hN => ?_
  have L {d : Nat} (h : Nat.blt d Try.f11.ntmps = true) : d < B.N := ltN hN h
  delta exchangepointmake_Deck_Table at h
  refine sr (c (OpJ.assign (L rfl) Opd.nils) rfl cn) ?_
  refine gh [(0, _)] [(0, some _)] hB rfl rfl (by rfl) ?_
  refine sr (c (OpJ.assign (L rfl) Opd.nils) rfl cn) ?_
  refine gh [(0, _), (3, _)] [(0, some _)] hB rfl rfl (by rfl) ?_
  refine AWp.seq ?_
  refine AWp.seq ?_
  obtain ⟨r1, hr1, h⟩ := bindS h
  refine AWp.region (oc (mv hN (ot 0 (.ptr 0 0 [])))
  (oc (OpJ.callFn hB fnOk17 (exchangepointmake_Deck_Next_ac a0 (24 : Int) r1 hr1) [(0, 0)] (by kernel_rfl) (L rfl) (by kernel_rfl) (OpdL.cons (ot 16 (.ptr 0 0 [])) (OpdL.cons (Opd.int .i64 (24)) OpdL.nil)))
  (oc (OpJ.assign (L rfl) (ot 17 (i6 r1.1)))
  (OpJs.nil)))) (by rfl) (by rfl) ?_
  refine seqQ_n ?_
  refine AWp.ghost (mp [] [(0, (.ptr 0 0 [])), (3, .nils), (4, (i6 r1.1))] [(0, some (.box 65 (.d (e_exchangepointmake_Deck r1.2))))] hB) ?_
  refine AWp.block ?_
  obtain ⟨p107, hx161, h⟩ := bindS h
  refine lg (exchangepointmake_Deck_Table_L0) (fun s2 : (List api_Entry) × Int × exchangepointmake_Deck => ([(0, (.ptr 0 0 [])), (3, (qe_api_Entry_5 s2.1)), (4, (i6 s2.2.1))] : EL)) (fun s2 : (List api_Entry) × Int × exchangepointmake_Deck => ([(0, some (.box 65 (.d (e_exchangepointmake_Deck s2.2.2))))] : OL)) (fun (p107 : ((List api_Entry) × exchangepointmake_Deck)) e E' O' => e = .exit 0 ∧ Mat B E' O' ([(3, (qe_api_Entry_5 p107.1))] : EL) ([(0, some (.box 65 (.d (e_exchangepointmake_Deck p107.2))))] : OL)) hx161 (Mat.trans (Mat.coeP (Ts := [(3, (qe_api_Entry_5 ([] : List api_Entry)))]) (Bs := []) (TwT.cons (x := .nils) (by rfl) (Tw.leaf ⟨_, (Co.nils 5), rfl⟩) TwT.nil) TwB.nil) (mp [] _ _ hB)) (fun s2 y h => ?_) (fun e E' O' hR => ?_)
  · unfold exchangepointmake_Deck_Table_L0 at h
    refine AWp.seq ?_
    refine sr (c (mv hN (q 4)) rfl (c (OpJ.gtr (L rfl) (q 18) (Opd.int .i64 (0))) rfl cn)) ?_
    refine gh [(0, _), (3, _), (4, _), (19, _)] [(0, some _)] hB rfl rfl (by rfl) ?_
    refine AWp.cond rfl (fun hg108 => ?_) (fun hg108 => ?_)
    · replace h := ite_t hg108 h
      refine AWp.skip ?_
      refine seqQ_n ?_
      refine AWp.seq ?_
      refine AWp.block ?_
      refine AWp.seq ?_
      obtain ⟨r109, hr109, h⟩ := bindS h
      refine AWp.region (oc (mv hN (ot 0 (.ptr 0 0 [])))
        (oc (OpJ.callFn hB fnOk26 (exchangepointmake_Deck_Prefix_ac s2.2.2 r109 hr109) [(0, 0)] (by kernel_rfl) (L rfl) (by kernel_rfl) (OpdL.cons (ot 22 (.ptr 0 0 [])) OpdL.nil))
        (oc (OpJ.alloc hB tyZ37 (nm := 1005) (by decide) (L rfl))
        (oc (OpJ.storeB (bt := 37) (c := (.d (.st [(.st [(.bool false), (.int .u64 0), (.int .u64 0)]), (.int .i64 0)]))) (v := (.d (e_api_Prefix r109.1))) (c' := (.d (e_api_Prefix r109.1))) tyS37 (SetAt.here _ _) (by rfl) (by rfl) (by simp) rfl (ot 5 (.ptr 1005 0 [])) (ot 23 (.d (e_api_Prefix r109.1))))
        (OpJs.nil))))) (by rfl) (by rfl) ?_
      refine seqQ_n ?_
      refine AWp.ghost (mp [] [(0, (.ptr 0 0 [])), (3, (qe_api_Entry_5 s2.1)), (4, (i6 s2.2.1)), (5, (.ptr 1005 0 []))] [(0, some (.box 65 (.d (e_exchangepointmake_Deck r109.2)))), (1005, some (.box 37 (.d (e_api_Prefix r109.1))))] hB) ?_
      refine AWp.seq ?_
      refine AWp.seq ?_
      refine AWp.cut h (fun m112 : Bool × exchangepointmake_Deck => ([(0, (.ptr 0 0 [])), (3, (qe_api_Entry_5 s2.1)), (4, (i6 s2.2.1)), (5, (.ptr 1005 0 [])), (31, (bo m112.1))] : EL)) (fun m112 : Bool × exchangepointmake_Deck => ([(0, some (.box 65 (.d (e_exchangepointmake_Deck m112.2)))), (1005, some (.box 37 (.d (e_api_Prefix r109.1))))] : OL)) (fun m112 h E' O' hmat => ?_) (fun j113 hjj113 h => ?_)
      · refine seqQ_n ?_
        refine AWp.ghost hmat ?_
        refine AWp.cut h (fun m132 : api_Prefix × exchangepointmake_Deck => ([(0, (.ptr 0 0 [])), (3, (qe_api_Entry_5 s2.1)), (4, (i6 s2.2.1)), (5, (.ptr 1005 0 []))] : EL)) (fun m132 : api_Prefix × exchangepointmake_Deck => ([(0, some (.box 65 (.d (e_exchangepointmake_Deck m132.2)))), (1005, some (.box 37 (.d (e_api_Prefix m132.1))))] : OL)) (fun m132 h E' O' hmat => ?_) (fun j133 hjj133 h => ?_)
        · refine seqQ_n ?_
          refine AWp.ghost hmat ?_
          refine AWp.seq ?_
          obtain ⟨r134, hr134, h⟩ := bindS h
          obtain ⟨r135, hr135, h⟩ := bindS h
          refine AWp.draws (by kernel_rfl) (oc (mv hN (ot 3 (qe_api_Entry_5 s2.1)))
            (oc (lb hN 37 (.d (e_api_Prefix m132.1)) (.d (e_api_Prefix m132.1)) tyS37 (At.here _) (ot 5 (.ptr 1005 0 [])))
            (oc (mv hN (ot 0 (.ptr 0 0 [])))
            (oc (OpJ.callFn hB fnOk17 (exchangepointmake_Deck_Next_ac m132.2 (3 : Int) r134 hr134) [(0, 0)] (by kernel_rfl) (L rfl) (by kernel_rfl) (OpdL.cons (ot 88 (.ptr 0 0 [])) (OpdL.cons (Opd.int .i64 (3)) OpdL.nil)))
            (oc (OpJ.callFn hB fnOk36 (exchangepointref03_Put_ac s2.1 m132.1 r134.1 r135 hr135) [] (by kernel_rfl) (L rfl) (by kernel_rfl) (OpdL.cons (ot 86 (qe_api_Entry_5 s2.1)) (OpdL.cons (ot 87 (.d (e_api_Prefix m132.1))) (OpdL.cons (ot 89 (i6 r134.1)) OpdL.nil))))
            (oc (mv hN (ot 90 (.tup [(qe_api_Entry_5 r135.1), (i6 r135.2)])))
            (oc (OpJ.extract (v := (qe_api_Entry_5 r135.1)) (by rfl) rfl (L rfl) (ot 85 (.tup [(qe_api_Entry_5 r135.1), (i6 r135.2)])))
            (oc (OpJ.extract (v := (i6 r135.2)) (by rfl) rfl (L rfl) (ot 85 (.tup [(qe_api_Entry_5 r135.1), (i6 r135.2)])))
            (oc (OpJ.assign (L rfl) (ot 91 (qe_api_Entry_5 r135.1)))
            (oc (OpJ.assign (L rfl) (ot 92 (i6 r135.2)))
            (OpJs.nil))))))))))) (by kernel_rfl) (by rfl) (by rfl) ?_
          refine seqQ_n ?_
          refine AWp.ghost (mp [] [(0, (.ptr 0 0 [])), (3, (qe_api_Entry_5 s2.1)), (4, (i6 s2.2.1)), (14, (qe_api_Entry_5 r135.1)), (15, (i6 r135.2))] [(0, some (.box 65 (.d (e_exchangepointmake_Deck r134.2))))] hB) ?_
          refine sr (c (mv hN (q 15)) rfl (c (OpJ.eqlI (L rfl) (q 93) (Opd.int .i64 (0))) rfl cn)) ?_
          refine gh [(0, _), (3, _), (4, _), (14, _), (94, _)] [(0, some _)] hB rfl rfl (by rfl) ?_
          refine AWp.cut h (fun m137 : (List api_Entry) => ([(0, (.ptr 0 0 [])), (3, (qe_api_Entry_5 m137)), (4, (i6 s2.2.1))] : EL)) (fun m137 : (List api_Entry) => ([(0, some (.box 65 (.d (e_exchangepointmake_Deck r134.2))))] : OL)) (fun m137 h E' O' hmat => ?_) (fun j138 hjj138 h => ?_)
          · refine blkQ_n ?_
            refine seqQ_n ?_
            refine AWp.ghost hmat ?_
            refine rg (c (mv hN (q 4)) rfl (c (sub6 (L rfl) (q 20) (Opd.int .i64 (1))) rfl (c (OpJ.assign (L rfl) (q 21)) rfl cn))) ?_
            obtain rfl := Option.some.inj h
            exact ⟨rfl, (Mat.trans (mp [] [(0, (.ptr 0 0 [])), (3, (qe_api_Entry_5 m137)), (4, (i6 (w64 (s2.2.1 - (1 : Int)))))] [(0, some (.box 65 (.d (e_exchangepointmake_Deck r134.2))))] hB) (mp [] _ _ hB))⟩
          · refine AWp.cond rfl (fun hg139 => ?_) (fun hg139 => ?_)
            · replace h := ite_t hg139 h
              refine rg (c (mv hN (q 14)) rfl (c (OpJ.assign (L rfl) (q 95)) rfl cn)) ?_
              exact hjj138 _ h _ _ (Mat.trans (mp [] [(0, (.ptr 0 0 [])), (3, (qe_api_Entry_5 r135.1)), (4, (i6 s2.2.1))] [(0, some (.box 65 (.d (e_exchangepointmake_Deck r134.2))))] hB) (mp [] _ _ hB))
            · replace h := ite_f hg139 h
              refine AWp.skip ?_
              exact hjj138 _ h _ _ (mp [] _ _ hB)
        · refine AWp.cond rfl (fun hg140 => ?_) (fun hg140 => ?_)
          · replace h := ite_t hg140 h
            refine AWp.seq ?_
            obtain ⟨r141, hr141, h⟩ := bindS h
            obtain ⟨x142, hx142, h⟩ := bindS h
            refine AWp.region (oc (mv hN (ot 3 (qe_api_Entry_5 s2.1)))
              (oc (mv hN (ot 0 (.ptr 0 0 [])))
              (oc (mv hN (ot 3 (qe_api_Entry_5 s2.1)))
              (oc (OpJ.val (v' := (i6 (s2.1.length : Int))) (by simp) (OpJ.lenD Try.underlying23 (L rfl) (ot 34 (qe_api_Entry_5 s2.1))))
              (oc (OpJ.callFn hB fnOk17 (exchangepointmake_Deck_Next_ac m112.2 (s2.1.length : Int) r141 hr141) [(0, 0)] (by kernel_rfl) (L rfl) (by kernel_rfl) (OpdL.cons (ot 33 (.ptr 0 0 [])) (OpdL.cons (ot 35 (i6 (s2.1.length : Int))) OpdL.nil)))
              (oc (OpJ.indexD (el := (e_api_Entry x142)) Try.underlying23 tyS39 (idx_some hx142).1 (get_map e_api_Entry (idx_some hx142).2) (L rfl) (ot 32 (qe_api_Entry_5 s2.1)) (ot 36 (i6 r141.1)))
              (oc (OpJ.fieldD Try.underlying39 (by rfl) (o := 0) (by rfl) tyS37 (by decide) (ds := [(e_api_Prefix x142.fPrefix), (.int .i64 x142.fValue)]) (e := (e_api_Prefix x142.fPrefix)) (by rfl) (by rfl) (L rfl) (ot 37 (.dptr (e_api_Entry x142))))
              (oc (OpJ.loadD tyS37 (by rfl) (by rfl) (L rfl) (ot 38 (.dptr (e_api_Prefix x142.fPrefix))))
              (oc (OpJ.storeB (bt := 37) (c := (.d (e_api_Prefix r109.1))) (v := (.d (e_api_Prefix x142.fPrefix))) (c' := (.d (e_api_Prefix x142.fPrefix))) tyS37 (SetAt.here _ _) (by rfl) (by rfl) (by simp) rfl (ot 5 (.ptr 1005 0 [])) (ot 39 (.d (e_api_Prefix x142.fPrefix))))
              (OpJs.nil)))))))))) (by rfl) (by rfl) ?_
            refine seqQ_n ?_
            refine AWp.ghost (mp [] [(0, (.ptr 0 0 [])), (3, (qe_api_Entry_5 s2.1)), (4, (i6 s2.2.1)), (5, (.ptr 1005 0 []))] [(0, some (.box 65 (.d (e_exchangepointmake_Deck r141.2)))), (1005, some (.box 37 (.d (e_api_Prefix x142.fPrefix))))] hB) ?_
            obtain ⟨r143, hr143, h⟩ := bindS h
            refine sr (c (lb hN 37 _ _ tyS37 (At.here _) (q 5)) rfl (cg (OpJ.callFn hB fnOk40 (exchangepointref02_Halves_ac x142.fPrefix r143 hr143) [] (by kernel_rfl) (L rfl) (by kernel_rfl) (OpdL.cons (q 41) OpdL.nil)) rfl (c (mv hN (q 42)) rfl (c (OpJ.extract (by rfl) rfl (L rfl) (q 40)) rfl (c (OpJ.extract (by rfl) rfl (L rfl) (q 40)) rfl (c (OpJ.extract (by rfl) rfl (L rfl) (q 40)) rfl (cg (OpJ.alloc hB tyZ37 (nm := 1006) (by decide) (L rfl)) rfl (cg (OpJ.alloc hB tyZ37 (nm := 1007) (by decide) (L rfl)) rfl (cg (OpJ.storeB tyS37 (SetAt.here _ _) (by rfl) (by rfl) (by simp) rfl (q 6) (q 43)) rfl (cg (OpJ.storeB tyS37 (SetAt.here _ _) (by rfl) (by rfl) (by simp) rfl (q 7) (q 44)) rfl (c (OpJ.assign (L rfl) (q 45)) rfl cn))))))))))) ?_
            refine gh [(0, _), (3, _), (4, _), (5, _), (6, _), (7, _), (8, _)] [(0, some _), (1005, some _), (1006, some _), (1007, some _)] hB rfl rfl (by rfl) ?_
            refine AWp.seq ?_
            refine AWp.cut h (fun m146 : Bool × exchangepointmake_Deck => ([(0, (.ptr 0 0 [])), (3, (qe_api_Entry_5 s2.1)), (4, (i6 s2.2.1)), (5, (.ptr 1005 0 [])), (6, (.ptr 1006 0 [])), (7, (.ptr 1007 0 [])), (52, (bo m146.1))] : EL)) (fun m146 : Bool × exchangepointmake_Deck => ([(0, some (.box 65 (.d (e_exchangepointmake_Deck m146.2)))), (1005, some (.box 37 (.d (e_api_Prefix x142.fPrefix)))), (1006, some (.box 37 (.d (e_api_Prefix r143.1)))), (1007, some (.box 37 (.d (e_api_Prefix r143.2.1))))] : OL)) (fun m146 h E' O' hmat => ?_) (fun j147 hjj147 h => ?_)
            · refine seqQ_n ?_
              refine AWp.ghost hmat ?_
              refine AWp.cond rfl (fun hg148 => ?_) (fun hg148 => ?_)
              · replace h := ite_t hg148 h
                obtain ⟨r149, hr149, h⟩ := bindS h
                obtain ⟨x150, hx150, h⟩ := bindS h
                refine AWp.draws (by kernel_rfl) (oc (lb hN 37 (.d (e_api_Prefix r143.1)) (.d (e_api_Prefix r143.1)) tyS37 (At.here _) (ot 6 (.ptr 1006 0 [])))
                  (oc (lb hN 37 (.d (e_api_Prefix r143.2.1)) (.d (e_api_Prefix r143.2.1)) tyS37 (At.here _) (ot 7 (.ptr 1007 0 [])))
                  (oc (OpJ.buildSlice Try.underlying60 tyS37 tyZD37 (by rfl) (by decide) (by decide) (Opds.cons (ot 53 (.d (e_api_Prefix r143.1))) (Opds.cons (ot 54 (.d (e_api_Prefix r143.2.1))) Opds.nil)) (by kernel_rfl) (es := ([(e_api_Prefix r143.1), (e_api_Prefix r143.2.1)] : List D)) (by rfl) (by rfl) (by kernel_rfl) (by simp) (L rfl))
                  (oc (mv hN (ot 0 (.ptr 0 0 [])))
                  (oc (OpJ.callFn hB fnOk17 (exchangepointmake_Deck_Next_ac m146.2 (2 : Int) r149 hr149) [(0, 0)] (by kernel_rfl) (L rfl) (by kernel_rfl) (OpdL.cons (ot 56 (.ptr 0 0 [])) (OpdL.cons (Opd.int .i64 (2)) OpdL.nil)))
                  (oc (OpJ.indexD (el := (e_api_Prefix x150)) Try.underlying60 tyS37 (idx_some hx150).1 (get_map e_api_Prefix (idx_some hx150).2) (L rfl) (ot 55 (qe_api_Prefix_4 ([r143.1, r143.2.1] : List api_Prefix))) (ot 57 (i6 r149.1)))
                  (oc (OpJ.loadD tyS37 (by rfl) (by rfl) (L rfl) (ot 58 (.dptr (e_api_Prefix x150))))
                  (oc (OpJ.storeB (bt := 37) (c := (.d (e_api_Prefix x142.fPrefix))) (v := (.d (e_api_Prefix x150))) (c' := (.d (e_api_Prefix x150))) tyS37 (SetAt.here _ _) (by rfl) (by rfl) (by simp) rfl (ot 5 (.ptr 1005 0 [])) (ot 59 (.d (e_api_Prefix x150))))
                  (OpJs.nil))))))))) (by kernel_rfl) (by rfl) (by rfl) ?_
                exact hjj133 _ h _ _ (Mat.trans (mp [] [(0, (.ptr 0 0 [])), (3, (qe_api_Entry_5 s2.1)), (4, (i6 s2.2.1)), (5, (.ptr 1005 0 []))] [(0, some (.box 65 (.d (e_exchangepointmake_Deck r149.2)))), (1005, some (.box 37 (.d (e_api_Prefix x150))))] hB) (mp [] _ _ hB))
              · replace h := ite_f hg148 h
                refine sr (c (ov (.ptr 1005 3 [1]) (fp hN Try.underlying37 3 tyS3 _ (q 5))) rfl (c (lb hN 37 _ _ tyS3 (ad _) (q 60)) rfl (c (OpJ.gtr (L rfl) (q 61) (Opd.int .i64 (0))) rfl cn))) ?_
                refine gh [(0, _), (3, _), (4, _), (5, _), (62, _)] [(0, some _), (1005, some _)] hB rfl rfl (by rfl) ?_
                refine AWp.cond rfl (fun hg151 => ?_) (fun hg151 => ?_)
                · replace h := ite_t hg151 h
                  obtain ⟨r152, hr152, h⟩ := bindS h
                  refine sr (c (ov (.ptr 1005 0 [0]) (fp hN Try.underlying37 0 tyS33 _ (q 5))) rfl (c (lb hN 37 _ _ tyS33 (ad _) (q 64)) rfl (c (ov (.ptr 1005 3 [1]) (fp hN Try.underlying37 3 tyS3 _ (q 5))) rfl (c (lb hN 37 _ _ tyS3 (ad _) (q 66)) rfl (c (sub6 (L rfl) (q 67) (Opd.int .i64 (1))) rfl (cg (OpJ.callFn hB fnOk18 (exchangepointref02_Make_ac x142.fPrefix.fAddr (w64 (x142.fPrefix.fLen - (1 : Int))) r152 hr152) [] (by kernel_rfl) (L rfl) (by kernel_rfl) (OpdL.cons (q 65) (OpdL.cons (q 68) OpdL.nil))) rfl (c (mv hN (q 69)) rfl (c (OpJ.extract (by rfl) rfl (L rfl) (q 63)) rfl (c (OpJ.extract (by rfl) rfl (L rfl) (q 63)) rfl (cg (OpJ.alloc hB tyZ37 (nm := 1009) (by decide) (L rfl)) rfl (cg (OpJ.storeB tyS37 (SetAt.here _ _) (by rfl) (by rfl) (by simp) rfl (q 9) (q 70)) rfl (c (OpJ.assign (L rfl) (q 71)) rfl cn)))))))))))) ?_
                  refine gh [(0, _), (3, _), (4, _), (5, _), (9, _)] [(0, some _), (1005, some _), (1009, some _)] hB rfl rfl (by rfl) ?_
                  obtain ⟨r153, hr153, h⟩ := bindS h
                  refine sr (c (lb hN 37 _ _ tyS37 (At.here _) (q 9)) rfl (cg (OpJ.callFn hB fnOk40 (exchangepointref02_Halves_ac r152.1 r153 hr153) [] (by kernel_rfl) (L rfl) (by kernel_rfl) (OpdL.cons (q 73) OpdL.nil)) rfl (c (mv hN (q 74)) rfl (c (OpJ.extract (by rfl) rfl (L rfl) (q 72)) rfl (c (OpJ.extract (by rfl) rfl (L rfl) (q 72)) rfl (c (OpJ.extract (by rfl) rfl (L rfl) (q 72)) rfl (cg (OpJ.alloc hB tyZ37 (nm := 1011) (by decide) (L rfl)) rfl (cg (OpJ.alloc hB tyZ37 (nm := 1012) (by decide) (L rfl)) rfl (cg (OpJ.storeB tyS37 (SetAt.here _ _) (by rfl) (by rfl) (by simp) rfl (q 11) (q 75)) rfl (cg (OpJ.storeB tyS37 (SetAt.here _ _) (by rfl) (by rfl) (by simp) rfl (q 12) (q 76)) rfl (c (OpJ.assign (L rfl) (q 77)) rfl cn))))))))))) ?_
                  refine gh [(0, _), (3, _), (4, _), (5, _), (11, _), (12, _)] [(0, some _), (1005, some _), (1011, some _), (1012, some _)] hB rfl rfl (by rfl) ?_
                  obtain ⟨r154, hr154, h⟩ := bindS h
                  obtain ⟨x155, hx155, h⟩ := bindS h
                  refine AWp.draws (by kernel_rfl) (oc (lb hN 37 (.d (e_api_Prefix r153.1)) (.d (e_api_Prefix r153.1)) tyS37 (At.here _) (ot 11 (.ptr 1011 0 [])))
                    (oc (lb hN 37 (.d (e_api_Prefix r153.2.1)) (.d (e_api_Prefix r153.2.1)) tyS37 (At.here _) (ot 12 (.ptr 1012 0 [])))
                    (oc (OpJ.buildSlice Try.underlying60 tyS37 tyZD37 (by rfl) (by decide) (by decide) (Opds.cons (ot 78 (.d (e_api_Prefix r153.1))) (Opds.cons (ot 79 (.d (e_api_Prefix r153.2.1))) Opds.nil)) (by kernel_rfl) (es := ([(e_api_Prefix r153.1), (e_api_Prefix r153.2.1)] : List D)) (by rfl) (by rfl) (by kernel_rfl) (by simp) (L rfl))
                    (oc (mv hN (ot 0 (.ptr 0 0 [])))
                    (oc (OpJ.callFn hB fnOk17 (exchangepointmake_Deck_Next_ac m146.2 (2 : Int) r154 hr154) [(0, 0)] (by kernel_rfl) (L rfl) (by kernel_rfl) (OpdL.cons (ot 81 (.ptr 0 0 [])) (OpdL.cons (Opd.int .i64 (2)) OpdL.nil)))
                    (oc (OpJ.indexD (el := (e_api_Prefix x155)) Try.underlying60 tyS37 (idx_some hx155).1 (get_map e_api_Prefix (idx_some hx155).2) (L rfl) (ot 80 (qe_api_Prefix_4 ([r153.1, r153.2.1] : List api_Prefix))) (ot 82 (i6 r154.1)))
                    (oc (OpJ.loadD tyS37 (by rfl) (by rfl) (L rfl) (ot 83 (.dptr (e_api_Prefix x155))))
                    (oc (OpJ.storeB (bt := 37) (c := (.d (e_api_Prefix x142.fPrefix))) (v := (.d (e_api_Prefix x155))) (c' := (.d (e_api_Prefix x155))) tyS37 (SetAt.here _ _) (by rfl) (by rfl) (by simp) rfl (ot 5 (.ptr 1005 0 [])) (ot 84 (.d (e_api_Prefix x155))))
                    (OpJs.nil))))))))) (by kernel_rfl) (by rfl) (by rfl) ?_
                  exact hjj133 _ h _ _ (Mat.trans (mp [] [(0, (.ptr 0 0 [])), (3, (qe_api_Entry_5 s2.1)), (4, (i6 s2.2.1)), (5, (.ptr 1005 0 []))] [(0, some (.box 65 (.d (e_exchangepointmake_Deck r154.2)))), (1005, some (.box 37 (.d (e_api_Prefix x155))))] hB) (mp [] _ _ hB))
                · replace h := ite_f hg151 h
                  refine AWp.skip ?_
                  exact hjj133 _ h _ _ (mp [] _ _ hB)
            · rcases Bool.eq_false_or_eq_true (r143.2.2 == (0 : Int)) with hg156 | hg156
              · replace h := ite_t hg156 h
                obtain ⟨r157, hr157, h⟩ := bindS h
                refine AWp.region (oc (mv hN (ot 8 (i6 r143.2.2)))
                  (oc (OpJ.eqlI (L rfl) (ot 46 (i6 r143.2.2)) (Opd.int .i64 (0)))
                  (oc (OpJ.val (v' := .d (.bool true)) (by rw [hg156]) (mv hN (ot 47 (bo (r143.2.2 == (0 : Int))))))
                  (oc (OpJ.guarded (g := 48) (by rfl) (mv hN (ot 0 (.ptr 0 0 []))))
                  (oc (OpJ.guarded (g := 48) (by rfl) (OpJ.callFn hB fnOk17 (exchangepointmake_Deck_Next_ac r141.2 (2 : Int) r157 hr157) [(0, 0)] (by kernel_rfl) (L rfl) (by kernel_rfl) (OpdL.cons (ot 49 (.ptr 0 0 [])) (OpdL.cons (Opd.int .i64 (2)) OpdL.nil))))
                  (oc (OpJ.guarded (g := 48) (by rfl) (OpJ.eqlI (L rfl) (ot 50 (i6 r157.1)) (Opd.int .i64 (0))))
                  (oc (OpJ.pickT (L rfl) (ot 48 (bo true)) (ot 51 (bo (r157.1 == (0 : Int)))))
                  (OpJs.nil)))))))) (by rfl) (by rfl) ?_
                exact hjj147 _ h _ _ (Mat.trans (mp [] [(0, (.ptr 0 0 [])), (3, (qe_api_Entry_5 s2.1)), (4, (i6 s2.2.1)), (5, (.ptr 1005 0 [])), (6, (.ptr 1006 0 [])), (7, (.ptr 1007 0 [])), (52, (bo (r157.1 == (0 : Int))))] [(0, some (.box 65 (.d (e_exchangepointmake_Deck r157.2)))), (1005, some (.box 37 (.d (e_api_Prefix x142.fPrefix)))), (1006, some (.box 37 (.d (e_api_Prefix r143.1)))), (1007, some (.box 37 (.d (e_api_Prefix r143.2.1))))] hB) (mp [] _ _ hB))
              · replace h := ite_f hg156 h
                refine rg (c (mv hN (q 8)) rfl (c (OpJ.eqlI (L rfl) (q 46) (Opd.int .i64 (0))) rfl (c (OpJ.val (v' := .d (.bool false)) (by rw [hg156]) (mv hN (q 47))) rfl (cg (OpJ.skipU (g := 48) (L rfl) (by rfl)) rfl (cg (OpJ.skipU (g := 48) (L rfl) (by rfl)) rfl (cg (OpJ.skipU (g := 48) (L rfl) (by rfl)) rfl (c (OpJ.pickF (L rfl) (q 48) (Opd.bool false)) rfl cn))))))) ?_
                exact hjj147 _ h _ _ (Mat.trans (mp [] [(0, (.ptr 0 0 [])), (3, (qe_api_Entry_5 s2.1)), (4, (i6 s2.2.1)), (5, (.ptr 1005 0 [])), (6, (.ptr 1006 0 [])), (7, (.ptr 1007 0 [])), (52, (bo false))] [(0, some (.box 65 (.d (e_exchangepointmake_Deck r141.2)))), (1005, some (.box 37 (.d (e_api_Prefix x142.fPrefix)))), (1006, some (.box 37 (.d (e_api_Prefix r143.1)))), (1007, some (.box 37 (.d (e_api_Prefix r143.2.1))))] hB) (mp [] _ _ hB))
          · replace h := ite_f hg140 h
            refine AWp.skip ?_
            exact hjj133 _ h _ _ (mp [] _ _ hB)
      · rcases Bool.eq_false_or_eq_true (decide ((0 : Int) < (s2.1.length : Int))) with hg158 | hg158
        · replace h := ite_t hg158 h
          obtain ⟨r159, hr159, h⟩ := bindS h
          refine AWp.region (oc (mv hN (ot 3 (qe_api_Entry_5 s2.1)))
            (oc (OpJ.val (v' := (i6 (s2.1.length : Int))) (by simp) (OpJ.lenD Try.underlying23 (L rfl) (ot 24 (qe_api_Entry_5 s2.1))))
            (oc (OpJ.gtr (L rfl) (ot 25 (i6 (s2.1.length : Int))) (Opd.int .i64 (0)))
            (oc (OpJ.val (v' := .d (.bool true)) (by rw [hg158]) (mv hN (ot 26 (bo (decide ((0 : Int) < (s2.1.length : Int)))))))
            (oc (OpJ.guarded (g := 27) (by rfl) (mv hN (ot 0 (.ptr 0 0 []))))
            (oc (OpJ.guarded (g := 27) (by rfl) (OpJ.callFn hB fnOk17 (exchangepointmake_Deck_Next_ac r109.2 (2 : Int) r159 hr159) [(0, 0)] (by kernel_rfl) (L rfl) (by kernel_rfl) (OpdL.cons (ot 28 (.ptr 0 0 [])) (OpdL.cons (Opd.int .i64 (2)) OpdL.nil))))
            (oc (OpJ.guarded (g := 27) (by rfl) (OpJ.eqlI (L rfl) (ot 29 (i6 r159.1)) (Opd.int .i64 (0))))
            (oc (OpJ.pickT (L rfl) (ot 27 (bo true)) (ot 30 (bo (r159.1 == (0 : Int)))))
            (OpJs.nil))))))))) (by rfl) (by rfl) ?_
          exact hjj113 _ h _ _ (Mat.trans (mp [] [(0, (.ptr 0 0 [])), (3, (qe_api_Entry_5 s2.1)), (4, (i6 s2.2.1)), (5, (.ptr 1005 0 [])), (31, (bo (r159.1 == (0 : Int))))] [(0, some (.box 65 (.d (e_exchangepointmake_Deck r159.2)))), (1005, some (.box 37 (.d (e_api_Prefix r109.1))))] hB) (mp [] _ _ hB))
        · replace h := ite_f hg158 h
          refine rg (c (mv hN (q 3)) rfl (c (OpJ.val (v' := (i6 (s2.1.length : Int))) (by simp) (OpJ.lenD Try.underlying23 (L rfl) (q 24))) rfl (c (OpJ.gtr (L rfl) (q 25) (Opd.int .i64 (0))) rfl (c (OpJ.val (v' := .d (.bool false)) (by rw [hg158]) (mv hN (q 26))) rfl (cg (OpJ.skipU (g := 27) (L rfl) (by rfl)) rfl (cg (OpJ.skipU (g := 27) (L rfl) (by rfl)) rfl (cg (OpJ.skipU (g := 27) (L rfl) (by rfl)) rfl (c (OpJ.pickF (L rfl) (q 27) (Opd.bool false)) rfl cn)))))))) ?_
          exact hjj113 _ h _ _ (Mat.trans (mp [] [(0, (.ptr 0 0 [])), (3, (qe_api_Entry_5 s2.1)), (4, (i6 s2.2.1)), (5, (.ptr 1005 0 [])), (31, (bo false))] [(0, some (.box 65 (.d (e_exchangepointmake_Deck r109.2)))), (1005, some (.box 37 (.d (e_api_Prefix r109.1))))] hB) (mp [] _ _ hB))
    · replace h := ite_f hg108 h
      refine AWp.exit ?_
      refine seqQ_e ?_
      obtain rfl := Option.some.inj h
      exact ⟨(fun hc => by cases hc), rfl, (mp [] _ _ hB)⟩
  · obtain ⟨rfl, hmat⟩ := hR
    refine blkQ_hit ?_
    refine seqQ_n ?_
    refine AWp.ghost hmat ?_
    refine sr (c (mv hN (q 3)) rfl (c (OpJ.assign (L rfl) (q 96)) rfl cn)) ?_
    refine gh [(2, _)] [(0, some _)] hB rfl rfl (by rfl) ?_
    refine AWp.ret ?_
    obtain rfl := Option.some.inj h
    exact ⟨.inl rfl, _, _, (kp [(2, _)] [(0, some _)] hB rfl rfl (by rfl)), [(qe_api_Entry_5 p107.1)], (Res.tmp (by rfl) (by rfl) Res.nil), rfl, by rfl, by rfl, by rfl⟩

noncomputable def ext67_maps_Clone (a0 : List (api_Prefix × Int)) : Option (List (api_Prefix × Int)) := some a0
theorem ext67_maps_Clone_ac (a0 : List (api_Prefix × Int)) (r : List (api_Prefix × Int)) (h : ext67_maps_Clone a0 = some r) : AC Try.prog 67 [.mref 0] [(0, (.blk (mapQ (mpairs e_api_Prefix (eI .i64) a0))))] (.mref 900000) [(0, some (.blk (mapQ (mpairs e_api_Prefix (eI .i64) a0)))), (900000, some (.blk (mapQ (mpairs e_api_Prefix (eI .i64) r))))] := by
  obtain rfl := Option.some.inj h
  exact AC.mcloneQ mcloneOk67 _

noncomputable def prefix_width (a0 : api_Addr) : Option (Int) :=
  (if a0.fV6 = true then
  some (128 : Int)
  else
  some (32 : Int))
set_option maxHeartbeats 4000000 in
set_option maxRecDepth 100000 in
theorem prefix_width_ac (a0 : api_Addr) (r : Int) (h : prefix_width a0 = some r) : AC Try.prog 76 [(.d (e_api_Addr a0))] [] (.d (.int .i64 r)) [] := by
  refine AC.of_code2 Try.func76 rfl rfl (Nat.le_of_ble_eq_true (by rfl)) fun B hB hN => ?_
  delta prefix_width at h
  refine sr (cg (OpJ.box hB (nm := 1001) (by decide) (by simp) rfl (ltN hN rfl) (q 0)) rfl (c (OpJ.assign (ltN hN rfl) (Opd.int .i64 (0))) rfl cn)) ?_
  refine gh [(1, _)] [(1001, some _)] hB rfl rfl (by rfl) ?_
  refine AWp.seq ?_
  refine sr (c (ov (.ptr 1001 0 [0]) (fp hN Try.underlying33 0 tyS4 _ (q 1))) rfl (c (lb hN 33 _ _ tyS4 (ad _) (q 3)) rfl cn)) ?_
  refine gh [(4, _)] [] hB rfl rfl (by rfl) ?_
  refine AWp.cond rfl (fun hg1 => ?_) (fun hg1 => ?_)
  · replace h := ite_t hg1 h
    refine sr (c (OpJ.assign (ltN hN rfl) (Opd.int .i64 (128))) rfl cn) ?_
    refine gh [(2, _)] [] hB rfl rfl (by rfl) ?_
    refine AWp.ret ?_
    refine seqQ_r ?_
    obtain rfl := Option.some.inj h
    exact ⟨.inl rfl, _, _, (kp [(2, _)] [] hB rfl rfl (by rfl)), [(i6 (128 : Int))], (Res.tmp (by rfl) (by rfl) Res.nil), rfl, by rfl, by rfl, by rfl⟩
  · replace h := ite_f hg1 h
    refine AWp.skip ?_
    refine seqQ_n ?_
    refine sr (c (OpJ.assign (ltN hN rfl) (Opd.int .i64 (32))) rfl cn) ?_
    refine gh [(2, _)] [] hB rfl rfl (by rfl) ?_
    refine AWp.ret ?_
    obtain rfl := Option.some.inj h
    exact ⟨.inl rfl, _, _, (kp [(2, _)] [] hB rfl rfl (by rfl)), [(i6 (32 : Int))], (Res.tmp (by rfl) (by rfl) Res.nil), rfl, by rfl, by rfl, by rfl⟩

noncomputable def prefix_Bit (a0 : api_Addr) (a1 : Int) : Option (Int) :=
  (prefix_width a0).bind fun r1 =>
  (if ((decide (a1 < (0 : Int))) || (decide ((w64 ((w64 (r1 - (1 : Int))) - a1)) < (0 : Int)))) = true then
  some (0 : Int)
  else
  (if (decide ((64 : Int) ≤ (w64 ((w64 (r1 - (1 : Int))) - a1)))) = true then
  some (w64 (bitI .and .u64 (shrI .u64 a0.fHi (IntKind.u64.wrap (w64 ((w64 ((w64 (r1 - (1 : Int))) - a1)) - (64 : Int))))) (1 : Int)))
  else
  some (w64 (bitI .and .u64 (shrI .u64 a0.fLo (IntKind.u64.wrap (w64 ((w64 (r1 - (1 : Int))) - a1)))) (1 : Int)))))
set_option maxHeartbeats 4000000 in
set_option maxRecDepth 100000 in
theorem prefix_Bit_ac (a0 : api_Addr) (a1 : Int) (r : Int) (h : prefix_Bit a0 a1 = some r) : AC Try.prog 68 [(.d (e_api_Addr a0)), (.d (.int .i64 a1))] [] (.d (.int .i64 r)) [] := by
  refine AC.of_code2 Try.func68 rfl rfl (Nat.le_of_ble_eq_true (by rfl)) fun B hB hN => ?_
  have L {d : Nat} (h : Nat.blt d Try.f68.ntmps = true) : d < B.N := ltN hN h
  delta prefix_Bit at h
  refine sr (cg (OpJ.box hB (nm := 1002) (by decide) (by simp) rfl (L rfl) (q 0)) rfl (c (OpJ.assign (L rfl) (Opd.int .i64 (0))) rfl cn)) ?_
  refine gh [(1, _), (2, _)] [(1002, some _)] hB rfl rfl (by rfl) ?_
  obtain ⟨r1, hr1, h⟩ := bindS h
  refine sr (c (lb hN 33 _ _ tyS33 (At.here _) (q 2)) rfl (cg (OpJ.callFn hB fnOk76 (prefix_width_ac a0 r1 hr1) [] (by kernel_rfl) (L rfl) (by kernel_rfl) (OpdL.cons (q 6) OpdL.nil)) rfl (c (sub6 (L rfl) (q 7) (Opd.int .i64 (1))) rfl (c (mv hN (q 1)) rfl (c (sub6 (L rfl) (q 8) (q 9)) rfl (c (OpJ.assign (L rfl) (q 10)) rfl cn)))))) ?_
  refine gh [(1, _), (2, _), (5, _)] [(1002, some _)] hB rfl rfl (by rfl) ?_
  refine AWp.seq ?_
  refine AWp.block ?_
  refine sr (c (mv hN (q 1)) rfl (c (OpJ.lss (L rfl) (q 12) (Opd.int .i64 (0))) rfl (c (mv hN (q 13)) rfl (c (oq hN 14 (mv hN (q 5)) (OptL.keep (by rfl) OptL.nil) (GuardV.plain _)) rfl (c (oq hN 14 (OpJ.lss (L rfl) (q 15) (Opd.int .i64 (0))) (OptL.opt OptL.nil) (GuardV.plain _)) rfl (c (OpJ.pickOr rfl (L rfl) (q 14) (q 16)) rfl (c (OpJ.assign (L rfl) (q 17)) rfl cn))))))) ?_
  refine gh [(2, _), (5, _), (11, _)] [(1002, some _)] hB rfl rfl (by rfl) ?_
  refine AWp.cond rfl (fun hg2 => ?_) (fun hg2 => ?_)
  · replace h := ite_t hg2 h
    refine sr (c (OpJ.assign (L rfl) (Opd.int .i64 (0))) rfl cn) ?_
    refine gh [(4, _)] [] hB rfl rfl (by rfl) ?_
    refine AWp.ret ?_
    refine blkQ_r ?_
    refine seqQ_r ?_
    obtain rfl := Option.some.inj h
    exact ⟨.inl rfl, _, _, (kp [(4, _)] [] hB rfl rfl (by rfl)), [(i6 0)], (Res.tmp (by rfl) (by rfl) Res.nil), rfl, by rfl, by rfl, by rfl⟩
  · replace h := ite_f hg2 h
    refine sr (c (mv hN (q 5)) rfl (c (OpJ.geq (L rfl) (q 19) (Opd.int .i64 (64))) rfl (c (OpJ.assign (L rfl) (q 20)) rfl cn))) ?_
    refine gh [(2, _), (5, _), (18, _)] [(1002, some _)] hB rfl rfl (by rfl) ?_
    refine AWp.cond rfl (fun hg3 => ?_) (fun hg3 => ?_)
    · replace h := ite_t hg3 h
      refine sr (c (ov (.ptr 1002 1 [1]) (fp hN Try.underlying33 1 tyS31 _ (q 2))) rfl (c (lb hN 33 _ _ tyS31 (ad _) (q 21)) rfl (c (mv hN (q 5)) rfl (c (sub6 (L rfl) (q 23) (Opd.int .i64 (64))) rfl (c (OpJ.conv Try.underlying3 Try.underlying76 (L rfl) (q 24)) rfl (c (OpJ.shr (L rfl) (q 22) (q 25) (wrap_nonneg rfl _)) rfl (c (OpJ.bits (.inl rfl) (L rfl) (q 26) (Opd.int .u64 (1))) rfl (c (conv6 Try.underlying31 Try.underlying3 (L rfl) (q 27)) rfl (c (OpJ.assign (L rfl) (q 28)) rfl cn))))))))) ?_
      refine gh [(4, _)] [] hB rfl rfl (by rfl) ?_
      refine AWp.ret ?_
      refine blkQ_r ?_
      refine seqQ_r ?_
      obtain rfl := Option.some.inj h
      exact ⟨.inl rfl, _, _, (kp [(4, _)] [] hB rfl rfl (by rfl)), [(i6 (w64 (bitI .and .u64 (shrI .u64 a0.fHi (IntKind.u64.wrap (w64 ((w64 ((w64 (r1 - (1 : Int))) - a1)) - (64 : Int))))) (1 : Int))))], (Res.tmp (by rfl) (by rfl) Res.nil), rfl, by rfl, by rfl, by rfl⟩
    · replace h := ite_f hg3 h
      refine AWp.skip ?_
      refine blkQ_n ?_
      refine seqQ_n ?_
      refine sr (c (ov (.ptr 1002 2 [2]) (fp hN Try.underlying33 2 tyS31 _ (q 2))) rfl (c (lb hN 33 _ _ tyS31 (ad _) (q 29)) rfl (c (mv hN (q 5)) rfl (c (OpJ.conv Try.underlying3 Try.underlying76 (L rfl) (q 31)) rfl (c (OpJ.shr (L rfl) (q 30) (q 32) (wrap_nonneg rfl _)) rfl (c (OpJ.bits (.inl rfl) (L rfl) (q 33) (Opd.int .u64 (1))) rfl (c (conv6 Try.underlying31 Try.underlying3 (L rfl) (q 34)) rfl (c (OpJ.assign (L rfl) (q 35)) rfl cn)))))))) ?_
      refine gh [(4, _)] [] hB rfl rfl (by rfl) ?_
      refine AWp.ret ?_
      obtain rfl := Option.some.inj h
      exact ⟨.inl rfl, _, _, (kp [(4, _)] [] hB rfl rfl (by rfl)), [(i6 (w64 (bitI .and .u64 (shrI .u64 a0.fLo (IntKind.u64.wrap (w64 ((w64 (r1 - (1 : Int))) - a1)))) (1 : Int))))], (Res.tmp (by rfl) (by rfl) Res.nil), rfl, by rfl, by rfl, by rfl⟩

noncomputable def addr_Valid (a0 : api_Addr) : Option (Bool) :=
  jn (fun m2 : Bool =>
  some m2) (fun j3 =>
  (if a0.fV6 = true then
  j3 true
  else
  j3 ((a0.fHi == (0 : Int)) && (decide (a0.fLo < (4294967296 : Int))))))
set_option maxHeartbeats 4000000 in
set_option maxRecDepth 100000 in
theorem addr_Valid_ac (a0 : api_Addr) (r : Bool) (h : addr_Valid a0 = some r) : AC Try.prog 78 [(.d (e_api_Addr a0))] [] (.d (.bool r)) [] := by
  refine AC.of_code2 Try.func78 rfl rfl (Nat.le_of_ble_eq_true (by rfl)) fun B hB hN => ?_
  have L {d : Nat} (h : Nat.blt d Try.f78.ntmps = true) : d < B.N := ltN hN h
  delta addr_Valid at h
  refine sr (cg (OpJ.box hB (nm := 1001) (by decide) (by simp) rfl (L rfl) (q 0)) rfl (c (OpJ.assign (L rfl) (Opd.bool false)) rfl cn)) ?_
  refine gh [(1, _)] [(1001, some _)] hB rfl rfl (by rfl) ?_
  refine AWp.seq ?_
  refine AWp.cut h (fun m2 : Bool => ([(2, (bo m2))] : EL)) (fun m2 : Bool => ([] : OL)) (fun m2 h E' O' hmat => ?_) (fun j3 hjj3 h => ?_)
  · refine seqQ_n ?_
    refine AWp.ghost hmat ?_
    refine AWp.ret ?_
    obtain rfl := Option.some.inj h
    exact ⟨.inl rfl, _, _, (kp [(2, _)] [] hB rfl rfl (by rfl)), [(bo m2)], (Res.tmp (by rfl) (by rfl) Res.nil), rfl, by rfl, by rfl, by rfl⟩
  · rcases Bool.eq_false_or_eq_true a0.fV6 with hg4 | hg4
    · replace h := ite_t hg4 h
      refine rg (c (ov (.ptr 1001 0 [0]) (fp hN Try.underlying33 0 tyS4 _ (q 1))) rfl (c (lb hN 33 _ _ tyS4 (ad _) (q 3)) rfl (c (OpJ.val (v' := .d (.bool true)) (by rw [hg4]) (mv hN (q 4))) rfl (cg (OpJ.skipU (g := 5) (L rfl) (by rfl)) rfl (cg (OpJ.skipU (g := 5) (L rfl) (by rfl)) rfl (cg (OpJ.skipU (g := 5) (L rfl) (by rfl)) rfl (cg (OpJ.skipU (g := 5) (L rfl) (by rfl)) rfl (cg (OpJ.skipV (g := 9) (L rfl) (by rfl)) rfl (cg (OpJ.skipV (g := 9) (L rfl) (by rfl)) rfl (cg (OpJ.skipV (g := 9) (L rfl) (by rfl)) rfl (cg (OpJ.skipU (g := 5) (L rfl) (by rfl)) rfl (c (OpJ.pickT (L rfl) (q 5) (Opd.bool true)) rfl (c (OpJ.assign (L rfl) (q 14)) rfl cn))))))))))))) ?_
      exact hjj3 _ h _ _ (Mat.trans (mp [] [(2, (bo true))] [] hB) (mp [] _ _ hB))
    · replace h := ite_f hg4 h
      refine rg (c (ov (.ptr 1001 0 [0]) (fp hN Try.underlying33 0 tyS4 _ (q 1))) rfl (c (lb hN 33 _ _ tyS4 (ad _) (q 3)) rfl (c (OpJ.val (v' := .d (.bool false)) (by rw [hg4]) (mv hN (q 4))) rfl (c (OpJ.guarded (g := 5) (by rfl) (ov (.ptr 1001 1 [1]) (fp hN Try.underlying33 1 tyS31 _ (q 1)))) rfl (c (OpJ.guarded (g := 5) (by rfl) (lb hN 33 _ _ tyS31 (ad _) (q 6))) rfl (c (OpJ.guarded (g := 5) (by rfl) (OpJ.eqlI (L rfl) (q 7) (Opd.int .u64 (0)))) rfl (c (OpJ.guarded (g := 5) (by rfl) (mv hN (q 8))) rfl (c (oq hN 9 (ov (.ptr 1001 2 [2]) (fp hN Try.underlying33 2 tyS31 _ (q 1))) (OptL.keep (by rfl) OptL.nil) (GuardV.plain _)) rfl (c (oq hN 9 (lb hN 33 _ _ tyS31 (ad _) (q 10)) (OptL.opt OptL.nil) (GuardV.plain _)) rfl (c (oq hN 9 (OpJ.lss (L rfl) (q 11) (Opd.int .u64 (4294967296))) (OptL.opt OptL.nil) (GuardV.plain _)) rfl (c (OpJ.guarded (g := 5) (by rfl) (OpJ.pickAnd rfl (L rfl) (q 9) (q 12))) rfl (c (OpJ.pickF (L rfl) (q 5) (q 13)) rfl (c (OpJ.assign (L rfl) (q 14)) rfl cn))))))))))))) ?_
      exact hjj3 _ h _ _ (Mat.trans (mp [] [(2, (bo ((a0.fHi == (0 : Int)) && (decide (a0.fLo < (4294967296 : Int))))))] [] hB) (mp [] _ _ hB))

noncomputable def prefix_masks (a0 : Int) : Option (Int × Int) :=
  (if (decide ((64 : Int) < a0)) = true then
  some ((IntKind.u64.wrap ((shlI .u64 (1 : Int) (IntKind.u64.wrap (w64 (a0 - (64 : Int))))) - (1 : Int))), (18446744073709551615 : Int))
  else
  some ((0 : Int), (IntKind.u64.wrap ((shlI .u64 (1 : Int) (IntKind.u64.wrap a0)) - (1 : Int)))))
set_option maxHeartbeats 4000000 in
set_option maxRecDepth 100000 in
theorem prefix_masks_ac (a0 : Int) (r : Int × Int) (h : prefix_masks a0 = some r) : AC Try.prog 99 [(.d (.int .i64 a0))] [] (.tup [(.d (.int .u64 r.1)), (.d (.int .u64 r.2))]) [] := by
  refine AC.of_code2 Try.func99 rfl rfl (Nat.le_of_ble_eq_true (by rfl)) fun B hB hN => ?_
  have L {d : Nat} (h : Nat.blt d Try.f99.ntmps = true) : d < B.N := ltN hN h
  delta prefix_masks at h
  refine sr (c (OpJ.assign (L rfl) (Opd.int .u64 (0))) rfl (c (OpJ.assign (L rfl) (Opd.int .u64 (0))) rfl cn)) ?_
  refine gh [(0, _)] [] hB rfl rfl (by rfl) ?_
  refine AWp.seq ?_
  refine sr (c (mv hN (q 0)) rfl (c (OpJ.gtr (L rfl) (q 4) (Opd.int .i64 (64))) rfl cn)) ?_
  refine gh [(0, _), (5, _)] [] hB rfl rfl (by rfl) ?_
  refine AWp.cond rfl (fun hg1 => ?_) (fun hg1 => ?_)
  · replace h := ite_t hg1 h
    refine sr (c (mv hN (q 0)) rfl (c (sub6 (L rfl) (q 6) (Opd.int .i64 (64))) rfl (c (OpJ.conv Try.underlying3 Try.underlying76 (L rfl) (q 7)) rfl (c (OpJ.shl (L rfl) (Opd.int .u64 (1)) (q 8) (wrap_nonneg rfl _)) rfl (c (OpJ.sub (L rfl) (q 9) (Opd.int .u64 (1))) rfl (c (OpJ.assign (L rfl) (q 10)) rfl (c (OpJ.assign (L rfl) (Opd.int .u64 (18446744073709551615))) rfl cn))))))) ?_
    refine gh [(2, _), (3, _)] [] hB rfl rfl (by rfl) ?_
    refine AWp.ret ?_
    refine seqQ_r ?_
    obtain rfl := Option.some.inj h
    exact ⟨.inl rfl, _, _, (kp [(2, _), (3, _)] [] hB rfl rfl (by rfl)), [(.d (.int .u64 (IntKind.u64.wrap ((shlI .u64 (1 : Int) (IntKind.u64.wrap (w64 (a0 - (64 : Int))))) - (1 : Int))))), (.d (.int .u64 (18446744073709551615 : Int)))], (Res.tmp (by rfl) (by rfl) (Res.tmp (by rfl) (by rfl) Res.nil)), rfl, by rfl, by rfl, by rfl⟩
  · replace h := ite_f hg1 h
    refine AWp.skip ?_
    refine seqQ_n ?_
    refine sr (c (mv hN (q 0)) rfl (c (OpJ.conv Try.underlying3 Try.underlying76 (L rfl) (q 11)) rfl (c (OpJ.shl (L rfl) (Opd.int .u64 (1)) (q 12) (wrap_nonneg rfl _)) rfl (c (OpJ.sub (L rfl) (q 13) (Opd.int .u64 (1))) rfl (c (OpJ.assign (L rfl) (Opd.int .u64 (0))) rfl (c (OpJ.assign (L rfl) (q 14)) rfl cn)))))) ?_
    refine gh [(2, _), (3, _)] [] hB rfl rfl (by rfl) ?_
    refine AWp.ret ?_
    obtain rfl := Option.some.inj h
    exact ⟨.inl rfl, _, _, (kp [(2, _), (3, _)] [] hB rfl rfl (by rfl)), [(.d (.int .u64 0)), (.d (.int .u64 (IntKind.u64.wrap ((shlI .u64 (1 : Int) (IntKind.u64.wrap a0)) - (1 : Int)))))], (Res.tmp (by rfl) (by rfl) (Res.tmp (by rfl) (by rfl) Res.nil)), rfl, by rfl, by rfl, by rfl⟩

noncomputable def prefix_first (a0 : api_Addr) (a1 : Int) : Option (api_Addr) :=
  (prefix_width a0).bind fun r1 =>
  (prefix_masks (w64 (r1 - a1))).bind fun r2 =>
  some (api_Addr.mk a0.fV6 (bitI .andNot .u64 a0.fHi r2.1) (bitI .andNot .u64 a0.fLo r2.2))
set_option maxHeartbeats 4000000 in
set_option maxRecDepth 100000 in
theorem prefix_first_ac (a0 : api_Addr) (a1 : Int) (r : api_Addr) (h : prefix_first a0 a1 = some r) : AC Try.prog 77 [(.d (e_api_Addr a0)), (.d (.int .i64 a1))] [] (.d (e_api_Addr r)) [] := by
  refine AC.of_code2 Try.func77 rfl rfl (Nat.le_of_ble_eq_true (by rfl)) fun B hB hN => ?_
  delta prefix_first at h
  refine sr (cg (OpJ.box hB (nm := 1002) (by decide) (by simp) rfl (ltN hN rfl) (q 0)) rfl (cg (OpJ.alloc hB tyZ33 (nm := 1004) (by decide) (ltN hN rfl)) rfl cn)) ?_
  refine gh [(1, _), (2, _), (4, _)] [(1002, some _), (1004, some _)] hB rfl rfl (by rfl) ?_
  obtain ⟨r1, hr1, h⟩ := bindS h
  obtain ⟨r2, hr2, h⟩ := bindS h
  refine sr (c (lb hN 33 _ _ tyS33 (At.here _) (q 2)) rfl (cg (OpJ.callFn hB fnOk76 (prefix_width_ac a0 r1 hr1) [] (by kernel_rfl) (ltN hN rfl) (by kernel_rfl) (OpdL.cons (q 8) OpdL.nil)) rfl (c (mv hN (q 1)) rfl (c (sub6 (ltN hN rfl) (q 9) (q 10)) rfl (cg (OpJ.callFn hB fnOk99 (prefix_masks_ac (w64 (r1 - a1)) r2 hr2) [] (by kernel_rfl) (ltN hN rfl) (by kernel_rfl) (OpdL.cons (q 11) OpdL.nil)) rfl (c (mv hN (q 12)) rfl (c (OpJ.extract (by rfl) rfl (ltN hN rfl) (q 7)) rfl (c (OpJ.extract (by rfl) rfl (ltN hN rfl) (q 7)) rfl (c (OpJ.assign (ltN hN rfl) (q 13)) rfl (c (OpJ.assign (ltN hN rfl) (q 14)) rfl cn)))))))))) ?_
  refine gh [(2, _), (4, _), (5, _), (6, _)] [(1002, some _), (1004, some _)] hB rfl rfl (by rfl) ?_
  refine sr (c (ov (.ptr 1002 1 [1]) (fp hN Try.underlying33 1 tyS31 _ (q 2))) rfl (c (lb hN 33 _ _ tyS31 (ad _) (q 15)) rfl (c (mv hN (q 5)) rfl (c (OpJ.bits (.inr (.inr (.inr rfl))) (ltN hN rfl) (q 16) (q 17)) rfl (c (ov (.ptr 1002 1 [1]) (fp hN Try.underlying33 1 tyS31 _ (q 2))) rfl (cg (OpJ.storeB tyS31 (SetAt.dst1 (by rfl) (by rfl) (SetAt.here _ _) (by rfl) (by rfl) (by first | rfl | omega)) (by rfl) (by rfl) (by simp) rfl (q 19) (q 18)) rfl cn)))))) ?_
  refine gh [(2, _), (4, _), (6, _)] [(1002, some _), (1004, some _)] hB rfl rfl (by rfl) ?_
  refine sr (c (ov (.ptr 1002 2 [2]) (fp hN Try.underlying33 2 tyS31 _ (q 2))) rfl (c (lb hN 33 _ _ tyS31 (ad _) (q 20)) rfl (c (mv hN (q 6)) rfl (c (OpJ.bits (.inr (.inr (.inr rfl))) (ltN hN rfl) (q 21) (q 22)) rfl (c (ov (.ptr 1002 2 [2]) (fp hN Try.underlying33 2 tyS31 _ (q 2))) rfl (cg (OpJ.storeB tyS31 (SetAt.dst1 (by rfl) (by rfl) (SetAt.here _ _) (by rfl) (by rfl) (by first | rfl | omega)) (by rfl) (by rfl) (by simp) rfl (q 24) (q 23)) rfl cn)))))) ?_
  refine gh [(2, _), (4, _)] [(1002, some _), (1004, some _)] hB rfl rfl (by rfl) ?_
  refine sr (c (lb hN 33 _ _ tyS33 (At.here _) (q 2)) rfl (cg (OpJ.storeB tyS33 (SetAt.here _ _) (by rfl) (by rfl) (by simp) rfl (q 4) (q 25)) rfl cn)) ?_
  refine gh [(4, _)] [(1004, some _)] hB rfl rfl (by rfl) ?_
  refine AWp.ret ?_
  obtain rfl := Option.some.inj h
  exact ⟨.inl rfl, _, _, (kp [(4, _)] [(1004, some _)] hB rfl rfl (by rfl)), [(.d (.st [(.bool a0.fV6), (.int .u64 (bitI .andNot .u64 a0.fHi r2.1)), (.int .u64 (bitI .andNot .u64 a0.fLo r2.2))]))], (Res.cell (c := (.d (.st [(.bool a0.fV6), (.int .u64 (bitI .andNot .u64 a0.fHi r2.1)), (.int .u64 (bitI .andNot .u64 a0.fLo r2.2))]))) (by rfl) (by rfl) tyS33 (by rfl) (by rfl) (by rfl) Res.nil), rfl, by rfl, by rfl, by rfl⟩

noncomputable def prefix_Make (a0 : api_Addr) (a1 : Int) : Option (api_Prefix × Int) :=
  (addr_Valid a0).bind fun r1 =>
  (if (!r1) = true then
  some ((api_Prefix.mk (api_Addr.mk false (0 : Int) (0 : Int)) (0 : Int)), (1 : Int))
  else
  jn (fun m5 : Bool =>
  (if m5 = true then
  some ((api_Prefix.mk (api_Addr.mk false (0 : Int) (0 : Int)) (0 : Int)), (9 : Int))
  else
  (prefix_first a0 a1).bind fun r8 =>
  some ((api_Prefix.mk r8 a1), (0 : Int)))) (fun j6 =>
  (if (decide (a1 < (0 : Int))) = true then
  j6 true
  else
  (prefix_width a0).bind fun r10 =>
  j6 (decide (r10 < a1)))))
set_option maxHeartbeats 4000000 in
set_option maxRecDepth 100000 in
theorem prefix_Make_ac (a0 : api_Addr) (a1 : Int) (r : api_Prefix × Int) (h : prefix_Make a0 a1 = some r) : AC Try.prog 69 [(.d (e_api_Addr a0)), (.d (.int .i64 a1))] [] (.tup [(.d (e_api_Prefix r.1)), (.d (.int .i64 r.2))]) [] := by
  refine AC.of_code2 Try.func69 rfl rfl (Nat.le_of_ble_eq_true (by rfl)) fun B hB hN => ?_
  have L {d : Nat} (h : Nat.blt d Try.f69.ntmps = true) : d < B.N := ltN hN h
  delta prefix_Make at h
  refine sr (cg (OpJ.box hB (nm := 1002) (by decide) (by simp) rfl (L rfl) (q 0)) rfl (cg (OpJ.alloc hB tyZ37 (nm := 1004) (by decide) (L rfl)) rfl (c (OpJ.assign (L rfl) (Opd.int .i64 (0))) rfl cn))) ?_
  refine gh [(1, _), (2, _), (4, _)] [(1002, some _), (1004, some _)] hB rfl rfl (by rfl) ?_
  refine AWp.seq ?_
  refine AWp.block ?_
  obtain ⟨r1, hr1, h⟩ := bindS h
  refine sr (c (lb hN 33 _ _ tyS33 (At.here _) (q 2)) rfl (cg (OpJ.callFn hB fnOk78 (addr_Valid_ac a0 r1 hr1) [] (by kernel_rfl) (L rfl) (by kernel_rfl) (OpdL.cons (q 7) OpdL.nil)) rfl (c (OpJ.not (L rfl) (q 8)) rfl (c (OpJ.assign (L rfl) (q 9)) rfl cn)))) ?_
  refine gh [(1, _), (2, _), (4, _), (6, _)] [(1002, some _), (1004, some _)] hB rfl rfl (by rfl) ?_
  refine AWp.cond rfl (fun hg2 => ?_) (fun hg2 => ?_)
  · replace h := ite_t hg2 h
    refine sr (c (OpJ.coe (v := (.st [(.d (.st [(.bool false), (.int .u64 0), (.int .u64 0)])), (i6 0)])) (y := (.st [(.st [(.bool false), (.int .u64 0), (.int .u64 0)]), (.int .i64 0)])) (Co.st (CoL.cons (Co.d _) (CoL.cons (Co.d _) CoL.nil))) rfl (OpJ.build (places := [(0, 3), (3, 1)]) ⟨Try.underlying37, fun w => by kernel_rfl⟩ tyZS37 Opds.nil (by kernel_rfl) (r := (.st [(.d (.st [(.bool false), (.int .u64 0), (.int .u64 0)])), (i6 0)])) (by rfl) (L rfl))) rfl (cg (OpJ.storeB tyS37 (SetAt.here _ _) (by rfl) (by rfl) (by simp) rfl (q 4) (q 10)) rfl (c (OpJ.assign (L rfl) (Opd.int .i64 (1))) rfl cn))) ?_
    refine gh [(4, _), (5, _)] [(1004, some _)] hB rfl rfl (by rfl) ?_
    refine AWp.ret ?_
    refine blkQ_r ?_
    refine seqQ_r ?_
    obtain rfl := Option.some.inj h
    exact ⟨.inl rfl, _, _, (kp [(4, _), (5, _)] [(1004, some _)] hB rfl rfl (by rfl)), [(.d (.st [(.st [(.bool false), (.int .u64 0), (.int .u64 0)]), (.int .i64 0)])), (i6 1)], (Res.cell (c := (.d (.st [(.st [(.bool false), (.int .u64 0), (.int .u64 0)]), (.int .i64 0)]))) (by rfl) (by rfl) tyS37 (by rfl) (by rfl) (by rfl) (Res.tmp (by rfl) (by rfl) Res.nil)), rfl, by rfl, by rfl, by rfl⟩
  · replace h := ite_f hg2 h
    refine AWp.seq ?_
    refine AWp.cut h (fun m5 : Bool => ([(1, (i6 a1)), (2, (.ptr 1002 0 [])), (4, (.ptr 1004 0 [])), (11, (bo m5))] : EL)) (fun m5 : Bool => ([(1002, some (.box 33 (.d (e_api_Addr a0)))), (1004, some (.box 37 (.d (.st [(.st [(.bool false), (.int .u64 0), (.int .u64 0)]), (.int .i64 0)]))))] : OL)) (fun m5 h E' O' hmat => ?_) (fun j6 hjj6 h => ?_)
    · refine seqQ_n ?_
      refine AWp.ghost hmat ?_
      refine AWp.cond rfl (fun hg7 => ?_) (fun hg7 => ?_)
      · replace h := ite_t hg7 h
        refine sr (c (OpJ.coe (v := (.st [(.d (.st [(.bool false), (.int .u64 0), (.int .u64 0)])), (i6 0)])) (y := (.st [(.st [(.bool false), (.int .u64 0), (.int .u64 0)]), (.int .i64 0)])) (Co.st (CoL.cons (Co.d _) (CoL.cons (Co.d _) CoL.nil))) rfl (OpJ.build (places := [(0, 3), (3, 1)]) ⟨Try.underlying37, fun w => by kernel_rfl⟩ tyZS37 Opds.nil (by kernel_rfl) (r := (.st [(.d (.st [(.bool false), (.int .u64 0), (.int .u64 0)])), (i6 0)])) (by rfl) (L rfl))) rfl (cg (OpJ.storeB tyS37 (SetAt.here _ _) (by rfl) (by rfl) (by simp) rfl (q 4) (q 20)) rfl (c (OpJ.assign (L rfl) (Opd.int .i64 (9))) rfl cn))) ?_
        refine gh [(4, _), (5, _)] [(1004, some _)] hB rfl rfl (by rfl) ?_
        refine AWp.ret ?_
        refine blkQ_r ?_
        refine seqQ_r ?_
        obtain rfl := Option.some.inj h
        exact ⟨.inl rfl, _, _, (kp [(4, _), (5, _)] [(1004, some _)] hB rfl rfl (by rfl)), [(.d (.st [(.st [(.bool false), (.int .u64 0), (.int .u64 0)]), (.int .i64 0)])), (i6 (9 : Int))], (Res.cell (c := (.d (.st [(.st [(.bool false), (.int .u64 0), (.int .u64 0)]), (.int .i64 0)]))) (by rfl) (by rfl) tyS37 (by rfl) (by rfl) (by rfl) (Res.tmp (by rfl) (by rfl) Res.nil)), rfl, by rfl, by rfl, by rfl⟩
      · replace h := ite_f hg7 h
        refine AWp.skip ?_
        refine blkQ_n ?_
        refine seqQ_n ?_
        obtain ⟨r8, hr8, h⟩ := bindS h
        refine sr (c (lb hN 33 _ _ tyS33 (At.here _) (q 2)) rfl (c (mv hN (q 1)) rfl (cg (OpJ.callFn hB fnOk77 (prefix_first_ac a0 a1 r8 hr8) [] (by kernel_rfl) (L rfl) (by kernel_rfl) (OpdL.cons (q 21) (OpdL.cons (q 22) OpdL.nil))) rfl (c (mv hN (q 1)) rfl (c (OpJ.coe (v := (.st [(.d (e_api_Addr r8)), (i6 a1)])) (y := (.st [(e_api_Addr r8), (.int .i64 a1)])) (Co.st (CoL.cons (Co.d _) (CoL.cons (Co.d _) CoL.nil))) rfl (OpJ.build (places := [(0, 3), (3, 1)]) ⟨Try.underlying37, fun w => by kernel_rfl⟩ tyZS37 (Opds.cons (q 23) (Opds.cons (q 24) Opds.nil)) (by kernel_rfl) (r := (.st [(.d (e_api_Addr r8)), (i6 a1)])) (by rfl) (L rfl))) rfl (cg (OpJ.storeB tyS37 (SetAt.here _ _) (by rfl) (by rfl) (by simp) rfl (q 4) (q 25)) rfl (c (OpJ.assign (L rfl) (Opd.int .i64 (0))) rfl cn))))))) ?_
        refine gh [(4, _), (5, _)] [(1004, some _)] hB rfl rfl (by rfl) ?_
        refine AWp.ret ?_
        obtain rfl := Option.some.inj h
        exact ⟨.inl rfl, _, _, (kp [(4, _), (5, _)] [(1004, some _)] hB rfl rfl (by rfl)), [(.d (.st [(e_api_Addr r8), (.int .i64 a1)])), (i6 0)], (Res.cell (c := (.d (.st [(e_api_Addr r8), (.int .i64 a1)]))) (by rfl) (by rfl) tyS37 (by rfl) (by rfl) (by rfl) (Res.tmp (by rfl) (by rfl) Res.nil)), rfl, by rfl, by rfl, by rfl⟩
    · rcases Bool.eq_false_or_eq_true (decide (a1 < (0 : Int))) with hg9 | hg9
      · replace h := ite_t hg9 h
        refine rg (c (mv hN (q 1)) rfl (c (OpJ.lss (L rfl) (q 12) (Opd.int .i64 (0))) rfl (c (OpJ.val (v' := .d (.bool true)) (by rw [hg9]) (mv hN (q 13))) rfl (cg (OpJ.skipU (g := 14) (L rfl) (by rfl)) rfl (cg (OpJ.skipU (g := 14) (L rfl) (by rfl)) rfl (cg (OpJ.skipU (g := 14) (L rfl) (by rfl)) rfl (cg (OpJ.skipU (g := 14) (L rfl) (by rfl)) rfl (c (OpJ.pickT (L rfl) (q 14) (Opd.bool true)) rfl (c (OpJ.assign (L rfl) (q 19)) rfl cn))))))))) ?_
        exact hjj6 _ h _ _ (Mat.trans (mp [] [(1, (i6 a1)), (2, (.ptr 1002 0 [])), (4, (.ptr 1004 0 [])), (11, (bo true))] [(1002, some (.box 33 (.d (e_api_Addr a0)))), (1004, some (.box 37 (.d (.st [(.st [(.bool false), (.int .u64 0), (.int .u64 0)]), (.int .i64 0)]))))] hB) (mp [] _ _ hB))
      · replace h := ite_f hg9 h
        obtain ⟨r10, hr10, h⟩ := bindS h
        refine rg (c (mv hN (q 1)) rfl (c (OpJ.lss (L rfl) (q 12) (Opd.int .i64 (0))) rfl (c (OpJ.val (v' := .d (.bool false)) (by rw [hg9]) (mv hN (q 13))) rfl (c (OpJ.guarded (g := 14) (by rfl) (mv hN (q 1))) rfl (c (OpJ.guarded (g := 14) (by rfl) (lb hN 33 _ _ tyS33 (At.here _) (q 2))) rfl (cg (OpJ.guarded (g := 14) (by rfl) (OpJ.callFn hB fnOk76 (prefix_width_ac a0 r10 hr10) [] (by kernel_rfl) (L rfl) (by kernel_rfl) (OpdL.cons (q 16) OpdL.nil))) rfl (c (OpJ.guarded (g := 14) (by rfl) (OpJ.gtr (L rfl) (q 15) (q 17))) rfl (c (OpJ.pickF (L rfl) (q 14) (q 18)) rfl (c (OpJ.assign (L rfl) (q 19)) rfl cn))))))))) ?_
        exact hjj6 _ h _ _ (Mat.trans (mp [] [(1, (i6 a1)), (2, (.ptr 1002 0 [])), (4, (.ptr 1004 0 [])), (11, (bo (decide (r10 < a1))))] [(1002, some (.box 33 (.d (e_api_Addr a0)))), (1004, some (.box 37 (.d (.st [(.st [(.bool false), (.int .u64 0), (.int .u64 0)]), (.int .i64 0)]))))] hB) (mp [] _ _ hB))


end Go.Proofs.Ytbkhigkknhlmhaa
