/- Printed by gen.py: the Go functions as plain functions, and that the code does what they say. -/
import Derived.Test.YtimcphncaffenaaChecked
import Derived.Test.YtimcphncaffenaaVcYB
import Derived.Test.YtimcphncaffenaaVcZ
import Derived.KernelRfl
import Derived.Test.YtimcphncaffenaaExt
import Derived.Test.YtimcphncaffenaaVcV
import Derived.Test.YtimcphncaffenaaVcQ
namespace Go.Proofs.Ytimcphncaffenaa
open Go Go.Vc
def e_A6eIu8 (x : (List Int)) : D := (.arr 6 1 (x.map (eI .u8)))

def e_LeA6eIu8 (x : (List (List Int))) : D := (.list 6 (x.map e_A6eIu8))

structure api_Addr where
  fV6 : Bool
  fHi : Int
  fLo : Int
def e_api_Addr (x : api_Addr) : D := .st [(.bool x.fV6), (.int .u64 x.fHi), (.int .u64 x.fLo)]

structure api_Port where
  fID : Int
  fSwitch : Int
  fSpeed : Int
  fMACs : (List (List Int))
  fV4 : api_Addr
  fV6 : api_Addr
def e_api_Port (x : api_Port) : D := .st [(.int .i64 x.fID), (.int .i64 x.fSwitch), (.int .i64 x.fSpeed), (.list 6 (x.fMACs.map e_A6eIu8)), (e_api_Addr x.fV4), (e_api_Addr x.fV6)]

def e_LeapiPort (x : (List api_Port)) : D := (.list 10 (x.map e_api_Port))

structure api_Member where
  fASN : Int
  fName : (List UInt8)
  fSet : (List UInt8)
  fMax4 : Int
  fMax6 : Int
  fPorts : (List api_Port)
def e_api_Member (x : api_Member) : D := .st [(.int .i64 x.fASN), (.str x.fName), (.str x.fSet), (.int .i64 x.fMax4), (.int .i64 x.fMax6), (.list 10 (x.fPorts.map e_api_Port))]

def e_LeIi64 (x : (List Int)) : D := (.list 1 (x.map (eI .i64)))

structure api_Series where
  fPort : Int
  fSeconds : Int
  fIn : (List Int)
  fOut : (List Int)
def e_api_Series (x : api_Series) : D := .st [(.int .i64 x.fPort), (.int .i64 x.fSeconds), (.list 1 (x.fIn.map (eI .i64))), (.list 1 (x.fOut.map (eI .i64)))]

structure api_Tariff where
  fBase : Int
  fIncluded : Int
  fRate : Int
def e_api_Tariff (x : api_Tariff) : D := .st [(.int .i64 x.fBase), (.int .i64 x.fIncluded), (.int .i64 x.fRate)]

structure api_Line where
  fPort : Int
  fUsed : Int
  fAmount : Int
def e_api_Line (x : api_Line) : D := .st [(.int .i64 x.fPort), (.int .i64 x.fUsed), (.int .i64 x.fAmount)]

def e_LeapiLine (x : (List api_Line)) : D := (.list 3 (x.map e_api_Line))

structure api_Invoice where
  fMember : Int
  fMonth : Int
  fVersion : Int
  fLines : (List api_Line)
  fTotal : Int
def e_api_Invoice (x : api_Invoice) : D := .st [(.int .i64 x.fMember), (.int .i64 x.fMonth), (.int .i64 x.fVersion), (.list 3 (x.fLines.map e_api_Line)), (.int .i64 x.fTotal)]

structure invoice_sums where
  flines : (List api_Line)
def e_invoice_sums (x : invoice_sums) : D := .st [(.list 3 (x.flines.map e_api_Line))]

structure exchangepointmill_Deck where
  fL : (List Int)
  fAt : Int
def e_exchangepointmill_Deck (x : exchangepointmill_Deck) : D := .st [(.list 1 (x.fL.map (eI .i64))), (.int .i64 x.fAt)]

def e_LeapiSeries (x : (List api_Series)) : D := (.list 4 (x.map e_api_Series))

def e_LeapiInvoice (x : (List api_Invoice)) : D := (.list 5 (x.map e_api_Invoice))

@[reducible] noncomputable def wI_3_1 (x : List Int) : Ob := .row 3 1 (x.map (eI .i64))
@[reducible] noncomputable def qI_1 (x : List Int) : V := .d (.list 1 (x.map (eI .i64)))
@[reducible] noncomputable def qe_api_Port_10 (x : List api_Port) : V := .d (.list 10 (x.map e_api_Port))
@[reducible] noncomputable def qe_api_Series_4 (x : List api_Series) : V := .d (.list 4 (x.map e_api_Series))
@[reducible] noncomputable def we_api_Line_51_3 (x : List api_Line) : Ob := .row 51 3 (x.map e_api_Line)
@[reducible] noncomputable def qe_api_Line_3 (x : List api_Line) : V := .d (.list 3 (x.map e_api_Line))
@[reducible] noncomputable def we_api_Port_68_10 (x : List api_Port) : Ob := .row 68 10 (x.map e_api_Port)
@[reducible] noncomputable def we_api_Series_31_4 (x : List api_Series) : Ob := .row 31 4 (x.map e_api_Series)
@[reducible] noncomputable def qe_api_Invoice_5 (x : List api_Invoice) : V := .d (.list 5 (x.map e_api_Invoice))
@[reducible] noncomputable def we_api_Invoice_45_5 (x : List api_Invoice) : Ob := .row 45 5 (x.map e_api_Invoice)
theorem tyS22 : TyS Try.prog 22 1 false := ⟨by kernel_rfl, by kernel_rfl⟩

theorem tyZS27 : TyZ Try.prog 27 (.st [(.d (.int .i64 (0 : Int))), (.d (.int .i64 (0 : Int))), (.d (.int .i64 (0 : Int)))]) := ⟨by kernel_rfl, fun w => by kernel_rfl⟩

theorem tyZ27 : TyZ Try.prog 27 (.d (.st [(.int .i64 (0 : Int)), (.int .i64 (0 : Int)), (.int .i64 (0 : Int))])) := ⟨by kernel_rfl, fun w => by kernel_rfl⟩

theorem tyS27 : TyS Try.prog 27 3 true := ⟨by kernel_rfl, by kernel_rfl⟩

theorem tyS3 : TyS Try.prog 3 1 false := ⟨by kernel_rfl, by kernel_rfl⟩

theorem fnOk44 : FnOk Try.prog 44 := ⟨by kernel_rfl⟩

theorem fnOk26 : FnOk Try.prog 26 := ⟨by kernel_rfl⟩

theorem fnOk11 : FnOk Try.prog 11 := ⟨by kernel_rfl⟩

theorem tyZS68 : TyZ Try.prog 68 (.st [(.d (.int .i64 (0 : Int))), (.d (.int .i64 (0 : Int))), (.d (.int .i64 (0 : Int))), .nils, (.d (.st [(.bool false), (.int .u64 (0 : Int)), (.int .u64 (0 : Int))])), (.d (.st [(.bool false), (.int .u64 (0 : Int)), (.int .u64 (0 : Int))]))]) := ⟨by kernel_rfl, fun w => by kernel_rfl⟩

theorem tyS68 : TyS Try.prog 68 10 true := ⟨by kernel_rfl, by kernel_rfl⟩

theorem tyZD68 : TyZ Try.prog 68 (.d (.st [(.int .i64 (0 : Int)), (.int .i64 (0 : Int)), (.int .i64 (0 : Int)), (.list 6 (([] : List (List Int)).map e_A6eIu8)), (.st [(.bool false), (.int .u64 (0 : Int)), (.int .u64 (0 : Int))]), (.st [(.bool false), (.int .u64 (0 : Int)), (.int .u64 (0 : Int))])])) := ⟨by kernel_rfl, fun w => by kernel_rfl⟩

theorem tyZS24 : TyZ Try.prog 24 (.st [(.d (.int .i64 (0 : Int))), (.d (.str ([] : List UInt8))), (.d (.str ([] : List UInt8))), (.d (.int .i64 (0 : Int))), (.d (.int .i64 (0 : Int))), .nils]) := ⟨by kernel_rfl, fun w => by kernel_rfl⟩

theorem tyZD3 : TyZ Try.prog 3 (.d (.int .i64 (0 : Int))) := ⟨by kernel_rfl, fun w => by kernel_rfl⟩

theorem tyZS31 : TyZ Try.prog 31 (.st [(.d (.int .i64 (0 : Int))), (.d (.int .i64 (0 : Int))), .nils, .nils]) := ⟨by kernel_rfl, fun w => by kernel_rfl⟩

theorem tyS31 : TyS Try.prog 31 4 true := ⟨by kernel_rfl, by kernel_rfl⟩

theorem tyZD31 : TyZ Try.prog 31 (.d (.st [(.int .i64 (0 : Int)), (.int .i64 (0 : Int)), (.list 1 (([] : List Int).map (eI .i64))), (.list 1 (([] : List Int).map (eI .i64)))])) := ⟨by kernel_rfl, fun w => by kernel_rfl⟩

theorem tyZ45 : TyZ Try.prog 45 (.st [(.d (.int .i64 (0 : Int))), (.d (.int .i64 (0 : Int))), (.d (.int .i64 (0 : Int))), .nils, (.d (.int .i64 (0 : Int)))]) := ⟨by kernel_rfl, fun w => by kernel_rfl⟩

theorem tyS24 : TyS Try.prog 24 6 true := ⟨by kernel_rfl, by kernel_rfl⟩

theorem tyZ68 : TyZ Try.prog 68 (.st [(.d (.int .i64 (0 : Int))), (.d (.int .i64 (0 : Int))), (.d (.int .i64 (0 : Int))), .nils, (.d (.st [(.bool false), (.int .u64 (0 : Int)), (.int .u64 (0 : Int))])), (.d (.st [(.bool false), (.int .u64 (0 : Int)), (.int .u64 (0 : Int))]))]) := ⟨by kernel_rfl, fun w => by kernel_rfl⟩

theorem tyE3 : TyE Try.prog 3 1 8 := ⟨by kernel_rfl, by decide⟩

theorem fnOk45 : FnOk Try.prog 45 := ⟨by kernel_rfl⟩

theorem fnOk47 : FnOk Try.prog 47 := ⟨by kernel_rfl⟩

theorem fnOk46 : FnOk Try.prog 46 := ⟨by kernel_rfl⟩

theorem fnOk28 : FnOk Try.prog 28 := ⟨by kernel_rfl⟩

theorem fnOk29 : FnOk Try.prog 29 := ⟨by kernel_rfl⟩

theorem fnOk30 : FnOk Try.prog 30 := ⟨by kernel_rfl⟩

theorem tyZS45 : TyZ Try.prog 45 (.st [(.d (.int .i64 (0 : Int))), (.d (.int .i64 (0 : Int))), (.d (.int .i64 (0 : Int))), .nils, (.d (.int .i64 (0 : Int)))]) := ⟨by kernel_rfl, fun w => by kernel_rfl⟩

theorem tyS45 : TyS Try.prog 45 5 true := ⟨by kernel_rfl, by kernel_rfl⟩

theorem tyZ78 : TyZ Try.prog 78 (.st [.nils]) := ⟨by kernel_rfl, fun w => by kernel_rfl⟩

theorem tyZ3 : TyZ Try.prog 3 (.d (.int .i64 (0 : Int))) := ⟨by kernel_rfl, fun w => by kernel_rfl⟩

theorem fnOk32 : FnOk Try.prog 32 := ⟨by kernel_rfl⟩

theorem fnOk31 : FnOk Try.prog 31 := ⟨by kernel_rfl⟩

theorem fnOk60 : FnOk Try.prog 60 := ⟨by kernel_rfl⟩

theorem tyS28 : TyS Try.prog 28 1 false := ⟨by kernel_rfl, by kernel_rfl⟩

theorem fnOk61 : FnOk Try.prog 61 := ⟨by kernel_rfl⟩

theorem fnOk48 : FnOk Try.prog 48 := ⟨by kernel_rfl⟩

theorem tyZD28 : TyZ Try.prog 28 (.d (.list 1 (([] : List Int).map (eI .i64)))) := ⟨by kernel_rfl, fun w => by kernel_rfl⟩

theorem fnOk62 : FnOk Try.prog 62 := ⟨by kernel_rfl⟩

theorem fnOk49 : FnOk Try.prog 49 := ⟨by kernel_rfl⟩

theorem fnOk63 : FnOk Try.prog 63 := ⟨by kernel_rfl⟩

theorem fnOk50 : FnOk Try.prog 50 := ⟨by kernel_rfl⟩

theorem fnOk33 : FnOk Try.prog 33 := ⟨by kernel_rfl⟩

theorem tyZS51 : TyZ Try.prog 51 (.st [(.d (.int .i64 (0 : Int))), (.d (.int .i64 (0 : Int))), (.d (.int .i64 (0 : Int)))]) := ⟨by kernel_rfl, fun w => by kernel_rfl⟩

theorem tyS43 : TyS Try.prog 43 1 false := ⟨by kernel_rfl, by kernel_rfl⟩

theorem tyS51 : TyS Try.prog 51 3 true := ⟨by kernel_rfl, by kernel_rfl⟩

theorem fnOk52 : FnOk Try.prog 52 := ⟨by kernel_rfl⟩

theorem fnOk51 : FnOk Try.prog 51 := ⟨by kernel_rfl⟩

theorem tyZD51 : TyZ Try.prog 51 (.d (.st [(.int .i64 (0 : Int)), (.int .i64 (0 : Int)), (.int .i64 (0 : Int))])) := ⟨by kernel_rfl, fun w => by kernel_rfl⟩

theorem tyE51 : TyE Try.prog 51 3 24 := ⟨by kernel_rfl, by decide⟩

theorem fnOk53 : FnOk Try.prog 53 := ⟨by kernel_rfl⟩

theorem fnOk34 : FnOk Try.prog 34 := ⟨by kernel_rfl⟩

theorem tyZ51 : TyZ Try.prog 51 (.d (.st [(.int .i64 (0 : Int)), (.int .i64 (0 : Int)), (.int .i64 (0 : Int))])) := ⟨by kernel_rfl, fun w => by kernel_rfl⟩

theorem fnOk35 : FnOk Try.prog 35 := ⟨by kernel_rfl⟩

theorem fnOk13 : FnOk Try.prog 13 := ⟨by kernel_rfl⟩

theorem fnOk7 : FnOk Try.prog 7 := ⟨by kernel_rfl⟩

theorem tyZ31 : TyZ Try.prog 31 (.st [(.d (.int .i64 (0 : Int))), (.d (.int .i64 (0 : Int))), .nils, .nils]) := ⟨by kernel_rfl, fun w => by kernel_rfl⟩

theorem tyZS72 : TyZ Try.prog 72 (.st [.nils, (.d (.int .i64 (0 : Int)))]) := ⟨by kernel_rfl, fun w => by kernel_rfl⟩

theorem fnOk9 : FnOk Try.prog 9 := ⟨by kernel_rfl⟩

theorem tyZ24 : TyZ Try.prog 24 (.st [(.d (.int .i64 (0 : Int))), (.d (.str ([] : List UInt8))), (.d (.str ([] : List UInt8))), (.d (.int .i64 (0 : Int))), (.d (.int .i64 (0 : Int))), .nils]) := ⟨by kernel_rfl, fun w => by kernel_rfl⟩

theorem fnOk10 : FnOk Try.prog 10 := ⟨by kernel_rfl⟩

theorem fnOk17 : FnOk Try.prog 17 := ⟨by kernel_rfl⟩

theorem tyE68 : TyE Try.prog 68 10 96 := ⟨by kernel_rfl, by decide⟩

theorem fnOk22 : FnOk Try.prog 22 := ⟨by kernel_rfl⟩

theorem fnOk24 : FnOk Try.prog 24 := ⟨by kernel_rfl⟩

theorem fnOk25 : FnOk Try.prog 25 := ⟨by kernel_rfl⟩

theorem tyE31 : TyE Try.prog 31 4 64 := ⟨by kernel_rfl, by decide⟩

theorem fnOk8 : FnOk Try.prog 8 := ⟨by kernel_rfl⟩

theorem fnOk27 : FnOk Try.prog 27 := ⟨by kernel_rfl⟩

theorem fnOk12 : FnOk Try.prog 12 := ⟨by kernel_rfl⟩

theorem fnOk36 : FnOk Try.prog 36 := ⟨by kernel_rfl⟩

theorem fnOk38 : FnOk Try.prog 38 := ⟨by kernel_rfl⟩

theorem fnOk66 : FnOk Try.prog 66 := ⟨by kernel_rfl⟩

theorem fnOk54 : FnOk Try.prog 54 := ⟨by kernel_rfl⟩

theorem fnOk55 : FnOk Try.prog 55 := ⟨by kernel_rfl⟩

theorem fnOk37 : FnOk Try.prog 37 := ⟨by kernel_rfl⟩

theorem fnOk14 : FnOk Try.prog 14 := ⟨by kernel_rfl⟩

theorem held51 : Program.stoodInHeld Try.prog 51 = false := by kernel_rfl

theorem eqg51 : Program.eqGuardType Try.prog (Program.depth Try.prog) 51 = false := by kernel_rfl

theorem fnOk39 : FnOk Try.prog 39 := ⟨by kernel_rfl⟩

theorem fnOk16 : FnOk Try.prog 16 := ⟨by kernel_rfl⟩

theorem tyZD45 : TyZ Try.prog 45 (.d (.st [(.int .i64 (0 : Int)), (.int .i64 (0 : Int)), (.int .i64 (0 : Int)), (.list 3 (([] : List api_Line).map e_api_Line)), (.int .i64 (0 : Int))])) := ⟨by kernel_rfl, fun w => by kernel_rfl⟩

theorem fnOk23 : FnOk Try.prog 23 := ⟨by kernel_rfl⟩

theorem fnOk40 : FnOk Try.prog 40 := ⟨by kernel_rfl⟩

theorem fnOk20 : FnOk Try.prog 20 := ⟨by kernel_rfl⟩

theorem fnOk56 : FnOk Try.prog 56 := ⟨by kernel_rfl⟩

theorem fnOk41 : FnOk Try.prog 41 := ⟨by kernel_rfl⟩

theorem fnOk19 : FnOk Try.prog 19 := ⟨by kernel_rfl⟩

theorem fnOk43 : FnOk Try.prog 43 := ⟨by kernel_rfl⟩

theorem fnOk57 : FnOk Try.prog 57 := ⟨by kernel_rfl⟩

theorem fnOk42 : FnOk Try.prog 42 := ⟨by kernel_rfl⟩

theorem fnOk21 : FnOk Try.prog 21 := ⟨by kernel_rfl⟩

theorem tyE45 : TyE Try.prog 45 5 56 := ⟨by kernel_rfl, by decide⟩

noncomputable def invoice_tariff_1 (a0 : Int) (a1 : Int) : Option (Bool) :=
  some ((decide ((0 : Int) ≤ a0)) && (decide (a0 ≤ a1)))
set_option maxHeartbeats 4000000 in
set_option maxRecDepth 100000 in
theorem invoice_tariff_1_ac (a0 : Int) (a1 : Int) (r : Bool) (h : invoice_tariff_1 a0 a1 = some r) : AC Try.prog 44 [(.d (.int .i64 a0)), (.d (.int .i64 a1))] [] (.d (.bool r)) [] := by
  refine AC.of_code2 Try.func44 rfl rfl (Nat.le_of_ble_eq_true (by rfl)) fun B hB hN => ?_
  delta invoice_tariff_1 at h
  refine sr (c (OpJ.assign (ltN hN rfl) (Opd.bool false)) rfl cn) ?_
  refine gh [(0, _), (1, _)] [] hB rfl rfl (by rfl) ?_
  refine sr (c (mv hN (q 0)) rfl (c (OpJ.geq (ltN hN rfl) (q 5) (Opd.int .i64 (0))) rfl (c (mv hN (q 6)) rfl (c (oq hN 7 (mv hN (q 0)) (OptL.keep (by rfl) OptL.nil) (GuardV.plain _)) rfl (c (oq hN 7 (mv hN (q 1)) (OptL.keep (by rfl) OptL.nil) (GuardV.plain _)) rfl (c (oq hN 7 (OpJ.leq (ltN hN rfl) (q 8) (q 9)) (OptL.opt (OptL.opt OptL.nil)) (GuardV.plain _)) rfl (c (OpJ.pickAnd rfl (ltN hN rfl) (q 7) (q 10)) rfl (c (OpJ.assign (ltN hN rfl) (q 11)) rfl cn)))))))) ?_
  refine gh [(4, _)] [] hB rfl rfl (by rfl) ?_
  refine AWp.ret ?_
  obtain rfl := Option.some.inj h
  exact ⟨.inl rfl, _, _, (kp [(4, _)] [] hB rfl rfl (by rfl)), [(bo ((decide ((0 : Int) ≤ a0)) && (decide (a0 ≤ a1))))], (Res.tmp (by rfl) (by rfl) Res.nil), rfl, by rfl, by rfl, by rfl⟩

noncomputable def invoice_tariff (a0 : api_Tariff) : Option (Bool) :=
  jn (fun m7 : Bool =>
  some m7) (fun j8 =>
  (invoice_tariff_1 a0.fBase (1099511627776 : Int)).bind fun r9 =>
  (if r9 = true then
  (invoice_tariff_1 a0.fIncluded (1048576 : Int)).bind fun r11 =>
  (if r11 = true then
  (invoice_tariff_1 a0.fRate (1048576 : Int)).bind fun r13 =>
  j8 r13
  else
  j8 false)
  else
  j8 false))
set_option maxHeartbeats 4000000 in
set_option maxRecDepth 100000 in
theorem invoice_tariff_ac (a0 : api_Tariff) (r : Bool) (h : invoice_tariff a0 = some r) : AC Try.prog 26 [(.d (e_api_Tariff a0))] [] (.d (.bool r)) [] := by
  refine AC.of_code2 Try.func26 rfl rfl (Nat.le_of_ble_eq_true (by rfl)) fun B hB hN => ?_
  have L {d : Nat} (h : Nat.blt d Try.f26.ntmps = true) : d < B.N := ltN hN h
  delta invoice_tariff at h
  refine sr (cg (OpJ.box hB (nm := 1001) (by decide) (by simp) rfl (L rfl) (q 0)) rfl (c (OpJ.assign (L rfl) (Opd.bool false)) rfl cn)) ?_
  refine gh [(1, _)] [(1001, some _)] hB rfl rfl (by rfl) ?_
  refine sr (c (OpJ.assign (L rfl) (Opd.func 44)) rfl cn) ?_
  refine gh [(1, _), (3, _)] [(1001, some _)] hB rfl rfl (by rfl) ?_
  refine AWp.seq ?_
  refine AWp.cut h (fun m7 : Bool => ([(2, (bo m7))] : EL)) (fun m7 : Bool => ([] : OL)) (fun m7 h E' O' hmat => ?_) (fun j8 hjj8 h => ?_)
  · refine seqQ_n ?_
    refine AWp.ghost hmat ?_
    refine AWp.ret ?_
    obtain rfl := Option.some.inj h
    exact ⟨.inl rfl, _, _, (kp [(2, _)] [] hB rfl rfl (by rfl)), [(bo m7)], (Res.tmp (by rfl) (by rfl) Res.nil), rfl, by rfl, by rfl, by rfl⟩
  · obtain ⟨r9, hr9, h⟩ := bindS h
    rcases Bool.eq_false_or_eq_true r9 with hg10 | hg10
    · replace h := ite_t hg10 h
      obtain ⟨r11, hr11, h⟩ := bindS h
      rcases Bool.eq_false_or_eq_true r11 with hg12 | hg12
      · replace h := ite_t hg12 h
        obtain ⟨r13, hr13, h⟩ := bindS h
        refine rg (c (mv hN (q 3)) rfl (c (ov (.ptr 1001 0 [0]) (fp hN Try.underlying27 0 tyS3 _ (q 1))) rfl (c (lb hN 27 _ _ tyS3 (ad _) (q 5)) rfl (cg (OpJ.callVal (args := [(i6 a0.fBase), (i6 (1099511627776 : Int))]) (caps := []) hB fnOk44 [] (invoice_tariff_1_ac a0.fBase (1099511627776 : Int) r9 hr9) (by kernel_rfl) (L rfl) (by kernel_rfl) (by kernel_rfl) (OpdL.cons (q 6) (OpdL.cons (Opd.int .i64 (1099511627776)) OpdL.nil))) rfl (c (OpJ.val (v' := .d (.bool true)) (by rw [hg10]) (mv hN (q 7))) rfl (c (OpJ.guarded (g := 8) (by rfl) (mv hN (q 3))) rfl (c (OpJ.guarded (g := 8) (by rfl) (ov (.ptr 1001 1 [1]) (fp hN Try.underlying27 1 tyS3 _ (q 1)))) rfl (c (OpJ.guarded (g := 8) (by rfl) (lb hN 27 _ _ tyS3 (ad _) (q 10))) rfl (cg (OpJ.guarded (g := 8) (by rfl) (OpJ.callVal (args := [(i6 a0.fIncluded), (i6 (1048576 : Int))]) (caps := []) hB fnOk44 [] (invoice_tariff_1_ac a0.fIncluded (1048576 : Int) r11 hr11) (by kernel_rfl) (L rfl) (by kernel_rfl) (by kernel_rfl) (OpdL.cons (q 11) (OpdL.cons (Opd.int .i64 (1048576)) OpdL.nil)))) rfl (c (OpJ.pickT (L rfl) (q 8) (q 12)) rfl (c (OpJ.val (v' := .d (.bool true)) (by rw [hg12]) (mv hN (q 13))) rfl (c (OpJ.guarded (g := 14) (by rfl) (mv hN (q 3))) rfl (c (OpJ.guarded (g := 14) (by rfl) (ov (.ptr 1001 2 [2]) (fp hN Try.underlying27 2 tyS3 _ (q 1)))) rfl (c (OpJ.guarded (g := 14) (by rfl) (lb hN 27 _ _ tyS3 (ad _) (q 16))) rfl (cg (OpJ.guarded (g := 14) (by rfl) (OpJ.callVal (args := [(i6 a0.fRate), (i6 (1048576 : Int))]) (caps := []) hB fnOk44 [] (invoice_tariff_1_ac a0.fRate (1048576 : Int) r13 hr13) (by kernel_rfl) (L rfl) (by kernel_rfl) (by kernel_rfl) (OpdL.cons (q 17) (OpdL.cons (Opd.int .i64 (1048576)) OpdL.nil)))) rfl (c (OpJ.pickT (L rfl) (q 14) (q 18)) rfl (c (OpJ.assign (L rfl) (q 19)) rfl cn))))))))))))))))) ?_
        exact hjj8 _ h _ _ (Mat.trans (mp [] [(2, (bo r13))] [] hB) (mp [] _ _ hB))
      · replace h := ite_f hg12 h
        refine rg (c (mv hN (q 3)) rfl (c (ov (.ptr 1001 0 [0]) (fp hN Try.underlying27 0 tyS3 _ (q 1))) rfl (c (lb hN 27 _ _ tyS3 (ad _) (q 5)) rfl (cg (OpJ.callVal (args := [(i6 a0.fBase), (i6 (1099511627776 : Int))]) (caps := []) hB fnOk44 [] (invoice_tariff_1_ac a0.fBase (1099511627776 : Int) r9 hr9) (by kernel_rfl) (L rfl) (by kernel_rfl) (by kernel_rfl) (OpdL.cons (q 6) (OpdL.cons (Opd.int .i64 (1099511627776)) OpdL.nil))) rfl (c (OpJ.val (v' := .d (.bool true)) (by rw [hg10]) (mv hN (q 7))) rfl (c (OpJ.guarded (g := 8) (by rfl) (mv hN (q 3))) rfl (c (OpJ.guarded (g := 8) (by rfl) (ov (.ptr 1001 1 [1]) (fp hN Try.underlying27 1 tyS3 _ (q 1)))) rfl (c (OpJ.guarded (g := 8) (by rfl) (lb hN 27 _ _ tyS3 (ad _) (q 10))) rfl (cg (OpJ.guarded (g := 8) (by rfl) (OpJ.callVal (args := [(i6 a0.fIncluded), (i6 (1048576 : Int))]) (caps := []) hB fnOk44 [] (invoice_tariff_1_ac a0.fIncluded (1048576 : Int) r11 hr11) (by kernel_rfl) (L rfl) (by kernel_rfl) (by kernel_rfl) (OpdL.cons (q 11) (OpdL.cons (Opd.int .i64 (1048576)) OpdL.nil)))) rfl (c (OpJ.pickT (L rfl) (q 8) (q 12)) rfl (c (OpJ.val (v' := .d (.bool false)) (by rw [hg12]) (mv hN (q 13))) rfl (cg (OpJ.skipU (g := 14) (L rfl) (by rfl)) rfl (cg (OpJ.skipU (g := 14) (L rfl) (by rfl)) rfl (cg (OpJ.skipU (g := 14) (L rfl) (by rfl)) rfl (cg (OpJ.skipU (g := 14) (L rfl) (by rfl)) rfl (c (OpJ.pickF (L rfl) (q 14) (Opd.bool false)) rfl (c (OpJ.assign (L rfl) (q 19)) rfl cn))))))))))))))))) ?_
        exact hjj8 _ h _ _ (Mat.trans (mp [] [(2, (bo false))] [] hB) (mp [] _ _ hB))
    · replace h := ite_f hg10 h
      refine rg (c (mv hN (q 3)) rfl (c (ov (.ptr 1001 0 [0]) (fp hN Try.underlying27 0 tyS3 _ (q 1))) rfl (c (lb hN 27 _ _ tyS3 (ad _) (q 5)) rfl (cg (OpJ.callVal (args := [(i6 a0.fBase), (i6 (1099511627776 : Int))]) (caps := []) hB fnOk44 [] (invoice_tariff_1_ac a0.fBase (1099511627776 : Int) r9 hr9) (by kernel_rfl) (L rfl) (by kernel_rfl) (by kernel_rfl) (OpdL.cons (q 6) (OpdL.cons (Opd.int .i64 (1099511627776)) OpdL.nil))) rfl (c (OpJ.val (v' := .d (.bool false)) (by rw [hg10]) (mv hN (q 7))) rfl (cg (OpJ.skipU (g := 8) (L rfl) (by rfl)) rfl (cg (OpJ.skipU (g := 8) (L rfl) (by rfl)) rfl (cg (OpJ.skipU (g := 8) (L rfl) (by rfl)) rfl (cg (OpJ.skipU (g := 8) (L rfl) (by rfl)) rfl (c (OpJ.pickF (L rfl) (q 8) (Opd.bool false)) rfl (c (mv hN (q 13)) rfl (cg (OpJ.skipU (g := 14) (L rfl) (by rfl)) rfl (cg (OpJ.skipU (g := 14) (L rfl) (by rfl)) rfl (cg (OpJ.skipU (g := 14) (L rfl) (by rfl)) rfl (cg (OpJ.skipU (g := 14) (L rfl) (by rfl)) rfl (c (OpJ.pickF (L rfl) (q 14) (Opd.bool false)) rfl (c (OpJ.assign (L rfl) (q 19)) rfl cn))))))))))))))))) ?_
      exact hjj8 _ h _ _ (Mat.trans (mp [] [(2, (bo false))] [] hB) (mp [] _ _ hB))

noncomputable def invoice_Price (a0 : api_Tariff) (a1 : Int) : Option (Int × Int) :=
  (invoice_tariff a0).bind fun r1 =>
  (if (!r1) = true then
  some ((0 : Int), (38 : Int))
  else
  (if ((decide (a1 < (0 : Int))) || (decide ((1099511627776 : Int) < a1))) = true then
  some ((0 : Int), (1 : Int))
  else
  (if (decide ((1125899906842624 : Int) < (w64 (a0.fBase + (w64 (a0.fRate * (maxI (0 : Int) (w64 (a1 - a0.fIncluded))))))))) = true then
  some ((0 : Int), (3 : Int))
  else
  some ((w64 (a0.fBase + (w64 (a0.fRate * (maxI (0 : Int) (w64 (a1 - a0.fIncluded))))))), (0 : Int)))))
set_option maxHeartbeats 4000000 in
set_option maxRecDepth 100000 in
theorem invoice_Price_ac (a0 : api_Tariff) (a1 : Int) (r : Int × Int) (h : invoice_Price a0 a1 = some r) : AC Try.prog 11 [(.d (e_api_Tariff a0)), (.d (.int .i64 a1))] [] (.tup [(.d (.int .i64 r.1)), (.d (.int .i64 r.2))]) [] := by
  refine AC.of_code2 Try.func11 rfl rfl (Nat.le_of_ble_eq_true (by rfl)) fun B hB hN => ?_
  have L {d : Nat} (h : Nat.blt d Try.f11.ntmps = true) : d < B.N := ltN hN h
  delta invoice_Price at h
  refine sr (cg (OpJ.box hB (nm := 1002) (by decide) (by simp) rfl (L rfl) (q 0)) rfl (c (OpJ.assign (L rfl) (Opd.int .i64 (0))) rfl (c (OpJ.assign (L rfl) (Opd.int .i64 (0))) rfl cn))) ?_
  refine gh [(1, _), (2, _)] [(1002, some _)] hB rfl rfl (by rfl) ?_
  refine AWp.seq ?_
  obtain ⟨r1, hr1, h⟩ := bindS h
  refine sr (c (lb hN 27 _ _ tyS27 (At.here _) (q 2)) rfl (cg (OpJ.callFn hB fnOk26 (invoice_tariff_ac a0 r1 hr1) [] (by kernel_rfl) (L rfl) (by kernel_rfl) (OpdL.cons (q 7) OpdL.nil)) rfl (c (OpJ.not (L rfl) (q 8)) rfl cn))) ?_
  refine gh [(1, _), (2, _), (9, _)] [(1002, some _)] hB rfl rfl (by rfl) ?_
  refine AWp.cond rfl (fun hg2 => ?_) (fun hg2 => ?_)
  · replace h := ite_t hg2 h
    refine sr (c (OpJ.assign (L rfl) (Opd.int .i64 (0))) rfl (c (OpJ.assign (L rfl) (Opd.int .i64 (38))) rfl cn)) ?_
    refine gh [(4, _), (5, _)] [] hB rfl rfl (by rfl) ?_
    refine AWp.ret ?_
    refine seqQ_r ?_
    obtain rfl := Option.some.inj h
    exact ⟨.inl rfl, _, _, (kp [(4, _), (5, _)] [] hB rfl rfl (by rfl)), [(i6 0), (i6 (38 : Int))], (Res.tmp (by rfl) (by rfl) (Res.tmp (by rfl) (by rfl) Res.nil)), rfl, by rfl, by rfl, by rfl⟩
  · replace h := ite_f hg2 h
    refine AWp.skip ?_
    refine seqQ_n ?_
    refine AWp.seq ?_
    refine sr (c (mv hN (q 1)) rfl (c (OpJ.lss (L rfl) (q 10) (Opd.int .i64 (0))) rfl (c (mv hN (q 11)) rfl (c (oq hN 12 (mv hN (q 1)) (OptL.keep (by rfl) OptL.nil) (GuardV.plain _)) rfl (c (oq hN 12 (OpJ.gtr (L rfl) (q 13) (Opd.int .i64 (1099511627776))) (OptL.opt OptL.nil) (GuardV.plain _)) rfl (c (OpJ.pickOr rfl (L rfl) (q 12) (q 14)) rfl cn)))))) ?_
    refine gh [(1, _), (2, _), (15, _)] [(1002, some _)] hB rfl rfl (by rfl) ?_
    refine AWp.cond rfl (fun hg3 => ?_) (fun hg3 => ?_)
    · replace h := ite_t hg3 h
      refine sr (c (OpJ.assign (L rfl) (Opd.int .i64 (0))) rfl (c (OpJ.assign (L rfl) (Opd.int .i64 (1))) rfl cn)) ?_
      refine gh [(4, _), (5, _)] [] hB rfl rfl (by rfl) ?_
      refine AWp.ret ?_
      refine seqQ_r ?_
      obtain rfl := Option.some.inj h
      exact ⟨.inl rfl, _, _, (kp [(4, _), (5, _)] [] hB rfl rfl (by rfl)), [(i6 0), (i6 1)], (Res.tmp (by rfl) (by rfl) (Res.tmp (by rfl) (by rfl) Res.nil)), rfl, by rfl, by rfl, by rfl⟩
    · replace h := ite_f hg3 h
      refine AWp.skip ?_
      refine seqQ_n ?_
      refine sr (c (ov (.ptr 1002 0 [0]) (fp hN Try.underlying27 0 tyS3 _ (q 2))) rfl (c (lb hN 27 _ _ tyS3 (ad _) (q 16)) rfl (c (ov (.ptr 1002 2 [2]) (fp hN Try.underlying27 2 tyS3 _ (q 2))) rfl (c (lb hN 27 _ _ tyS3 (ad _) (q 18)) rfl (c (mv hN (q 1)) rfl (c (ov (.ptr 1002 1 [1]) (fp hN Try.underlying27 1 tyS3 _ (q 2))) rfl (c (lb hN 27 _ _ tyS3 (ad _) (q 21)) rfl (c (sub6 (L rfl) (q 20) (q 22)) rfl (c (OpJ.max (L rfl) (Opd.int .i64 (0)) (q 23)) rfl (c (mul6 (L rfl) (q 19) (q 24)) rfl (c (add6 (L rfl) (q 17) (q 25)) rfl (c (OpJ.assign (L rfl) (q 26)) rfl cn)))))))))))) ?_
      refine gh [(6, _)] [] hB rfl rfl (by rfl) ?_
      refine AWp.seq ?_
      refine sr (c (mv hN (q 6)) rfl (c (OpJ.gtr (L rfl) (q 27) (Opd.int .i64 (1125899906842624))) rfl cn)) ?_
      refine gh [(6, _), (28, _)] [] hB rfl rfl (by rfl) ?_
      refine AWp.cond rfl (fun hg4 => ?_) (fun hg4 => ?_)
      · replace h := ite_t hg4 h
        refine sr (c (OpJ.assign (L rfl) (Opd.int .i64 (0))) rfl (c (OpJ.assign (L rfl) (Opd.int .i64 (3))) rfl cn)) ?_
        refine gh [(4, _), (5, _)] [] hB rfl rfl (by rfl) ?_
        refine AWp.ret ?_
        refine seqQ_r ?_
        obtain rfl := Option.some.inj h
        exact ⟨.inl rfl, _, _, (kp [(4, _), (5, _)] [] hB rfl rfl (by rfl)), [(i6 0), (i6 (3 : Int))], (Res.tmp (by rfl) (by rfl) (Res.tmp (by rfl) (by rfl) Res.nil)), rfl, by rfl, by rfl, by rfl⟩
      · replace h := ite_f hg4 h
        refine AWp.skip ?_
        refine seqQ_n ?_
        refine sr (c (mv hN (q 6)) rfl (c (OpJ.assign (L rfl) (q 29)) rfl (c (OpJ.assign (L rfl) (Opd.int .i64 (0))) rfl cn))) ?_
        refine gh [(4, _), (5, _)] [] hB rfl rfl (by rfl) ?_
        refine AWp.ret ?_
        obtain rfl := Option.some.inj h
        exact ⟨.inl rfl, _, _, (kp [(4, _), (5, _)] [] hB rfl rfl (by rfl)), [(i6 (w64 (a0.fBase + (w64 (a0.fRate * (maxI (0 : Int) (w64 (a1 - a0.fIncluded)))))))), (i6 0)], (Res.tmp (by rfl) (by rfl) (Res.tmp (by rfl) (by rfl) Res.nil)), rfl, by rfl, by rfl, by rfl⟩

noncomputable def ext47_slices_Clone_R (a0 : (List Int)) : Option (List Int) := chk (decide (a0.length ≤ LIM)) <|
  some a0
theorem ext47_slices_Clone_R_ac (a0 : (List Int)) (r : List Int) (h : ext47_slices_Clone_R a0 = some r) : AC Try.prog 47 [(.d (.list 1 (a0.map (eI .i64))))] [] (.sref 900000 1 0 r.length) [(900000, some (.row 3 1 (r.map (eI .i64))))] := by
  obtain ⟨hc, h⟩ := chk_some h
  obtain rfl := Option.some.inj h
  exact AC.cloneR cloneOk47 (by simp) (by rw [List.length_map]; exact lim_mulN hc (by decide)) (map_sz (f := (eI .i64)) (fun _ => rfl))

noncomputable def slices_Compact_L1 (a0 : (List Int)) (s2 : Int) (s146 : Int × Int × (List Int)) : Option (((Int × (List Int))) ⊕ (Int × Int × (List Int))) :=
  (if (decide (s146.2.1 < (((a0.length - s2.toNat) : Nat) : Int))) = true then
  (idx ((s146.2.2.drop s2.toNat).take (a0.length - s2.toNat)) s146.2.1).bind fun x183 =>
  (idx ((s146.2.2.drop s2.toNat).take (a0.length - s2.toNat)) s146.2.1).bind fun x184 =>
  (idx ((s146.2.2.drop s2.toNat).take (a0.length - s2.toNat)) (w64 (s146.2.1 - (1 : Int)))).bind fun x185 =>
  (idx ((s146.2.2.drop s2.toNat).take (a0.length - s2.toNat)) (w64 (s146.2.1 - (1 : Int)))).bind fun x186 =>
  jn (fun m192 : Int × (List Int) =>
  some (.inr (m192.1, (w64 (s146.2.1 + (1 : Int))), m192.2))) (fun j193 =>
  (if (x184 != x186) = true then
  (idx ((s146.2.2.drop s2.toNat).take (a0.length - s2.toNat)) s146.2.1).bind fun x195 =>
  (idx ((s146.2.2.drop s2.toNat).take (a0.length - s2.toNat)) s146.2.1).bind fun x196 =>
  (idx s146.2.2 s146.1).bind fun x197 =>
  (idx s146.2.2 s146.1).bind fun x198 =>
  j193 ((w64 (s146.1 + (1 : Int))), (s146.2.2.set s146.1.toNat x196))
  else
  j193 (s146.1, s146.2.2)))
  else
  some (.inl (s146.1, s146.2.2)))
noncomputable def slices_Compact_L0 (a0 : (List Int)) (s2 : Int) : Option ((((List Int)) ⊕ (Unit)) ⊕ (Int)) :=
  (if (decide (s2 < (a0.length : Int))) = true then
  (idx a0 s2).bind fun x140 =>
  (idx a0 s2).bind fun x141 =>
  (idx a0 (w64 (s2 - (1 : Int)))).bind fun x142 =>
  (idx a0 (w64 (s2 - (1 : Int)))).bind fun x143 =>
  (if (x141 == x143) = true then
  chk ((decide (0 ≤ s2) && decide (s2.toNat ≤ a0.length) && decide (a0.length ≤ a0.length))) <|
  (loop (slices_Compact_L1 a0 s2) (s2, (1 : Int), a0)).bind fun p181 =>
  chk ((decide (0 ≤ p181.1) && decide (p181.1.toNat ≤ p181.2.length) && decide (p181.2.length ≤ p181.2.length))) <|
  chk (decide (p181.1.toNat + (p181.2.length - p181.1.toNat) ≤ p181.2.length)) <|
  chk ((decide (0 ≤ p181.1) && decide (0 ≤ p181.1.toNat) && decide (p181.1.toNat ≤ p181.2.length))) <|
  chk (decide (p181.1.toNat ≤ (p181.2.take p181.1.toNat ++ List.replicate (p181.2.length - p181.1.toNat) (0 : Int) ++ p181.2.drop (p181.1.toNat + (p181.2.length - p181.1.toNat))).length)) <|
  some (.inl (.inl ((p181.2.take p181.1.toNat ++ List.replicate (p181.2.length - p181.1.toNat) (0 : Int) ++ p181.2.drop (p181.1.toNat + (p181.2.length - p181.1.toNat))).take p181.1.toNat)))
  else
  some (.inr (w64 (s2 + (1 : Int)))))
  else
  some (.inl (.inr ())))
noncomputable def slices_Compact (a0 : (List Int)) : Option ((List Int)) :=
  (if (decide ((a0.length : Int) < (2 : Int))) = true then
  some a0
  else
  (loop (slices_Compact_L0 a0) (1 : Int)).bind fun x205 => match x205 with
  | (.inl p137) =>
    some p137
  | (.inr _) =>
    some a0)
set_option maxHeartbeats 4000000 in
set_option maxRecDepth 100000 in
theorem slices_Compact_ac (a0 : (List Int)) (r : (List Int)) (h : slices_Compact a0 = some r) : AC Try.prog 46 [(.sref 0 1 0 a0.length)] [(0, (.row 3 1 (a0.map (eI .i64))))] (.d (.list 1 (r.map (eI .i64)))) [(0, none)] := by
  refine AC.of_code2 Try.func46 rfl rfl (Nat.le_of_ble_eq_true (by rfl)) fun B hB hN => ?_
  have L {d : Nat} (h : Nat.blt d Try.f46.ntmps = true) : d < B.N := ltN hN h
  delta slices_Compact at h
  refine sr (c (OpJ.assign (L rfl) Opd.nils) rfl cn) ?_
  refine gh [(0, _)] [(0, some _)] hB rfl rfl (by rfl) ?_
  refine AWp.seq ?_
  refine sr (c (mv hN (q 0)) rfl (c (OpJ.lenS Try.underlying28 (L rfl) (q 6)) rfl (c (OpJ.lss (L rfl) (q 7) (Opd.int .i64 (2))) rfl cn))) ?_
  refine gh [(0, _), (8, _)] [(0, some _)] hB rfl rfl (by rfl) ?_
  refine AWp.cond rfl (fun hg1 => ?_) (fun hg1 => ?_)
  · replace h := ite_t hg1 h
    refine sr (c (mv hN (q 0)) rfl (c (OpJ.assign (L rfl) (q 9)) rfl cn)) ?_
    refine gh [(2, _)] [(0, some _)] hB rfl rfl (by rfl) ?_
    refine AWp.ret ?_
    refine seqQ_r ?_
    obtain rfl := Option.some.inj h
    exact ⟨.inl rfl, _, _, (Mat.trans (Mat.freezeP (n := 0) (e := 3) (sz := 1) (es := a0.map (eI .i64)) (Ts := [(2, (qI_1 a0))]) (Bs := []) (by rfl) (TwT.cons (x := (.sref 0 1 0 a0.length)) (by rfl) (FrzL.all (by first | rfl | (simp; done) | (simp; omega))) TwT.nil) TwB.nil) (mp [] [(2, (qI_1 a0))] [] hB)), [(qI_1 a0)], (Res.tmp (by rfl) (by rfl) Res.nil), rfl, by rfl, by rfl, by rfl⟩
  · replace h := ite_f hg1 h
    refine AWp.skip ?_
    refine seqQ_n ?_
    refine AWp.seq ?_
    refine sr (c (OpJ.assign (L rfl) (Opd.int .i64 (1))) rfl cn) ?_
    refine gh [(0, _), (3, _)] [(0, some _)] hB rfl rfl (by rfl) ?_
    refine AWp.block ?_
    obtain ⟨x205, hx206, h⟩ := bindS h
    refine lg (slices_Compact_L0 a0) (fun s2 : Int => ([(0, (.sref 0 1 0 a0.length)), (3, (i6 s2))] : EL)) (fun s2 : Int => ([(0, some (wI_3_1 a0))] : OL)) (fun (x : ((List Int)) ⊕ (Unit)) e E' O' => match x with | (.inl p137) => e = .ret ∧ Mat B E' O' ([(2, (.sref 0 1 0 p137.length))] : EL) ([(0, some (wI_3_1 p137))] : OL) | (.inr _p) => e = .exit 0 ∧ Mat B E' O' ([(0, (.sref 0 1 0 a0.length))] : EL) ([(0, some (wI_3_1 a0))] : OL)) hx206 (mp [] _ _ hB) (fun s2 y h => ?_) (fun e E' O' hR => ?_)
    · unfold slices_Compact_L0 at h
      refine AWp.seq ?_
      refine sr (c (mv hN (q 3)) rfl (c (mv hN (q 0)) rfl (c (OpJ.lenS Try.underlying28 (L rfl) (q 11)) rfl (c (OpJ.lss (L rfl) (q 10) (q 12)) rfl cn)))) ?_
      refine gh [(0, _), (3, _), (13, _)] [(0, some _)] hB rfl rfl (by rfl) ?_
      refine AWp.cond rfl (fun hg139 => ?_) (fun hg139 => ?_)
      · replace h := ite_t hg139 h
        refine AWp.skip ?_
        refine seqQ_n ?_
        refine AWp.seq ?_
        refine AWp.block ?_
        obtain ⟨x140, hx140, h⟩ := bindS h
        obtain ⟨x141, hx141, h⟩ := bindS h
        obtain ⟨x142, hx142, h⟩ := bindS h
        obtain ⟨x143, hx143, h⟩ := bindS h
        refine sd (c (mv hN (q 0)) rfl (c (mv hN (q 3)) rfl (c (OpJ.val (v' := (.ptr 0 (s2.toNat * 1) [s2.toNat])) (by simp) (OpJ.indexS Try.underlying28 tyS3 (idx_some hx140).1 (by have := idx_lt hx140; first | (simpa using this) | ((try simp only [List.length_map] at this); (try simp only [List.length_map]); omega)) (L rfl) (q 16) (q 17))) rfl (c (OpJ.loadR (e := 3) (sz := 1) tyS3 (get_map (eI .i64) (idx_some hx141).2) (o := 0) (At.here _) (by rfl) (by rfl) (by rfl) (L rfl) (q 18)) rfl (c (mv hN (q 0)) rfl (c (mv hN (q 3)) rfl (c (sub6 (L rfl) (q 21) (Opd.int .i64 (1))) rfl (c (OpJ.val (v' := (.ptr 0 ((w64 (s2 - (1 : Int))).toNat * 1) [(w64 (s2 - (1 : Int))).toNat])) (by simp) (OpJ.indexS Try.underlying28 tyS3 (idx_some hx142).1 (by have := idx_lt hx142; first | (simpa using this) | ((try simp only [List.length_map] at this); (try simp only [List.length_map]); omega)) (L rfl) (q 20) (q 22))) rfl (c (OpJ.loadR (e := 3) (sz := 1) tyS3 (get_map (eI .i64) (idx_some hx143).2) (o := 0) (At.here _) (by rfl) (by rfl) (by rfl) (L rfl) (q 23)) rfl (c (OpJ.eqlI (L rfl) (q 19) (q 24)) rfl cn)))))))))) (by kernel_rfl) (by kernel_rfl) ?_
        refine gh [(0, _), (3, _), (25, _)] [(0, some _)] hB rfl rfl (by rfl) ?_
        refine AWp.cond rfl (fun hg144 => ?_) (fun hg144 => ?_)
        · replace h := ite_t hg144 h
          obtain ⟨hc145, h⟩ := chk_some h
          have hc145_o := hc145
          simp only [Bool.and_eq_true, decide_eq_true_eq] at hc145_o
          refine sr (c (mv hN (q 0)) rfl (c (mv hN (q 3)) rfl (c (OpJ.cutS Try.underlying28 tyS3 (l := s2.toNat) (h := a0.length) (off' := s2.toNat) (len' := (a0.length - s2.toNat)) (.inr ⟨_, _, _, rfl, (ot 27 (i6 s2)), (of_decide_eq_true (and_l2 (and_l2 hc145))), rfl⟩) (.inl ⟨rfl, rfl, rfl⟩) (of_decide_eq_true (and_r2 (and_l2 hc145))) (of_decide_eq_true (and_r2 hc145)) (by simp) (by simp) (L rfl) (q 26)) rfl (c (OpJ.assign (L rfl) (q 28)) rfl cn)))) ?_
          refine gh [(0, _), (3, _), (4, _)] [(0, some _)] hB rfl rfl (by rfl) ?_
          refine AWp.seq ?_
          refine sr (c (OpJ.assign (L rfl) (Opd.int .i64 (1))) rfl cn) ?_
          refine gh [(0, _), (3, _), (4, _), (5, _)] [(0, some _)] hB rfl rfl (by rfl) ?_
          refine AWp.block ?_
          obtain ⟨p181, hx200, h⟩ := bindS h
          refine lg (slices_Compact_L1 a0 s2) (fun s146 : Int × Int × (List Int) => ([(0, (.sref 0 1 0 s146.2.2.length)), (3, (i6 s146.1)), (4, (.sref 0 1 s2.toNat (a0.length - s2.toNat))), (5, (i6 s146.2.1))] : EL)) (fun s146 : Int × Int × (List Int) => ([(0, some (wI_3_1 s146.2.2))] : OL)) (fun (p181 : (Int × (List Int))) e E' O' => e = .exit 2 ∧ Mat B E' O' ([(0, (.sref 0 1 0 p181.2.length)), (3, (i6 p181.1))] : EL) ([(0, some (wI_3_1 p181.2))] : OL)) hx200 (mp [] _ _ hB) (fun s146 y h => ?_) (fun e E' O' hR => ?_)
          · unfold slices_Compact_L1 at h
            refine AWp.seq ?_
            refine sr (c (mv hN (q 5)) rfl (c (mv hN (q 4)) rfl (c (OpJ.lenS Try.underlying28 (L rfl) (q 30)) rfl (c (OpJ.lss (L rfl) (q 29) (q 31)) rfl cn)))) ?_
            refine gh [(0, _), (3, _), (4, _), (5, _), (32, _)] [(0, some _)] hB rfl rfl (by rfl) ?_
            refine AWp.cond rfl (fun hg182 => ?_) (fun hg182 => ?_)
            · replace h := ite_t hg182 h
              refine AWp.skip ?_
              refine seqQ_n ?_
              refine AWp.seq ?_
              refine AWp.block ?_
              obtain ⟨x183, hx183, h⟩ := bindS h
              obtain ⟨x184, hx184, h⟩ := bindS h
              obtain ⟨x185, hx185, h⟩ := bindS h
              obtain ⟨x186, hx186, h⟩ := bindS h
              refine sd (c (mv hN (q 4)) rfl (c (mv hN (q 5)) rfl (c (OpJ.indexS Try.underlying28 tyS3 (idx_cut_lt hx183).1 (idx_cut_lt hx183).2 (L rfl) (q 35) (q 36)) rfl (c (OpJ.loadR (e := 3) (sz := 1) tyS3 (get_map (eI .i64) (idx_cut_at hx184)) (o := 0) (At.here _) (by rfl) (by rfl) (by rfl) (L rfl) (q 37)) rfl (c (mv hN (q 4)) rfl (c (mv hN (q 5)) rfl (c (sub6 (L rfl) (q 40) (Opd.int .i64 (1))) rfl (c (OpJ.indexS Try.underlying28 tyS3 (idx_cut_lt hx185).1 (idx_cut_lt hx185).2 (L rfl) (q 39) (q 41)) rfl (c (OpJ.loadR (e := 3) (sz := 1) tyS3 (get_map (eI .i64) (idx_cut_at hx186)) (o := 0) (At.here _) (by rfl) (by rfl) (by rfl) (L rfl) (q 42)) rfl (c (OpJ.neqI (L rfl) (q 38) (q 43)) rfl cn)))))))))) (by kernel_rfl) (by kernel_rfl) ?_
              refine gh [(0, _), (3, _), (4, _), (5, _), (44, _)] [(0, some _)] hB rfl rfl (by rfl) ?_
              refine AWp.cut h (fun m192 : Int × (List Int) => ([(0, (.sref 0 1 0 m192.2.length)), (3, (i6 m192.1)), (4, (.sref 0 1 s2.toNat (a0.length - s2.toNat))), (5, (i6 s146.2.1))] : EL)) (fun m192 : Int × (List Int) => ([(0, some (wI_3_1 m192.2))] : OL)) (fun m192 h E' O' hmat => ?_) (fun j193 hjj193 h => ?_)
              · refine blkQ_n ?_
                refine seqQ_n ?_
                refine AWp.ghost hmat ?_
                refine rg (c (mv hN (q 5)) rfl (c (add6 (L rfl) (q 33) (Opd.int .i64 (1))) rfl (c (OpJ.assign (L rfl) (q 34)) rfl cn))) ?_
                obtain rfl := Option.some.inj h
                exact ⟨rfl, (Mat.trans (mp [] [(0, (.sref 0 1 0 m192.2.length)), (3, (i6 m192.1)), (4, (.sref 0 1 s2.toNat (a0.length - s2.toNat))), (5, (i6 (w64 (s146.2.1 + (1 : Int)))))] [(0, some (wI_3_1 m192.2))] hB) (mp [] _ _ hB))⟩
              · refine AWp.cond rfl (fun hg194 => ?_) (fun hg194 => ?_)
                · replace h := ite_t hg194 h
                  obtain ⟨x195, hx195, h⟩ := bindS h
                  obtain ⟨x196, hx196, h⟩ := bindS h
                  obtain ⟨x197, hx197, h⟩ := bindS h
                  obtain ⟨x198, hx198, h⟩ := bindS h
                  refine sr (c (mv hN (q 0)) rfl (c (mv hN (q 3)) rfl (c (mv hN (q 4)) rfl (c (mv hN (q 5)) rfl (c (OpJ.indexS Try.underlying28 tyS3 (idx_cut_lt hx195).1 (idx_cut_lt hx195).2 (L rfl) (q 47) (q 48)) rfl (c (OpJ.loadR (e := 3) (sz := 1) tyS3 (get_map (eI .i64) (idx_cut_at hx196)) (o := 0) (At.here _) (by rfl) (by rfl) (by rfl) (L rfl) (q 49)) rfl (c (OpJ.val (v' := (.ptr 0 (s146.1.toNat * 1) [s146.1.toNat])) (by simp) (OpJ.indexS Try.underlying28 tyS3 (idx_some hx197).1 (by have := idx_lt hx197; first | (simpa using this) | ((try simp only [List.length_map] at this); (try simp only [List.length_map]); omega)) (L rfl) (q 45) (q 46))) rfl (cg (OpJ.storeR (e := 3) (sz := 1) (es' := (s146.2.2.set s146.1.toNat x196).map (eI .i64)) tyS3 (get_map (eI .i64) (idx_some hx198).2) (o := 0) (SetAt.here _ _) (by rfl) (map_set _ _ _ _) (by rfl) (by rfl) (q 51) (q 50)) rfl cn)))))))) ?_
                  refine gh [(0, _), (3, _), (4, _), (5, _)] [(0, some _)] hB rfl rfl (by rfl) ?_
                  refine rg (c (mv hN (q 3)) rfl (c (add6 (L rfl) (q 52) (Opd.int .i64 (1))) rfl (c (OpJ.assign (L rfl) (q 53)) rfl cn))) ?_
                  exact hjj193 _ h _ _ (Mat.trans (mp [] [(0, (.sref 0 1 0 s146.2.2.length)), (3, (i6 (w64 (s146.1 + (1 : Int))))), (4, (.sref 0 1 s2.toNat (a0.length - s2.toNat))), (5, (i6 s146.2.1))] [(0, some (wI_3_1 (s146.2.2.set s146.1.toNat x196)))] hB) (Mat.trans (Mat.lenP (Ts := [(0, (.sref 0 1 0 ((s146.2.2.set s146.1.toNat x196).length)))]) (Bs := []) (TwT.cons (x := (.sref 0 1 0 s146.2.2.length)) (by rfl) (Tw.leaf ⟨_, _, _, _, _, rfl, rfl, (by first | rfl | (simp; done) | (simp; omega))⟩) TwT.nil) TwB.nil) (mp [] _ _ hB)))
                · replace h := ite_f hg194 h
                  refine AWp.skip ?_
                  exact hjj193 _ h _ _ (mp [] _ _ hB)
            · replace h := ite_f hg182 h
              refine AWp.exit ?_
              refine seqQ_e ?_
              obtain rfl := Option.some.inj h
              exact ⟨(fun hc => by cases hc), rfl, (mp [] _ _ hB)⟩
          · obtain ⟨rfl, hmat⟩ := hR
            refine blkQ_hit ?_
            refine seqQ_n ?_
            refine AWp.ghost hmat ?_
            obtain ⟨hc201, h⟩ := chk_some h
            have hc201_o := hc201
            simp only [Bool.and_eq_true, decide_eq_true_eq] at hc201_o
            obtain ⟨hc202, h⟩ := chk_some h
            have hc202_o := hc202
            simp only [Bool.and_eq_true, decide_eq_true_eq] at hc202_o
            refine sr (c (mv hN (q 0)) rfl (c (mv hN (q 3)) rfl (c (OpJ.cutS Try.underlying28 tyS3 (l := p181.1.toNat) (h := p181.2.length) (off' := p181.1.toNat) (len' := (p181.2.length - p181.1.toNat)) (.inr ⟨_, _, _, rfl, (ot 55 (i6 p181.1)), (of_decide_eq_true (and_l2 (and_l2 hc201))), rfl⟩) (.inl ⟨rfl, rfl, rfl⟩) (of_decide_eq_true (and_r2 (and_l2 hc201))) (of_decide_eq_true (and_r2 hc201)) (by simp) (by simp) (L rfl) (q 54)) rfl (cg (OpJ.clearS (e := 3) (z := (.int .i64 0)) (es := p181.2.map (eI .i64)) (es' := (p181.2.take p181.1.toNat ++ List.replicate (p181.2.length - p181.1.toNat) (0 : Int) ++ p181.2.drop (p181.1.toNat + (p181.2.length - p181.1.toNat))).map (eI .i64)) Try.underlying28 tyZD3 (by rfl) (by decide) (by rw [List.length_map]; exact of_decide_eq_true hc202) (by simp only [List.map_append, List.map_take, List.map_drop, List.map_replicate]; rfl) (q 56)) rfl cn)))) ?_
            refine gh [(0, _), (3, _)] [(0, some _)] hB rfl rfl (by rfl) ?_
            obtain ⟨hc203, h⟩ := chk_some h
            have hc203_o := hc203
            simp only [Bool.and_eq_true, decide_eq_true_eq] at hc203_o
            obtain ⟨hc204, h⟩ := chk_some h
            have hc204_o := hc204
            simp only [Bool.and_eq_true, decide_eq_true_eq] at hc204_o
            refine sr (c (mv hN (q 0)) rfl (c (mv hN (q 3)) rfl (cg (OpJ.val (v' := (.sref 0 1 0 (((p181.2.take p181.1.toNat ++ List.replicate (p181.2.length - p181.1.toNat) (0 : Int) ++ p181.2.drop (p181.1.toNat + (p181.2.length - p181.1.toNat))).take p181.1.toNat).length))) (by rw [List.length_take, Nat.min_eq_left (of_decide_eq_true hc204)]) (OpJ.shrS (OpJ.cutS Try.underlying28 tyS3 (l := 0) (h := p181.1.toNat) (off' := 0) (len' := p181.1.toNat) (.inl ⟨rfl, rfl, rfl⟩) (.inr ⟨_, _, _, rfl, (ot 58 (i6 p181.1)), (of_decide_eq_true (and_l2 (and_l2 hc203))), rfl⟩) (of_decide_eq_true (and_r2 (and_l2 hc203))) (of_decide_eq_true (and_r2 hc203)) (by simp) (by simp) (L rfl) (q 57)) (es' := ((p181.2.take p181.1.toNat ++ List.replicate (p181.2.length - p181.1.toNat) (0 : Int) ++ p181.2.drop (p181.1.toNat + (p181.2.length - p181.1.toNat))).take p181.1.toNat).map (eI .i64)) (by rw [List.length_map]; exact (of_decide_eq_true hc204)) (by rw [List.map_take]))) rfl (c (OpJ.assign (L rfl) (q 59)) rfl cn)))) ?_
            refine gh [(2, _)] [(0, some _)] hB rfl rfl (by rfl) ?_
            refine AWp.ret ?_
            refine blkQ_r ?_
            refine seqQ_r ?_
            obtain rfl := Option.some.inj h
            exact ⟨(fun hc => by cases hc), rfl, (mp [] _ _ hB)⟩
        · replace h := ite_f hg144 h
          refine AWp.skip ?_
          refine blkQ_n ?_
          refine seqQ_n ?_
          refine rg (c (mv hN (q 3)) rfl (c (add6 (L rfl) (q 14) (Opd.int .i64 (1))) rfl (c (OpJ.assign (L rfl) (q 15)) rfl cn))) ?_
          obtain rfl := Option.some.inj h
          exact ⟨rfl, (Mat.trans (mp [] [(0, (.sref 0 1 0 a0.length)), (3, (i6 (w64 (s2 + (1 : Int)))))] [(0, some (wI_3_1 a0))] hB) (mp [] _ _ hB))⟩
      · replace h := ite_f hg139 h
        refine AWp.exit ?_
        refine seqQ_e ?_
        obtain rfl := Option.some.inj h
        exact ⟨(fun hc => by cases hc), rfl, (mp [] _ _ hB)⟩
    · rcases x205 with p137 | _
      · obtain ⟨rfl, hmat⟩ := hR
        refine blkQ_r ?_
        refine seqQ_r ?_
        obtain rfl := Option.some.inj h
        exact ⟨.inl rfl, _, _, (Mat.trans hmat (Mat.trans (Mat.freezeP (n := 0) (e := 3) (sz := 1) (es := p137.map (eI .i64)) (Ts := [(2, (qI_1 p137))]) (Bs := []) (by rfl) (TwT.cons (x := (.sref 0 1 0 p137.length)) (by rfl) (FrzL.all (by first | rfl | (simp; done) | (simp; omega))) TwT.nil) TwB.nil) (mp [] [(2, (qI_1 p137))] [] hB))), [(qI_1 p137)], (Res.tmp (by rfl) (by rfl) Res.nil), rfl, by rfl, by rfl, by rfl⟩
      · obtain ⟨rfl, hmat⟩ := hR
        refine blkQ_hit ?_
        refine seqQ_n ?_
        refine AWp.ghost hmat ?_
        refine sr (c (mv hN (q 0)) rfl (c (OpJ.assign (L rfl) (q 60)) rfl cn)) ?_
        refine gh [(2, _)] [(0, some _)] hB rfl rfl (by rfl) ?_
        refine AWp.ret ?_
        obtain rfl := Option.some.inj h
        exact ⟨.inl rfl, _, _, (Mat.trans (Mat.freezeP (n := 0) (e := 3) (sz := 1) (es := a0.map (eI .i64)) (Ts := [(2, (qI_1 a0))]) (Bs := []) (by rfl) (TwT.cons (x := (.sref 0 1 0 a0.length)) (by rfl) (FrzL.all (by first | rfl | (simp; done) | (simp; omega))) TwT.nil) TwB.nil) (mp [] [(2, (qI_1 a0))] [] hB)), [(qI_1 a0)], (Res.tmp (by rfl) (by rfl) Res.nil), rfl, by rfl, by rfl, by rfl⟩

noncomputable def invoice_ports_L0 (a0 : api_Member) (s1 : Int × (List Int)) : Option (((Unit) ⊕ ((List Int))) ⊕ (Int × (List Int))) :=
  (if (decide (s1.1 < (a0.fPorts.length : Int))) = true then
  (idx a0.fPorts s1.1).bind fun x13 =>
  (if ((decide (x13.fID < (1 : Int))) || (decide ((999 : Int) < x13.fID))) = true then
  some (.inl (.inl ()))
  else
  chk (decide ((s1.2 ++ ([x13.fID] : List Int)).length ≤ LIM)) <|
  some (.inr ((w64 (s1.1 + (1 : Int))), (s1.2 ++ ([x13.fID] : List Int)))))
  else
  some (.inl (.inr s1.2)))
noncomputable def invoice_ports (a0 : api_Member) : Option ((List Int) × Bool) :=
  (loop (invoice_ports_L0 a0) ((0 : Int), ([] : List Int))).bind fun x16 => match x16 with
  | (.inl _) =>
    some (([] : List Int), false)
  | (.inr p11) =>
    (ext45_slices_Sort p11).bind fun r18 =>
    chk (decide (r18.length = p11.length)) <|
    jn (fun m23 : Bool =>
    some (((r18.drop 0).take p11.length), m23)) (fun j24 =>
    (if (decide ((((r18.drop 0).take p11.length).length : Int) ≤ (4 : Int))) = true then
    (ext47_slices_Clone_R ((r18.drop 0).take p11.length)).bind fun r26 =>
    (slices_Compact r26).bind fun r27 =>
    j24 ((r27.length : Int) == (((r18.drop 0).take p11.length).length : Int))
    else
    j24 false))
set_option maxHeartbeats 4000000 in
set_option maxRecDepth 100000 in
theorem invoice_ports_ac (a0 : api_Member) (r : (List Int) × Bool) (h : invoice_ports a0 = some r) : AC Try.prog 28 [(.d (e_api_Member a0))] [] (.tup [(.d (.list 1 (r.1.map (eI .i64)))), (.d (.bool r.2))]) [] := by
  refine AC.of_code2 Try.func28 rfl rfl (Nat.le_of_ble_eq_true (by rfl)) fun B hB hN => ?_
  have L {d : Nat} (h : Nat.blt d Try.f28.ntmps = true) : d < B.N := ltN hN h
  delta invoice_ports at h
  refine sr (cg (OpJ.box hB (nm := 1001) (by decide) (by simp) rfl (L rfl) (q 0)) rfl (c (OpJ.assign (L rfl) Opd.nils) rfl (c (OpJ.assign (L rfl) (Opd.bool false)) rfl cn))) ?_
  refine gh [(1, _)] [(1001, some _)] hB rfl rfl (by rfl) ?_
  refine sr (c (OpJ.assign (L rfl) Opd.nils) rfl cn) ?_
  refine gh [(1, _), (4, _)] [(1001, some _)] hB rfl rfl (by rfl) ?_
  refine AWp.seq ?_
  refine sr (c (ov (.ptr 1001 5 [5]) (fp hN Try.underlying24 5 tyS22 _ (q 1))) rfl (c (lb hN 24 _ _ tyS22 (ad _) (q 7)) rfl (c (OpJ.val (v' := (i6 (a0.fPorts.length : Int))) (by simp) (OpJ.lenD Try.underlying22 (L rfl) (q 8))) rfl (c (mv hN (Opd.int .i64 (0))) rfl cn)))) ?_
  refine gh [(4, _), (8, _), (9, _), (10, _)] [] hB rfl rfl (by rfl) ?_
  refine AWp.block ?_
  obtain ⟨x16, hx17, h⟩ := bindS h
  refine lg (invoice_ports_L0 a0) (fun s1 : Int × (List Int) => ([(4, (.sref 3004 1 0 s1.2.length)), (8, (qe_api_Port_10 a0.fPorts)), (9, (i6 (a0.fPorts.length : Int))), (10, (i6 s1.1))] : EL)) (fun s1 : Int × (List Int) => ([(3004, some (wI_3_1 s1.2))] : OL)) (fun (x : (Unit) ⊕ ((List Int))) e E' O' => match x with | (.inl _p) => e = .ret ∧ Mat B E' O' ([(2, .nils), (3, (bo false))] : EL) ([] : OL) | (.inr p11) => e = .exit 0 ∧ Mat B E' O' ([(4, (.sref 3004 1 0 p11.length))] : EL) ([(3004, some (wI_3_1 p11))] : OL)) hx17 (Mat.trans (Mat.beginP (n := 3004) (e := 3) (sz := 1) (Ts := [(4, (.sref 3004 1 0 0))]) (Bs := []) hB (by decide) (by rfl) (by decide) (TwT.cons (x := .nils) (by rfl) (Tw.leaf ⟨rfl, rfl⟩) TwT.nil) TwB.nil) (mp [] _ _ hB)) (fun s1 y h => ?_) (fun e E' O' hR => ?_)
  · unfold invoice_ports_L0 at h
    refine sr (c (OpJ.lss (L rfl) (q 10) (q 9)) rfl cn) ?_
    refine gh [(4, _), (8, _), (9, _), (10, _), (11, _)] [(3004, some _)] hB rfl rfl (by rfl) ?_
    refine AWp.seq ?_
    refine AWp.cond rfl (fun hg12 => ?_) (fun hg12 => ?_)
    · replace h := ite_t hg12 h
      refine AWp.skip ?_
      refine seqQ_n ?_
      refine AWp.seq ?_
      refine AWp.block ?_
      obtain ⟨x13, hx13, h⟩ := bindS h
      refine sr (c (OpJ.indexD Try.underlying22 tyS68 (idx_some hx13).1 (get_map e_api_Port (idx_some hx13).2) (L rfl) (q 8) (q 10)) rfl (c (OpJ.loadD tyS68 (by rfl) (by rfl) (L rfl) (q 12)) rfl (cg (OpJ.alloc hB tyZ68 (nm := 1006) (by decide) (L rfl)) rfl (cg (OpJ.storeB tyS68 (SetAt.here _ _) (by rfl) (by rfl) (by simp) rfl (q 6) (q 13)) rfl cn)))) ?_
      refine gh [(4, _), (6, _), (8, _), (9, _), (10, _)] [(1006, some _), (3004, some _)] hB rfl rfl (by rfl) ?_
      refine AWp.seq ?_
      refine sr (c (ov (.ptr 1006 0 [0]) (fp hN Try.underlying68 0 tyS3 _ (q 6))) rfl (c (lb hN 68 _ _ tyS3 (ad _) (q 14)) rfl (c (OpJ.lss (L rfl) (q 15) (Opd.int .i64 (1))) rfl (c (mv hN (q 16)) rfl (c (oq hN 17 (ov (.ptr 1006 0 [0]) (fp hN Try.underlying68 0 tyS3 _ (q 6))) (OptL.keep (by rfl) OptL.nil) (GuardV.plain _)) rfl (c (oq hN 17 (lb hN 68 _ _ tyS3 (ad _) (q 18)) (OptL.opt OptL.nil) (GuardV.plain _)) rfl (c (oq hN 17 (OpJ.gtr (L rfl) (q 19) (Opd.int .i64 (999))) (OptL.opt OptL.nil) (GuardV.plain _)) rfl (c (OpJ.pickOr rfl (L rfl) (q 17) (q 20)) rfl cn)))))))) ?_
      refine gh [(4, _), (6, _), (8, _), (9, _), (10, _), (21, _)] [(1006, some _), (3004, some _)] hB rfl rfl (by rfl) ?_
      refine AWp.cond rfl (fun hg14 => ?_) (fun hg14 => ?_)
      · replace h := ite_t hg14 h
        refine sr (c (OpJ.assign (L rfl) Opd.nils) rfl (c (OpJ.assign (L rfl) (Opd.bool false)) rfl cn)) ?_
        refine gh [(2, _), (3, _)] [] hB rfl rfl (by rfl) ?_
        refine AWp.ret ?_
        refine seqQ_r ?_
        refine blkQ_r ?_
        refine seqQ_r ?_
        obtain rfl := Option.some.inj h
        exact ⟨(fun hc => by cases hc), rfl, (mp [] _ _ hB)⟩
      · replace h := ite_f hg14 h
        refine AWp.skip ?_
        refine seqQ_n ?_
        obtain ⟨hc15, h⟩ := chk_some h
        refine rg (c (mv hN (q 4)) rfl (c (ov (.ptr 1006 0 [0]) (fp hN Try.underlying68 0 tyS3 _ (q 6))) rfl (c (lb hN 68 _ _ tyS3 (ad _) (q 23)) rfl (c (OpJ.buildSlice Try.underlying28 tyS3 tyZD3 (by rfl) (by decide) (by decide) (Opds.cons (q 24) Opds.nil) (by kernel_rfl) (es := ([(.int .i64 x13.fID)] : List D)) (by rfl) (by rfl) (by kernel_rfl) (by simp) (L rfl)) rfl (cg (OpJ.append hB Try.underlying28 tyE3 (nm := 1026) (by decide) (es := s1.2.map (eI .i64)) (ys := ([x13.fID] : List Int).map (eI .i64)) (es' := (s1.2 ++ ([x13.fID] : List Int)).map (eI .i64)) (len := (s1.2 ++ ([x13.fID] : List Int)).length) (by simp) (by simp) (map_sz (f := (eI .i64)) (fun _ => rfl)) (by rw [List.length_map]; exact lim_mulN hc15 (by decide)) (by rw [List.length_map]; exact lim_leN hc15) (L rfl) (by simp) (q 22) (q 25)) rfl (c (OpJ.assign (L rfl) (q 26)) rfl cn)))))) ?_
        refine blkQ_n ?_
        refine seqQ_n ?_
        refine gh [(4, _), (8, _), (9, _), (10, _)] [(1026, some _)] hB rfl rfl (by rfl) ?_
        refine rg (c (add6 (L rfl) (q 10) (Opd.int .i64 (1))) rfl (c (mv hN (q 27)) rfl cn)) ?_
        obtain rfl := Option.some.inj h
        exact ⟨rfl, (Mat.trans (mp [] [(4, (.sref 1026 1 0 ((s1.2 ++ ([x13.fID] : List Int)).length))), (8, (qe_api_Port_10 a0.fPorts)), (9, (i6 (a0.fPorts.length : Int))), (10, (i6 (w64 (s1.1 + (1 : Int)))))] [(1026, some (wI_3_1 (s1.2 ++ ([x13.fID] : List Int))))] hB) (mp [(3004, 1026)] _ _ hB))⟩
    · replace h := ite_f hg12 h
      refine AWp.exit ?_
      refine seqQ_e ?_
      obtain rfl := Option.some.inj h
      exact ⟨(fun hc => by cases hc), rfl, (mp [] _ _ hB)⟩
  · rcases x16 with _ | p11
    · obtain ⟨rfl, hmat⟩ := hR
      refine blkQ_r ?_
      refine seqQ_r ?_
      obtain rfl := Option.some.inj h
      exact ⟨.inl rfl, _, _, (Mat.trans hmat (Mat.trans (Mat.coeP (Ts := [(2, (qI_1 ([] : List Int)))]) (Bs := []) (TwT.cons (x := .nils) (by rfl) (Tw.leaf ⟨_, (Co.nils 1), rfl⟩) TwT.nil) TwB.nil) (mp [] [(2, (qI_1 ([] : List Int))), (3, (bo false))] [] hB))), [(qI_1 ([] : List Int)), (bo false)], (Res.tmp (by rfl) (by rfl) (Res.tmp (by rfl) (by rfl) Res.nil)), rfl, by rfl, by rfl, by rfl⟩
    · obtain ⟨rfl, hmat⟩ := hR
      refine blkQ_hit ?_
      refine seqQ_n ?_
      refine AWp.ghost hmat ?_
      refine AWp.seq ?_
      obtain ⟨r18, hr18, h⟩ := bindS h
      obtain ⟨hc19, h⟩ := chk_some h
      have hc19_o := of_decide_eq_true hc19
      refine AWp.region (oc (mv hN (ot 4 (.sref 3004 1 0 p11.length)))
        (oc (OpJ.callFn hB fnOk45 (ext45_slices_Sort_ac p11 r18 hr18) [(0, 3004)] (by kernel_rfl) (L rfl) (by kernel_rfl) (OpdL.cons (ot 28 (.sref 3004 1 0 p11.length)) OpdL.nil))
        (OpJs.nil))) (by rfl) (by rfl) ?_
      refine seqQ_n ?_
      refine AWp.ghost (mp [] [(4, (.sref 3004 1 0 p11.length))] [(3004, some (wI_3_1 r18))] hB) ?_
      refine AWp.seq ?_
      refine AWp.ghost (Mat.freezeP (n := 3004) (e := 3) (sz := 1) (es := r18.map (eI .i64)) (Ts := [(4, (qI_1 ((r18.drop 0).take p11.length)))]) (Bs := []) (by rfl) (TwT.cons (x := (.sref 3004 1 0 p11.length)) (by rfl) (FrzL.cut (fs := ((r18.drop 0).take p11.length).map (eI .i64)) (by simp only [List.length_map, List.length_append, List.length_take, List.length_drop, List.length_replicate, List.length_set]; omega) (by first | rw [List.map_drop, List.map_take] | simp [List.map_take, List.map_drop])) TwT.nil) TwB.nil) ?_
      refine AWp.cut h (fun m23 : Bool => ([(2, (qI_1 ((r18.drop 0).take p11.length))), (3, (bo m23))] : EL)) (fun m23 : Bool => ([] : OL)) (fun m23 h E' O' hmat => ?_) (fun j24 hjj24 h => ?_)
      · refine seqQ_n ?_
        refine AWp.ghost hmat ?_
        refine AWp.ret ?_
        obtain rfl := Option.some.inj h
        exact ⟨.inl rfl, _, _, (kp [(2, _), (3, _)] [] hB rfl rfl (by rfl)), [(qI_1 ((r18.drop 0).take p11.length)), (bo m23)], (Res.tmp (by rfl) (by rfl) (Res.tmp (by rfl) (by rfl) Res.nil)), rfl, by rfl, by rfl, by rfl⟩
      · rcases Bool.eq_false_or_eq_true (decide ((((r18.drop 0).take p11.length).length : Int) ≤ (4 : Int))) with hg25 | hg25
        · replace h := ite_t hg25 h
          obtain ⟨r26, hr26, h⟩ := bindS h
          obtain ⟨r27, hr27, h⟩ := bindS h
          refine AWp.region (oc (mv hN (ot 4 (qI_1 ((r18.drop 0).take p11.length))))
            (oc (mv hN (ot 4 (qI_1 ((r18.drop 0).take p11.length))))
            (oc (OpJ.val (v' := (i6 (((r18.drop 0).take p11.length).length : Int))) (by simp) (OpJ.lenD Try.underlying28 (L rfl) (ot 31 (qI_1 ((r18.drop 0).take p11.length)))))
            (oc (OpJ.leq (L rfl) (ot 32 (i6 (((r18.drop 0).take p11.length).length : Int))) (Opd.int .i64 (4)))
            (oc (OpJ.val (v' := .d (.bool true)) (by rw [hg25]) (mv hN (ot 33 (bo (decide ((((r18.drop 0).take p11.length).length : Int) ≤ (4 : Int)))))))
            (oc (OpJ.guarded (g := 34) (by rfl) (mv hN (ot 4 (qI_1 ((r18.drop 0).take p11.length)))))
            (oc (OpJ.guarded (g := 34) (by rfl) (OpJ.callFn hB fnOk47 (ext47_slices_Clone_R_ac ((r18.drop 0).take p11.length) r26 hr26) [(900000, 100100)] (by kernel_rfl) (L rfl) (by kernel_rfl) (OpdL.cons (ot 35 (qI_1 ((r18.drop 0).take p11.length))) OpdL.nil)))
            (oc (OpJ.guarded (g := 34) (by rfl) (OpJ.callFn hB fnOk46 (slices_Compact_ac r26 r27 hr27) [(0, 100100)] (by kernel_rfl) (L rfl) (by kernel_rfl) (OpdL.cons (ot 36 (.sref 100100 1 0 r26.length)) OpdL.nil)))
            (oc (OpJ.guarded (g := 34) (by rfl) (OpJ.val (v' := (i6 (r27.length : Int))) (by simp) (OpJ.lenD Try.underlying28 (L rfl) (ot 37 (qI_1 r27)))))
            (oc (OpJ.guarded (g := 34) (by rfl) (mv hN (ot 4 (qI_1 ((r18.drop 0).take p11.length)))))
            (oc (OpJ.guarded (g := 34) (by rfl) (OpJ.val (v' := (i6 (((r18.drop 0).take p11.length).length : Int))) (by simp) (OpJ.lenD Try.underlying28 (L rfl) (ot 39 (qI_1 ((r18.drop 0).take p11.length))))))
            (oc (OpJ.guarded (g := 34) (by rfl) (OpJ.eqlI (L rfl) (ot 38 (i6 (r27.length : Int))) (ot 40 (i6 (((r18.drop 0).take p11.length).length : Int)))))
            (oc (OpJ.pickT (L rfl) (ot 34 (bo true)) (ot 41 (bo ((r27.length : Int) == (((r18.drop 0).take p11.length).length : Int)))))
            (oc (OpJ.assign (L rfl) (ot 30 (qI_1 ((r18.drop 0).take p11.length))))
            (oc (OpJ.assign (L rfl) (ot 42 (bo ((r27.length : Int) == (((r18.drop 0).take p11.length).length : Int)))))
            (OpJs.nil)))))))))))))))) (by rfl) (by rfl) ?_
          exact hjj24 _ h _ _ (Mat.trans (mp [] [(2, (qI_1 ((r18.drop 0).take p11.length))), (3, (bo ((r27.length : Int) == (((r18.drop 0).take p11.length).length : Int))))] [] hB) (mp [] _ _ hB))
        · replace h := ite_f hg25 h
          refine rg (c (mv hN (q 4)) rfl (c (mv hN (q 4)) rfl (c (OpJ.val (v' := (i6 (((r18.drop 0).take p11.length).length : Int))) (by simp) (OpJ.lenD Try.underlying28 (L rfl) (q 31))) rfl (c (OpJ.leq (L rfl) (q 32) (Opd.int .i64 (4))) rfl (c (OpJ.val (v' := .d (.bool false)) (by rw [hg25]) (mv hN (q 33))) rfl (cg (OpJ.skipU (g := 34) (L rfl) (by rfl)) rfl (cg (OpJ.skipU (g := 34) (L rfl) (by rfl)) rfl (cg (OpJ.skipU (g := 34) (L rfl) (by rfl)) rfl (cg (OpJ.skipU (g := 34) (L rfl) (by rfl)) rfl (cg (OpJ.skipU (g := 34) (L rfl) (by rfl)) rfl (cg (OpJ.skipU (g := 34) (L rfl) (by rfl)) rfl (cg (OpJ.skipU (g := 34) (L rfl) (by rfl)) rfl (c (OpJ.pickF (L rfl) (q 34) (Opd.bool false)) rfl (c (OpJ.assign (L rfl) (q 30)) rfl (c (OpJ.assign (L rfl) (q 42)) rfl cn))))))))))))))) ?_
          exact hjj24 _ h _ _ (Mat.trans (mp [] [(2, (qI_1 ((r18.drop 0).take p11.length))), (3, (bo false))] [] hB) (mp [] _ _ hB))

noncomputable def invoice_member (a0 : Int) : Option (Bool) :=
  some ((decide ((1 : Int) ≤ a0)) && (decide (a0 ≤ (4294967295 : Int))))
set_option maxHeartbeats 4000000 in
set_option maxRecDepth 100000 in
theorem invoice_member_ac (a0 : Int) (r : Bool) (h : invoice_member a0 = some r) : AC Try.prog 29 [(.d (.int .i64 a0))] [] (.d (.bool r)) [] := by
  refine AC.of_code2 Try.func29 rfl rfl (Nat.le_of_ble_eq_true (by rfl)) fun B hB hN => ?_
  delta invoice_member at h
  refine sr (c (OpJ.assign (ltN hN rfl) (Opd.bool false)) rfl cn) ?_
  refine gh [(0, _)] [] hB rfl rfl (by rfl) ?_
  refine sr (c (mv hN (q 0)) rfl (c (OpJ.geq (ltN hN rfl) (q 3) (Opd.int .i64 (1))) rfl (c (mv hN (q 4)) rfl (c (oq hN 5 (mv hN (q 0)) (OptL.keep (by rfl) OptL.nil) (GuardV.plain _)) rfl (c (oq hN 5 (OpJ.leq (ltN hN rfl) (q 6) (Opd.int .i64 (4294967295))) (OptL.opt OptL.nil) (GuardV.plain _)) rfl (c (OpJ.pickAnd rfl (ltN hN rfl) (q 5) (q 7)) rfl (c (OpJ.assign (ltN hN rfl) (q 8)) rfl cn))))))) ?_
  refine gh [(2, _)] [] hB rfl rfl (by rfl) ?_
  refine AWp.ret ?_
  obtain rfl := Option.some.inj h
  exact ⟨.inl rfl, _, _, (kp [(2, _)] [] hB rfl rfl (by rfl)), [(bo ((decide ((1 : Int) ≤ a0)) && (decide (a0 ≤ (4294967295 : Int)))))], (Res.tmp (by rfl) (by rfl) Res.nil), rfl, by rfl, by rfl, by rfl⟩

noncomputable def invoice_month (a0 : Int) : Option (Bool) :=
  some ((decide ((1 : Int) ≤ a0)) && (decide (a0 ≤ (100000 : Int))))
set_option maxHeartbeats 4000000 in
set_option maxRecDepth 100000 in
theorem invoice_month_ac (a0 : Int) (r : Bool) (h : invoice_month a0 = some r) : AC Try.prog 30 [(.d (.int .i64 a0))] [] (.d (.bool r)) [] := by
  refine AC.of_code2 Try.func30 rfl rfl (Nat.le_of_ble_eq_true (by rfl)) fun B hB hN => ?_
  delta invoice_month at h
  refine sr (c (OpJ.assign (ltN hN rfl) (Opd.bool false)) rfl cn) ?_
  refine gh [(0, _)] [] hB rfl rfl (by rfl) ?_
  refine sr (c (mv hN (q 0)) rfl (c (OpJ.geq (ltN hN rfl) (q 3) (Opd.int .i64 (1))) rfl (c (mv hN (q 4)) rfl (c (oq hN 5 (mv hN (q 0)) (OptL.keep (by rfl) OptL.nil) (GuardV.plain _)) rfl (c (oq hN 5 (OpJ.leq (ltN hN rfl) (q 6) (Opd.int .i64 (100000))) (OptL.opt OptL.nil) (GuardV.plain _)) rfl (c (OpJ.pickAnd rfl (ltN hN rfl) (q 5) (q 7)) rfl (c (OpJ.assign (ltN hN rfl) (q 8)) rfl cn))))))) ?_
  refine gh [(2, _)] [] hB rfl rfl (by rfl) ?_
  refine AWp.ret ?_
  obtain rfl := Option.some.inj h
  exact ⟨.inl rfl, _, _, (kp [(2, _)] [] hB rfl rfl (by rfl)), [(bo ((decide ((1 : Int) ≤ a0)) && (decide (a0 ≤ (100000 : Int)))))], (Res.tmp (by rfl) (by rfl) Res.nil), rfl, by rfl, by rfl, by rfl⟩

noncomputable def invoice_Make_1 (a0 : api_Series) (a1 : Int) : Option (Bool) :=
  some (a0.fPort == a1)
set_option maxHeartbeats 4000000 in
set_option maxRecDepth 100000 in
theorem invoice_Make_1_ac (a0 : api_Series) (a1 : Int) (r : Bool) (h : invoice_Make_1 a0 a1 = some r) : AC Try.prog 32 [(.d (e_api_Series a0)), (.ptr 0 0 [])] [(0, (.box 3 (.d (.int .i64 a1))))] (.d (.bool r)) [(0, some (.box 3 (.d (.int .i64 a1))))] := by
  refine AC.of_code2 Try.func32 rfl rfl (Nat.le_of_ble_eq_true (by rfl)) fun B hB hN => ?_
  delta invoice_Make_1 at h
  refine sr (cg (OpJ.box hB (nm := 1002) (by decide) (by simp) rfl (ltN hN rfl) (q 0)) rfl (c (OpJ.assign (ltN hN rfl) (Opd.bool false)) rfl cn)) ?_
  refine gh [(1, _), (2, _)] [(0, some _), (1002, some _)] hB rfl rfl (by rfl) ?_
  refine sr (c (ov (.ptr 1002 0 [0]) (fp hN Try.underlying31 0 tyS3 _ (q 2))) rfl (c (lb hN 31 _ _ tyS3 (ad _) (q 4)) rfl (c (lb hN 3 _ _ tyS3 (At.here _) (q 1)) rfl (c (OpJ.eqlI (ltN hN rfl) (q 5) (q 6)) rfl (c (OpJ.assign (ltN hN rfl) (q 7)) rfl cn))))) ?_
  refine gh [(3, _)] [(0, some _)] hB rfl rfl (by rfl) ?_
  refine AWp.ret ?_
  obtain rfl := Option.some.inj h
  exact ⟨.inl rfl, _, _, (kp [(3, _)] [(0, some _)] hB rfl rfl (by rfl)), [(bo (a0.fPort == a1))], (Res.tmp (by rfl) (by rfl) Res.nil), rfl, by rfl, by rfl, by rfl⟩

noncomputable def slices_IndexFunc_L0 (a0 : (List api_Series)) (a1 : Int) (s1 : Int) : Option (((Int) ⊕ (Unit)) ⊕ (Int)) :=
  (if (decide (s1 < (a0.length : Int))) = true then
  (idx a0 s1).bind fun x13 =>
  (invoice_Make_1 x13 a1).bind fun r14 =>
  (if r14 = true then
  some (.inl (.inl s1))
  else
  some (.inr (w64 (s1 + (1 : Int)))))
  else
  some (.inl (.inr ())))
noncomputable def slices_IndexFunc (a0 : (List api_Series)) (a1 : Int) : Option (Int) :=
  (loop (slices_IndexFunc_L0 a0 a1) (0 : Int)).bind fun x16 => match x16 with
  | (.inl p10) =>
    some p10
  | (.inr _) =>
    some (-1 : Int)
set_option maxHeartbeats 4000000 in
set_option maxRecDepth 100000 in
theorem slices_IndexFunc_ac (a0 : (List api_Series)) (a1 : Int) (r : Int) (h : slices_IndexFunc a0 a1 = some r) : AC Try.prog 31 [(.d (.list 4 (a0.map e_api_Series))), (.func 32 [(.ptr 0 0 [])])] [(0, (.box 3 (.d (.int .i64 a1))))] (.d (.int .i64 r)) [(0, some (.box 3 (.d (.int .i64 a1))))] := by
  refine AC.of_code2 Try.func31 rfl rfl (Nat.le_of_ble_eq_true (by rfl)) fun B hB hN => ?_
  delta slices_IndexFunc at h
  refine sr (c (OpJ.assign (ltN hN rfl) (Opd.int .i64 (0))) rfl cn) ?_
  refine gh [(0, _), (1, _)] [(0, some _)] hB rfl rfl (by rfl) ?_
  refine AWp.seq ?_
  refine sr (c (mv hN (q 0)) rfl (c (OpJ.val (v' := (i6 (a0.length : Int))) (by simp) (OpJ.lenD Try.underlying25 (ltN hN rfl) (q 6))) rfl (c (mv hN (Opd.int .i64 (0))) rfl cn))) ?_
  refine gh [(0, _), (1, _), (7, _), (8, _)] [(0, some _)] hB rfl rfl (by rfl) ?_
  refine AWp.block ?_
  obtain ⟨x16, hx17, h⟩ := bindS h
  refine lg (slices_IndexFunc_L0 a0 a1) (fun s1 : Int => ([(0, (qe_api_Series_4 a0)), (1, (.func 32 [(.ptr 0 0 [])])), (7, (i6 (a0.length : Int))), (8, (i6 s1))] : EL)) (fun s1 : Int => ([(0, some (.box 3 (i6 a1)))] : OL)) (fun (x : (Int) ⊕ (Unit)) e E' O' => match x with | (.inl p10) => e = .ret ∧ Mat B E' O' ([(4, (i6 p10))] : EL) ([(0, some (.box 3 (i6 a1)))] : OL) | (.inr _p) => e = .exit 0 ∧ Mat B E' O' ([] : EL) ([(0, some (.box 3 (i6 a1)))] : OL)) hx17 (mp [] _ _ hB) (fun s1 y h => ?_) (fun e E' O' hR => ?_)
  · unfold slices_IndexFunc_L0 at h
    refine sr (c (OpJ.lss (ltN hN rfl) (q 8) (q 7)) rfl cn) ?_
    refine gh [(0, _), (1, _), (7, _), (8, _), (9, _)] [(0, some _)] hB rfl rfl (by rfl) ?_
    refine AWp.seq ?_
    refine AWp.cond rfl (fun hg12 => ?_) (fun hg12 => ?_)
    · replace h := ite_t hg12 h
      refine AWp.skip ?_
      refine seqQ_n ?_
      refine AWp.seq ?_
      refine AWp.block ?_
      refine sr (c (mv hN (q 8)) rfl (c (OpJ.assign (ltN hN rfl) (q 10)) rfl cn)) ?_
      refine gh [(0, _), (1, _), (5, _), (7, _), (8, _)] [(0, some _)] hB rfl rfl (by rfl) ?_
      refine AWp.seq ?_
      obtain ⟨x13, hx13, h⟩ := bindS h
      obtain ⟨r14, hr14, h⟩ := bindS h
      refine AWp.region (oc (mv hN (ot 1 (.func 32 [(.ptr 0 0 [])])))
        (oc (mv hN (ot 0 (qe_api_Series_4 a0)))
        (oc (mv hN (ot 5 (i6 s1)))
        (oc (OpJ.indexD (el := (e_api_Series x13)) Try.underlying25 tyS31 (idx_some hx13).1 (get_map e_api_Series (idx_some hx13).2) (ltN hN rfl) (ot 12 (qe_api_Series_4 a0)) (ot 13 (i6 s1)))
        (oc (OpJ.loadD tyS31 (by rfl) (by rfl) (ltN hN rfl) (ot 14 (.dptr (e_api_Series x13))))
        (oc (OpJ.callVal (args := [(.d (e_api_Series x13))]) (caps := [(.ptr 0 0 [])]) hB fnOk32 [(0, 0)] (invoice_Make_1_ac x13 a1 r14 hr14) (by kernel_rfl) (ltN hN rfl) (by kernel_rfl) (by kernel_rfl) (OpdL.cons (ot 15 (.d (e_api_Series x13))) OpdL.nil))
        (OpJs.nil))))))) (by rfl) (by rfl) ?_
      refine seqQ_n ?_
      refine AWp.ghost (mp [] [(0, (qe_api_Series_4 a0)), (1, (.func 32 [(.ptr 0 0 [])])), (5, (i6 s1)), (7, (i6 (a0.length : Int))), (8, (i6 s1)), (16, (bo r14))] [(0, some (.box 3 (i6 a1)))] hB) ?_
      refine AWp.cond rfl (fun hg15 => ?_) (fun hg15 => ?_)
      · replace h := ite_t hg15 h
        refine sr (c (mv hN (q 5)) rfl (c (OpJ.assign (ltN hN rfl) (q 17)) rfl cn)) ?_
        refine gh [(4, _)] [(0, some _)] hB rfl rfl (by rfl) ?_
        refine AWp.ret ?_
        refine blkQ_r ?_
        refine seqQ_r ?_
        obtain rfl := Option.some.inj h
        exact ⟨(fun hc => by cases hc), rfl, (mp [] _ _ hB)⟩
      · replace h := ite_f hg15 h
        refine AWp.skip ?_
        refine blkQ_n ?_
        refine seqQ_n ?_
        refine rg (c (add6 (ltN hN rfl) (q 8) (Opd.int .i64 (1))) rfl (c (mv hN (q 18)) rfl cn)) ?_
        obtain rfl := Option.some.inj h
        exact ⟨rfl, (Mat.trans (mp [] [(0, (qe_api_Series_4 a0)), (1, (.func 32 [(.ptr 0 0 [])])), (7, (i6 (a0.length : Int))), (8, (i6 (w64 (s1 + (1 : Int)))))] [(0, some (.box 3 (i6 a1)))] hB) (mp [] _ _ hB))⟩
    · replace h := ite_f hg12 h
      refine AWp.exit ?_
      refine seqQ_e ?_
      obtain rfl := Option.some.inj h
      exact ⟨(fun hc => by cases hc), rfl, (mp [] _ _ hB)⟩
  · rcases x16 with p10 | _
    · obtain ⟨rfl, hmat⟩ := hR
      refine blkQ_r ?_
      refine seqQ_r ?_
      obtain rfl := Option.some.inj h
      exact ⟨.inl rfl, _, _, (Mat.trans hmat (mp [] [(4, (i6 p10))] [(0, some (.box 3 (i6 a1)))] hB)), [(i6 p10)], (Res.tmp (by rfl) (by rfl) Res.nil), rfl, by rfl, by rfl, by rfl⟩
    · obtain ⟨rfl, hmat⟩ := hR
      refine blkQ_hit ?_
      refine seqQ_n ?_
      refine AWp.ghost hmat ?_
      refine sr (c (OpJ.assign (ltN hN rfl) (Opd.int .i64 (-1))) rfl cn) ?_
      refine gh [(4, _)] [(0, some _)] hB rfl rfl (by rfl) ?_
      refine AWp.ret ?_
      obtain rfl := Option.some.inj h
      exact ⟨.inl rfl, _, _, (kp [(4, _)] [(0, some _)] hB rfl rfl (by rfl)), [(i6 (-1 : Int))], (Res.tmp (by rfl) (by rfl) Res.nil), rfl, by rfl, by rfl, by rfl⟩

noncomputable def percentile_length (a0 : Int) : Option (Bool) :=
  some ((decide ((1 : Int) ≤ a0)) && (decide (a0 ≤ (86400 : Int))))
set_option maxHeartbeats 4000000 in
set_option maxRecDepth 100000 in
theorem percentile_length_ac (a0 : Int) (r : Bool) (h : percentile_length a0 = some r) : AC Try.prog 60 [(.d (.int .i64 a0))] [] (.d (.bool r)) [] := by
  refine AC.of_code2 Try.func60 rfl rfl (Nat.le_of_ble_eq_true (by rfl)) fun B hB hN => ?_
  delta percentile_length at h
  refine sr (c (OpJ.assign (ltN hN rfl) (Opd.bool false)) rfl cn) ?_
  refine gh [(0, _)] [] hB rfl rfl (by rfl) ?_
  refine sr (c (mv hN (q 0)) rfl (c (OpJ.geq (ltN hN rfl) (q 3) (Opd.int .i64 (1))) rfl (c (mv hN (q 4)) rfl (c (oq hN 5 (mv hN (q 0)) (OptL.keep (by rfl) OptL.nil) (GuardV.plain _)) rfl (c (oq hN 5 (OpJ.leq (ltN hN rfl) (q 6) (Opd.int .i64 (86400))) (OptL.opt OptL.nil) (GuardV.plain _)) rfl (c (OpJ.pickAnd rfl (ltN hN rfl) (q 5) (q 7)) rfl (c (OpJ.assign (ltN hN rfl) (q 8)) rfl cn))))))) ?_
  refine gh [(2, _)] [] hB rfl rfl (by rfl) ?_
  refine AWp.ret ?_
  obtain rfl := Option.some.inj h
  exact ⟨.inl rfl, _, _, (kp [(2, _)] [] hB rfl rfl (by rfl)), [(bo ((decide ((1 : Int) ≤ a0)) && (decide (a0 ≤ (86400 : Int)))))], (Res.tmp (by rfl) (by rfl) Res.nil), rfl, by rfl, by rfl, by rfl⟩

noncomputable def percentile_bin (a0 : Int) : Option (Bool) :=
  some ((decide ((-1 : Int) ≤ a0)) && (decide (a0 ≤ (1125899906842624 : Int))))
set_option maxHeartbeats 4000000 in
set_option maxRecDepth 100000 in
theorem percentile_bin_ac (a0 : Int) (r : Bool) (h : percentile_bin a0 = some r) : AC Try.prog 61 [(.d (.int .i64 a0))] [] (.d (.bool r)) [] := by
  refine AC.of_code2 Try.func61 rfl rfl (Nat.le_of_ble_eq_true (by rfl)) fun B hB hN => ?_
  delta percentile_bin at h
  refine sr (c (OpJ.assign (ltN hN rfl) (Opd.bool false)) rfl cn) ?_
  refine gh [(0, _)] [] hB rfl rfl (by rfl) ?_
  refine sr (c (mv hN (q 0)) rfl (c (OpJ.geq (ltN hN rfl) (q 3) (Opd.int .i64 (-1))) rfl (c (mv hN (q 4)) rfl (c (oq hN 5 (mv hN (q 0)) (OptL.keep (by rfl) OptL.nil) (GuardV.plain _)) rfl (c (oq hN 5 (OpJ.leq (ltN hN rfl) (q 6) (Opd.int .i64 (1125899906842624))) (OptL.opt OptL.nil) (GuardV.plain _)) rfl (c (OpJ.pickAnd rfl (ltN hN rfl) (q 5) (q 7)) rfl (c (OpJ.assign (ltN hN rfl) (q 8)) rfl cn))))))) ?_
  refine gh [(2, _)] [] hB rfl rfl (by rfl) ?_
  refine AWp.ret ?_
  obtain rfl := Option.some.inj h
  exact ⟨.inl rfl, _, _, (kp [(2, _)] [] hB rfl rfl (by rfl)), [(bo ((decide ((-1 : Int) ≤ a0)) && (decide (a0 ≤ (1125899906842624 : Int)))))], (Res.tmp (by rfl) (by rfl) Res.nil), rfl, by rfl, by rfl, by rfl⟩

noncomputable def percentile_Valid_L0 (a0 : api_Series) (s6 : Int) : Option (((Unit) ⊕ (Unit)) ⊕ (Int)) :=
  (if (decide (s6 < (a0.fIn.length : Int))) = true then
  jn (fun m64 : Bool =>
  (if m64 = true then
  some (.inl (.inl ()))
  else
  some (.inr (w64 (s6 + (1 : Int)))))) (fun j65 =>
  (idx a0.fIn s6).bind fun x67 =>
  (percentile_bin x67).bind fun r68 =>
  (if (!r68) = true then
  j65 true
  else
  (idx a0.fOut s6).bind fun x70 =>
  (percentile_bin x70).bind fun r71 =>
  (if (!r71) = true then
  j65 true
  else
  (idx a0.fIn s6).bind fun x73 =>
  (idx a0.fOut s6).bind fun x74 =>
  j65 ((x73 == (-1 : Int)) != (x74 == (-1 : Int))))))
  else
  some (.inl (.inr ())))
noncomputable def percentile_Valid (a0 : api_Series) : Option (Bool) :=
  jn (fun m3 : Bool =>
  (if m3 = true then
  some false
  else
  (loop (percentile_Valid_L0 a0) (0 : Int)).bind fun x75 => match x75 with
  | (.inl _) =>
    some false
  | (.inr _) =>
    some true)) (fun j4 =>
  (if ((decide (a0.fPort < (1 : Int))) || (decide ((999 : Int) < a0.fPort))) = true then
  j4 true
  else
  (percentile_length a0.fSeconds).bind fun r78 =>
  j4 (((!r78) || ((a0.fIn.length : Int) != (a0.fOut.length : Int))) || (decide ((9000 : Int) < (a0.fIn.length : Int))))))
set_option maxHeartbeats 4000000 in
set_option maxRecDepth 100000 in
theorem percentile_Valid_ac (a0 : api_Series) (r : Bool) (h : percentile_Valid a0 = some r) : AC Try.prog 48 [(.d (e_api_Series a0))] [] (.d (.bool r)) [] := by
  refine AC.of_code2 Try.func48 rfl rfl (Nat.le_of_ble_eq_true (by rfl)) fun B hB hN => ?_
  have L {d : Nat} (h : Nat.blt d Try.f48.ntmps = true) : d < B.N := ltN hN h
  delta percentile_Valid at h
  refine sr (cg (OpJ.box hB (nm := 1001) (by decide) (by simp) rfl (L rfl) (q 0)) rfl (c (OpJ.assign (L rfl) (Opd.bool false)) rfl cn)) ?_
  refine gh [(1, _)] [(1001, some _)] hB rfl rfl (by rfl) ?_
  refine AWp.seq ?_
  refine AWp.seq ?_
  refine AWp.cut h (fun m3 : Bool => ([(1, (.ptr 1001 0 [])), (32, (bo m3))] : EL)) (fun m3 : Bool => ([(1001, some (.box 31 (.d (e_api_Series a0))))] : OL)) (fun m3 h E' O' hmat => ?_) (fun j4 hjj4 h => ?_)
  · refine seqQ_n ?_
    refine AWp.ghost hmat ?_
    refine AWp.cond rfl (fun hg5 => ?_) (fun hg5 => ?_)
    · replace h := ite_t hg5 h
      refine sr (c (OpJ.assign (L rfl) (Opd.bool false)) rfl cn) ?_
      refine gh [(2, _)] [] hB rfl rfl (by rfl) ?_
      refine AWp.ret ?_
      refine seqQ_r ?_
      obtain rfl := Option.some.inj h
      exact ⟨.inl rfl, _, _, (kp [(2, _)] [] hB rfl rfl (by rfl)), [(bo false)], (Res.tmp (by rfl) (by rfl) Res.nil), rfl, by rfl, by rfl, by rfl⟩
    · replace h := ite_f hg5 h
      refine AWp.skip ?_
      refine seqQ_n ?_
      refine AWp.seq ?_
      refine sr (c (ov (.ptr 1001 2 [2]) (fp hN Try.underlying31 2 tyS28 _ (q 1))) rfl (c (lb hN 31 _ _ tyS28 (ad _) (q 33)) rfl (c (OpJ.val (v' := (i6 (a0.fIn.length : Int))) (by simp) (OpJ.lenD Try.underlying28 (L rfl) (q 34))) rfl (c (mv hN (Opd.int .i64 (0))) rfl cn)))) ?_
      refine gh [(1, _), (35, _), (36, _)] [(1001, some _)] hB rfl rfl (by rfl) ?_
      refine AWp.block ?_
      obtain ⟨x75, hx76, h⟩ := bindS h
      refine lg (percentile_Valid_L0 a0) (fun s6 : Int => ([(1, (.ptr 1001 0 [])), (35, (i6 (a0.fIn.length : Int))), (36, (i6 s6))] : EL)) (fun s6 : Int => ([(1001, some (.box 31 (.d (e_api_Series a0))))] : OL)) (fun (x : (Unit) ⊕ (Unit)) e E' O' => match x with | (.inl _p) => e = .ret ∧ Mat B E' O' ([(2, (bo false))] : EL) ([] : OL) | (.inr _p) => e = .exit 0 ∧ Mat B E' O' ([] : EL) ([] : OL)) hx76 (mp [] _ _ hB) (fun s6 y h => ?_) (fun e E' O' hR => ?_)
      · unfold percentile_Valid_L0 at h
        refine sr (c (OpJ.lss (L rfl) (q 36) (q 35)) rfl cn) ?_
        refine gh [(1, _), (35, _), (36, _), (37, _)] [(1001, some _)] hB rfl rfl (by rfl) ?_
        refine AWp.seq ?_
        refine AWp.cond rfl (fun hg53 => ?_) (fun hg53 => ?_)
        · replace h := ite_t hg53 h
          refine AWp.skip ?_
          refine seqQ_n ?_
          refine AWp.seq ?_
          refine AWp.block ?_
          refine sr (c (mv hN (q 36)) rfl (c (OpJ.assign (L rfl) (q 38)) rfl cn)) ?_
          refine gh [(1, _), (3, _), (35, _), (36, _)] [(1001, some _)] hB rfl rfl (by rfl) ?_
          refine AWp.seq ?_
          refine AWp.cut h (fun m64 : Bool => ([(1, (.ptr 1001 0 [])), (35, (i6 (a0.fIn.length : Int))), (36, (i6 s6)), (69, (bo m64))] : EL)) (fun m64 : Bool => ([(1001, some (.box 31 (.d (e_api_Series a0))))] : OL)) (fun m64 h E' O' hmat => ?_) (fun j65 hjj65 h => ?_)
          · refine seqQ_n ?_
            refine AWp.ghost hmat ?_
            refine AWp.cond rfl (fun hg66 => ?_) (fun hg66 => ?_)
            · replace h := ite_t hg66 h
              refine sr (c (OpJ.assign (L rfl) (Opd.bool false)) rfl cn) ?_
              refine gh [(2, _)] [] hB rfl rfl (by rfl) ?_
              refine AWp.ret ?_
              refine blkQ_r ?_
              refine seqQ_r ?_
              obtain rfl := Option.some.inj h
              exact ⟨(fun hc => by cases hc), rfl, (mp [] _ _ hB)⟩
            · replace h := ite_f hg66 h
              refine AWp.skip ?_
              refine blkQ_n ?_
              refine seqQ_n ?_
              refine rg (c (add6 (L rfl) (q 36) (Opd.int .i64 (1))) rfl (c (mv hN (q 70)) rfl cn)) ?_
              obtain rfl := Option.some.inj h
              exact ⟨rfl, (Mat.trans (mp [] [(1, (.ptr 1001 0 [])), (35, (i6 (a0.fIn.length : Int))), (36, (i6 (w64 (s6 + (1 : Int)))))] [(1001, some (.box 31 (.d (e_api_Series a0))))] hB) (mp [] _ _ hB))⟩
          · obtain ⟨x67, hx67, h⟩ := bindS h
            obtain ⟨r68, hr68, h⟩ := bindS h
            rcases Bool.eq_false_or_eq_true (!r68) with hg69 | hg69
            · replace h := ite_t hg69 h
              refine dr (c (ov (.ptr 1001 2 [2]) (fp hN Try.underlying31 2 tyS28 _ (q 1))) rfl (c (lb hN 31 _ _ tyS28 (ad _) (q 39)) rfl (c (mv hN (q 3)) rfl (c (OpJ.indexD Try.underlying28 tyS3 (idx_some hx67).1 (get_map (eI .i64) (idx_some hx67).2) (L rfl) (q 40) (q 41)) rfl (c (OpJ.loadD tyS3 (by rfl) (by rfl) (L rfl) (q 42)) rfl (cg (OpJ.callFn hB fnOk61 (percentile_bin_ac x67 r68 hr68) [] (by kernel_rfl) (L rfl) (by kernel_rfl) (OpdL.cons (q 43) OpdL.nil)) rfl (c (OpJ.not (L rfl) (q 44)) rfl (c (OpJ.val (v' := .d (.bool true)) (by rw [hg69]) (mv hN (q 45))) rfl (cg (OpJ.skipU (g := 46) (L rfl) (by rfl)) rfl (cg (OpJ.skipU (g := 46) (L rfl) (by rfl)) rfl (cg (OpJ.skipU (g := 46) (L rfl) (by rfl)) rfl (cg (OpJ.skipU (g := 46) (L rfl) (by rfl)) rfl (cg (OpJ.skipU (g := 46) (L rfl) (by rfl)) rfl (cg (OpJ.skipU (g := 46) (L rfl) (by rfl)) rfl (cg (OpJ.skipU (g := 46) (L rfl) (by rfl)) rfl (c (OpJ.pickT (L rfl) (q 46) (Opd.bool true)) rfl (c (mv hN (q 54)) rfl (cg (OpJ.skipU (g := 55) (L rfl) (by rfl)) rfl (cg (OpJ.skipU (g := 55) (L rfl) (by rfl)) rfl (cg (OpJ.skipU (g := 55) (L rfl) (by rfl)) rfl (cg (OpJ.skipU (g := 55) (L rfl) (by rfl)) rfl (cg (OpJ.skipU (g := 55) (L rfl) (by rfl)) rfl (cg (OpJ.skipU (g := 55) (L rfl) (by rfl)) rfl (cg (OpJ.skipU (g := 55) (L rfl) (by rfl)) rfl (cg (OpJ.skipU (g := 55) (L rfl) (by rfl)) rfl (cg (OpJ.skipU (g := 55) (L rfl) (by rfl)) rfl (cg (OpJ.skipU (g := 55) (L rfl) (by rfl)) rfl (cg (OpJ.skipU (g := 55) (L rfl) (by rfl)) rfl (cg (OpJ.skipU (g := 55) (L rfl) (by rfl)) rfl (cg (OpJ.skipU (g := 55) (L rfl) (by rfl)) rfl (c (OpJ.pickT (L rfl) (q 55) (Opd.bool true)) rfl cn))))))))))))))))))))))))))))))) (by kernel_rfl) (by kernel_rfl) ?_
              exact hjj65 _ h _ _ (Mat.trans (mp [] [(1, (.ptr 1001 0 [])), (35, (i6 (a0.fIn.length : Int))), (36, (i6 s6)), (69, (bo true))] [(1001, some (.box 31 (.d (e_api_Series a0))))] hB) (mp [] _ _ hB))
            · replace h := ite_f hg69 h
              obtain ⟨x70, hx70, h⟩ := bindS h
              obtain ⟨r71, hr71, h⟩ := bindS h
              rcases Bool.eq_false_or_eq_true (!r71) with hg72 | hg72
              · replace h := ite_t hg72 h
                refine dr (c (ov (.ptr 1001 2 [2]) (fp hN Try.underlying31 2 tyS28 _ (q 1))) rfl (c (lb hN 31 _ _ tyS28 (ad _) (q 39)) rfl (c (mv hN (q 3)) rfl (c (OpJ.indexD Try.underlying28 tyS3 (idx_some hx67).1 (get_map (eI .i64) (idx_some hx67).2) (L rfl) (q 40) (q 41)) rfl (c (OpJ.loadD tyS3 (by rfl) (by rfl) (L rfl) (q 42)) rfl (cg (OpJ.callFn hB fnOk61 (percentile_bin_ac x67 r68 hr68) [] (by kernel_rfl) (L rfl) (by kernel_rfl) (OpdL.cons (q 43) OpdL.nil)) rfl (c (OpJ.not (L rfl) (q 44)) rfl (c (OpJ.val (v' := .d (.bool false)) (by rw [hg69]) (mv hN (q 45))) rfl (c (OpJ.guarded (g := 46) (by rfl) (ov (.ptr 1001 3 [3]) (fp hN Try.underlying31 3 tyS28 _ (q 1)))) rfl (c (OpJ.guarded (g := 46) (by rfl) (lb hN 31 _ _ tyS28 (ad _) (q 47))) rfl (c (OpJ.guarded (g := 46) (by rfl) (mv hN (q 3))) rfl (c (OpJ.guarded (g := 46) (by rfl) (OpJ.indexD Try.underlying28 tyS3 (idx_some hx70).1 (get_map (eI .i64) (idx_some hx70).2) (L rfl) (q 48) (q 49))) rfl (c (OpJ.guarded (g := 46) (by rfl) (OpJ.loadD tyS3 (by rfl) (by rfl) (L rfl) (q 50))) rfl (cg (OpJ.guarded (g := 46) (by rfl) (OpJ.callFn hB fnOk61 (percentile_bin_ac x70 r71 hr71) [] (by kernel_rfl) (L rfl) (by kernel_rfl) (OpdL.cons (q 51) OpdL.nil))) rfl (c (OpJ.guarded (g := 46) (by rfl) (OpJ.not (L rfl) (q 52))) rfl (c (OpJ.pickF (L rfl) (q 46) (q 53)) rfl (c (OpJ.val (v' := .d (.bool true)) (by rw [hg72]) (mv hN (q 54))) rfl (cg (OpJ.skipU (g := 55) (L rfl) (by rfl)) rfl (cg (OpJ.skipU (g := 55) (L rfl) (by rfl)) rfl (cg (OpJ.skipU (g := 55) (L rfl) (by rfl)) rfl (cg (OpJ.skipU (g := 55) (L rfl) (by rfl)) rfl (cg (OpJ.skipU (g := 55) (L rfl) (by rfl)) rfl (cg (OpJ.skipU (g := 55) (L rfl) (by rfl)) rfl (cg (OpJ.skipU (g := 55) (L rfl) (by rfl)) rfl (cg (OpJ.skipU (g := 55) (L rfl) (by rfl)) rfl (cg (OpJ.skipU (g := 55) (L rfl) (by rfl)) rfl (cg (OpJ.skipU (g := 55) (L rfl) (by rfl)) rfl (cg (OpJ.skipU (g := 55) (L rfl) (by rfl)) rfl (cg (OpJ.skipU (g := 55) (L rfl) (by rfl)) rfl (cg (OpJ.skipU (g := 55) (L rfl) (by rfl)) rfl (c (OpJ.pickT (L rfl) (q 55) (Opd.bool true)) rfl cn))))))))))))))))))))))))))))))) (by kernel_rfl) (by kernel_rfl) ?_
                exact hjj65 _ h _ _ (Mat.trans (mp [] [(1, (.ptr 1001 0 [])), (35, (i6 (a0.fIn.length : Int))), (36, (i6 s6)), (69, (bo true))] [(1001, some (.box 31 (.d (e_api_Series a0))))] hB) (mp [] _ _ hB))
              · replace h := ite_f hg72 h
                obtain ⟨x73, hx73, h⟩ := bindS h
                obtain ⟨x74, hx74, h⟩ := bindS h
                refine dr (c (ov (.ptr 1001 2 [2]) (fp hN Try.underlying31 2 tyS28 _ (q 1))) rfl (c (lb hN 31 _ _ tyS28 (ad _) (q 39)) rfl (c (mv hN (q 3)) rfl (c (OpJ.indexD Try.underlying28 tyS3 (idx_some hx67).1 (get_map (eI .i64) (idx_some hx67).2) (L rfl) (q 40) (q 41)) rfl (c (OpJ.loadD tyS3 (by rfl) (by rfl) (L rfl) (q 42)) rfl (cg (OpJ.callFn hB fnOk61 (percentile_bin_ac x67 r68 hr68) [] (by kernel_rfl) (L rfl) (by kernel_rfl) (OpdL.cons (q 43) OpdL.nil)) rfl (c (OpJ.not (L rfl) (q 44)) rfl (c (OpJ.val (v' := .d (.bool false)) (by rw [hg69]) (mv hN (q 45))) rfl (c (OpJ.guarded (g := 46) (by rfl) (ov (.ptr 1001 3 [3]) (fp hN Try.underlying31 3 tyS28 _ (q 1)))) rfl (c (OpJ.guarded (g := 46) (by rfl) (lb hN 31 _ _ tyS28 (ad _) (q 47))) rfl (c (OpJ.guarded (g := 46) (by rfl) (mv hN (q 3))) rfl (c (OpJ.guarded (g := 46) (by rfl) (OpJ.indexD Try.underlying28 tyS3 (idx_some hx70).1 (get_map (eI .i64) (idx_some hx70).2) (L rfl) (q 48) (q 49))) rfl (c (OpJ.guarded (g := 46) (by rfl) (OpJ.loadD tyS3 (by rfl) (by rfl) (L rfl) (q 50))) rfl (cg (OpJ.guarded (g := 46) (by rfl) (OpJ.callFn hB fnOk61 (percentile_bin_ac x70 r71 hr71) [] (by kernel_rfl) (L rfl) (by kernel_rfl) (OpdL.cons (q 51) OpdL.nil))) rfl (c (OpJ.guarded (g := 46) (by rfl) (OpJ.not (L rfl) (q 52))) rfl (c (OpJ.pickF (L rfl) (q 46) (q 53)) rfl (c (OpJ.val (v' := .d (.bool false)) (by rw [hg72]) (mv hN (q 54))) rfl (c (OpJ.guarded (g := 55) (by rfl) (ov (.ptr 1001 2 [2]) (fp hN Try.underlying31 2 tyS28 _ (q 1)))) rfl (c (OpJ.guarded (g := 55) (by rfl) (lb hN 31 _ _ tyS28 (ad _) (q 56))) rfl (c (OpJ.guarded (g := 55) (by rfl) (mv hN (q 3))) rfl (c (OpJ.guarded (g := 55) (by rfl) (OpJ.indexD Try.underlying28 tyS3 (idx_some hx73).1 (get_map (eI .i64) (idx_some hx73).2) (L rfl) (q 57) (q 58))) rfl (c (OpJ.guarded (g := 55) (by rfl) (OpJ.loadD tyS3 (by rfl) (by rfl) (L rfl) (q 59))) rfl (c (OpJ.guarded (g := 55) (by rfl) (OpJ.eqlI (L rfl) (q 60) (Opd.int .i64 (-1)))) rfl (c (OpJ.guarded (g := 55) (by rfl) (ov (.ptr 1001 3 [3]) (fp hN Try.underlying31 3 tyS28 _ (q 1)))) rfl (c (OpJ.guarded (g := 55) (by rfl) (lb hN 31 _ _ tyS28 (ad _) (q 62))) rfl (c (OpJ.guarded (g := 55) (by rfl) (mv hN (q 3))) rfl (c (OpJ.guarded (g := 55) (by rfl) (OpJ.indexD Try.underlying28 tyS3 (idx_some hx74).1 (get_map (eI .i64) (idx_some hx74).2) (L rfl) (q 63) (q 64))) rfl (c (OpJ.guarded (g := 55) (by rfl) (OpJ.loadD tyS3 (by rfl) (by rfl) (L rfl) (q 65))) rfl (c (OpJ.guarded (g := 55) (by rfl) (OpJ.eqlI (L rfl) (q 66) (Opd.int .i64 (-1)))) rfl (c (OpJ.guarded (g := 55) (by rfl) (OpJ.neqB Try.underlying4 (L rfl) (q 61) (q 67))) rfl (c (OpJ.pickF (L rfl) (q 55) (q 68)) rfl cn))))))))))))))))))))))))))))))) (by kernel_rfl) (by kernel_rfl) ?_
                exact hjj65 _ h _ _ (Mat.trans (mp [] [(1, (.ptr 1001 0 [])), (35, (i6 (a0.fIn.length : Int))), (36, (i6 s6)), (69, (bo ((x73 == (-1 : Int)) != (x74 == (-1 : Int)))))] [(1001, some (.box 31 (.d (e_api_Series a0))))] hB) (mp [] _ _ hB))
        · replace h := ite_f hg53 h
          refine AWp.exit ?_
          refine seqQ_e ?_
          obtain rfl := Option.some.inj h
          exact ⟨(fun hc => by cases hc), rfl, (mp [] _ _ hB)⟩
      · rcases x75 with _ | _
        · obtain ⟨rfl, hmat⟩ := hR
          refine blkQ_r ?_
          refine seqQ_r ?_
          obtain rfl := Option.some.inj h
          exact ⟨.inl rfl, _, _, (Mat.trans hmat (mp [] [(2, (bo false))] [] hB)), [(bo false)], (Res.tmp (by rfl) (by rfl) Res.nil), rfl, by rfl, by rfl, by rfl⟩
        · obtain ⟨rfl, hmat⟩ := hR
          refine blkQ_hit ?_
          refine seqQ_n ?_
          refine AWp.ghost hmat ?_
          refine sr (c (OpJ.assign (L rfl) (Opd.bool true)) rfl cn) ?_
          refine gh [(2, _)] [] hB rfl rfl (by rfl) ?_
          refine AWp.ret ?_
          obtain rfl := Option.some.inj h
          exact ⟨.inl rfl, _, _, (kp [(2, _)] [] hB rfl rfl (by rfl)), [(bo true)], (Res.tmp (by rfl) (by rfl) Res.nil), rfl, by rfl, by rfl, by rfl⟩
  · rcases Bool.eq_false_or_eq_true ((decide (a0.fPort < (1 : Int))) || (decide ((999 : Int) < a0.fPort))) with hg77 | hg77
    · replace h := ite_t hg77 h
      refine rg (c (ov (.ptr 1001 0 [0]) (fp hN Try.underlying31 0 tyS3 _ (q 1))) rfl (c (lb hN 31 _ _ tyS3 (ad _) (q 4)) rfl (c (OpJ.lss (L rfl) (q 5) (Opd.int .i64 (1))) rfl (c (mv hN (q 6)) rfl (c (oq hN 7 (ov (.ptr 1001 0 [0]) (fp hN Try.underlying31 0 tyS3 _ (q 1))) (OptL.keep (by rfl) OptL.nil) (GuardV.plain _)) rfl (c (oq hN 7 (lb hN 31 _ _ tyS3 (ad _) (q 8)) (OptL.opt OptL.nil) (GuardV.plain _)) rfl (c (oq hN 7 (OpJ.gtr (L rfl) (q 9) (Opd.int .i64 (999))) (OptL.opt OptL.nil) (GuardV.plain _)) rfl (c (OpJ.pickOr rfl (L rfl) (q 7) (q 10)) rfl (c (OpJ.val (v' := .d (.bool true)) (by rw [hg77]) (mv hN (q 11))) rfl (cg (OpJ.skipU (g := 12) (L rfl) (by rfl)) rfl (cg (OpJ.skipU (g := 12) (L rfl) (by rfl)) rfl (cg (OpJ.skipU (g := 12) (L rfl) (by rfl)) rfl (cg (OpJ.skipU (g := 12) (L rfl) (by rfl)) rfl (c (OpJ.pickT (L rfl) (q 12) (Opd.bool true)) rfl (c (mv hN (q 17)) rfl (cg (OpJ.skipU (g := 18) (L rfl) (by rfl)) rfl (cg (OpJ.skipU (g := 18) (L rfl) (by rfl)) rfl (cg (OpJ.skipU (g := 18) (L rfl) (by rfl)) rfl (cg (OpJ.skipU (g := 18) (L rfl) (by rfl)) rfl (cg (OpJ.skipU (g := 18) (L rfl) (by rfl)) rfl (cg (OpJ.skipU (g := 18) (L rfl) (by rfl)) rfl (cg (OpJ.skipU (g := 18) (L rfl) (by rfl)) rfl (c (OpJ.pickT (L rfl) (q 18) (Opd.bool true)) rfl (c (mv hN (q 26)) rfl (cg (OpJ.skipU (g := 27) (L rfl) (by rfl)) rfl (cg (OpJ.skipU (g := 27) (L rfl) (by rfl)) rfl (cg (OpJ.skipU (g := 27) (L rfl) (by rfl)) rfl (cg (OpJ.skipU (g := 27) (L rfl) (by rfl)) rfl (c (OpJ.pickT (L rfl) (q 27) (Opd.bool true)) rfl cn))))))))))))))))))))))))))))) ?_
      exact hjj4 _ h _ _ (Mat.trans (mp [] [(1, (.ptr 1001 0 [])), (32, (bo true))] [(1001, some (.box 31 (.d (e_api_Series a0))))] hB) (mp [] _ _ hB))
    · replace h := ite_f hg77 h
      obtain ⟨r78, hr78, h⟩ := bindS h
      refine rg (c (ov (.ptr 1001 0 [0]) (fp hN Try.underlying31 0 tyS3 _ (q 1))) rfl (c (lb hN 31 _ _ tyS3 (ad _) (q 4)) rfl (c (OpJ.lss (L rfl) (q 5) (Opd.int .i64 (1))) rfl (c (mv hN (q 6)) rfl (c (oq hN 7 (ov (.ptr 1001 0 [0]) (fp hN Try.underlying31 0 tyS3 _ (q 1))) (OptL.keep (by rfl) OptL.nil) (GuardV.plain _)) rfl (c (oq hN 7 (lb hN 31 _ _ tyS3 (ad _) (q 8)) (OptL.opt OptL.nil) (GuardV.plain _)) rfl (c (oq hN 7 (OpJ.gtr (L rfl) (q 9) (Opd.int .i64 (999))) (OptL.opt OptL.nil) (GuardV.plain _)) rfl (c (OpJ.pickOr rfl (L rfl) (q 7) (q 10)) rfl (c (OpJ.val (v' := .d (.bool false)) (by rw [hg77]) (mv hN (q 11))) rfl (c (OpJ.guarded (g := 12) (by rfl) (ov (.ptr 1001 1 [1]) (fp hN Try.underlying31 1 tyS3 _ (q 1)))) rfl (c (OpJ.guarded (g := 12) (by rfl) (lb hN 31 _ _ tyS3 (ad _) (q 13))) rfl (cg (OpJ.guarded (g := 12) (by rfl) (OpJ.callFn hB fnOk60 (percentile_length_ac a0.fSeconds r78 hr78) [] (by kernel_rfl) (L rfl) (by kernel_rfl) (OpdL.cons (q 14) OpdL.nil))) rfl (c (OpJ.guarded (g := 12) (by rfl) (OpJ.not (L rfl) (q 15))) rfl (c (OpJ.pickF (L rfl) (q 12) (q 16)) rfl (c (mv hN (q 17)) rfl (c (oq hN 18 (ov (.ptr 1001 2 [2]) (fp hN Try.underlying31 2 tyS28 _ (q 1))) (OptL.keep (by rfl) OptL.nil) (GuardV.plain _)) rfl (c (oq hN 18 (lb hN 31 _ _ tyS28 (ad _) (q 19)) (OptL.opt OptL.nil) (GuardV.plain _)) rfl (c (oq hN 18 (OpJ.val (v' := (i6 (a0.fIn.length : Int))) (by simp) (OpJ.lenD Try.underlying28 (L rfl) (q 20))) (OptL.opt OptL.nil) (GuardV.plain _)) rfl (c (oq hN 18 (ov (.ptr 1001 3 [3]) (fp hN Try.underlying31 3 tyS28 _ (q 1))) (OptL.keep (by rfl) OptL.nil) (GuardV.plain _)) rfl (c (oq hN 18 (lb hN 31 _ _ tyS28 (ad _) (q 22)) (OptL.opt OptL.nil) (GuardV.plain _)) rfl (c (oq hN 18 (OpJ.val (v' := (i6 (a0.fOut.length : Int))) (by simp) (OpJ.lenD Try.underlying28 (L rfl) (q 23))) (OptL.opt OptL.nil) (GuardV.plain _)) rfl (c (oq hN 18 (OpJ.neqI (L rfl) (q 21) (q 24)) (OptL.opt (OptL.opt OptL.nil)) (GuardV.plain _)) rfl (c (OpJ.pickOr rfl (L rfl) (q 18) (q 25)) rfl (c (mv hN (q 26)) rfl (c (oq hN 27 (ov (.ptr 1001 2 [2]) (fp hN Try.underlying31 2 tyS28 _ (q 1))) (OptL.keep (by rfl) OptL.nil) (GuardV.plain _)) rfl (c (oq hN 27 (lb hN 31 _ _ tyS28 (ad _) (q 28)) (OptL.opt OptL.nil) (GuardV.plain _)) rfl (c (oq hN 27 (OpJ.val (v' := (i6 (a0.fIn.length : Int))) (by simp) (OpJ.lenD Try.underlying28 (L rfl) (q 29))) (OptL.opt OptL.nil) (GuardV.plain _)) rfl (c (oq hN 27 (OpJ.gtr (L rfl) (q 30) (Opd.int .i64 (9000))) (OptL.opt OptL.nil) (GuardV.plain _)) rfl (c (OpJ.pickOr rfl (L rfl) (q 27) (q 31)) rfl cn))))))))))))))))))))))))))))) ?_
      exact hjj4 _ h _ _ (Mat.trans (mp [] [(1, (.ptr 1001 0 [])), (32, (bo (((!r78) || ((a0.fIn.length : Int) != (a0.fOut.length : Int))) || (decide ((9000 : Int) < (a0.fIn.length : Int))))))] [(1001, some (.box 31 (.d (e_api_Series a0))))] hB) (mp [] _ _ hB))

noncomputable def percentile_Rate (a0 : Int) (a1 : Int) : Option (Int × Int) :=
  jn (fun m3 : Bool =>
  (if m3 = true then
  some ((0 : Int), (1 : Int))
  else
  chk (decide ((w64 (a1 * (1000000 : Int))) ≠ 0)) <|
  some ((w64 (Int.tdiv (w64 ((w64 ((w64 ((8 : Int) * a0)) + (w64 (a1 * (1000000 : Int))))) - (1 : Int))) (w64 (a1 * (1000000 : Int))))), (0 : Int)))) (fun j4 =>
  (if ((decide (a0 < (0 : Int))) || (decide ((1125899906842624 : Int) < a0))) = true then
  j4 true
  else
  (percentile_length a1).bind fun r8 =>
  j4 (!r8)))
set_option maxHeartbeats 4000000 in
set_option maxRecDepth 100000 in
theorem percentile_Rate_ac (a0 : Int) (a1 : Int) (r : Int × Int) (h : percentile_Rate a0 a1 = some r) : AC Try.prog 62 [(.d (.int .i64 a0)), (.d (.int .i64 a1))] [] (.tup [(.d (.int .i64 r.1)), (.d (.int .i64 r.2))]) [] := by
  refine AC.of_code2 Try.func62 rfl rfl (Nat.le_of_ble_eq_true (by rfl)) fun B hB hN => ?_
  have L {d : Nat} (h : Nat.blt d Try.f62.ntmps = true) : d < B.N := ltN hN h
  delta percentile_Rate at h
  refine sr (c (OpJ.assign (L rfl) (Opd.int .i64 (0))) rfl (c (OpJ.assign (L rfl) (Opd.int .i64 (0))) rfl cn)) ?_
  refine gh [(0, _), (1, _)] [] hB rfl rfl (by rfl) ?_
  refine AWp.seq ?_
  refine AWp.seq ?_
  refine AWp.cut h (fun m3 : Bool => ([(0, (i6 a0)), (1, (i6 a1)), (17, (bo m3))] : EL)) (fun m3 : Bool => ([] : OL)) (fun m3 h E' O' hmat => ?_) (fun j4 hjj4 h => ?_)
  · refine seqQ_n ?_
    refine AWp.ghost hmat ?_
    refine AWp.cond rfl (fun hg5 => ?_) (fun hg5 => ?_)
    · replace h := ite_t hg5 h
      refine sr (c (OpJ.assign (L rfl) (Opd.int .i64 (0))) rfl (c (OpJ.assign (L rfl) (Opd.int .i64 (1))) rfl cn)) ?_
      refine gh [(4, _), (5, _)] [] hB rfl rfl (by rfl) ?_
      refine AWp.ret ?_
      refine seqQ_r ?_
      obtain rfl := Option.some.inj h
      exact ⟨.inl rfl, _, _, (kp [(4, _), (5, _)] [] hB rfl rfl (by rfl)), [(i6 0), (i6 1)], (Res.tmp (by rfl) (by rfl) (Res.tmp (by rfl) (by rfl) Res.nil)), rfl, by rfl, by rfl, by rfl⟩
    · replace h := ite_f hg5 h
      refine AWp.skip ?_
      refine seqQ_n ?_
      refine sr (c (mv hN (q 1)) rfl (c (mul6 (L rfl) (q 18) (Opd.int .i64 (1000000))) rfl (c (OpJ.assign (L rfl) (q 19)) rfl cn))) ?_
      refine gh [(0, _), (6, _)] [] hB rfl rfl (by rfl) ?_
      obtain ⟨hc6, h⟩ := chk_some h
      refine sr (c (mv hN (q 0)) rfl (c (mul6 (L rfl) (Opd.int .i64 (8)) (q 20)) rfl (c (mv hN (q 6)) rfl (c (add6 (L rfl) (q 21) (q 22)) rfl (c (sub6 (L rfl) (q 23) (Opd.int .i64 (1))) rfl (c (mv hN (q 6)) rfl (c (quo6 (L rfl) (q 24) (q 25) (of_decide_eq_true hc6)) rfl (c (OpJ.assign (L rfl) (q 26)) rfl (c (OpJ.assign (L rfl) (Opd.int .i64 (0))) rfl cn))))))))) ?_
      refine gh [(4, _), (5, _)] [] hB rfl rfl (by rfl) ?_
      refine AWp.ret ?_
      obtain rfl := Option.some.inj h
      exact ⟨.inl rfl, _, _, (kp [(4, _), (5, _)] [] hB rfl rfl (by rfl)), [(i6 (w64 (Int.tdiv (w64 ((w64 ((w64 ((8 : Int) * a0)) + (w64 (a1 * (1000000 : Int))))) - (1 : Int))) (w64 (a1 * (1000000 : Int)))))), (i6 0)], (Res.tmp (by rfl) (by rfl) (Res.tmp (by rfl) (by rfl) Res.nil)), rfl, by rfl, by rfl, by rfl⟩
  · rcases Bool.eq_false_or_eq_true ((decide (a0 < (0 : Int))) || (decide ((1125899906842624 : Int) < a0))) with hg7 | hg7
    · replace h := ite_t hg7 h
      refine rg (c (mv hN (q 0)) rfl (c (OpJ.lss (L rfl) (q 7) (Opd.int .i64 (0))) rfl (c (mv hN (q 8)) rfl (c (oq hN 9 (mv hN (q 0)) (OptL.keep (by rfl) OptL.nil) (GuardV.plain _)) rfl (c (oq hN 9 (OpJ.gtr (L rfl) (q 10) (Opd.int .i64 (1125899906842624))) (OptL.opt OptL.nil) (GuardV.plain _)) rfl (c (OpJ.pickOr rfl (L rfl) (q 9) (q 11)) rfl (c (OpJ.val (v' := .d (.bool true)) (by rw [hg7]) (mv hN (q 12))) rfl (cg (OpJ.skipU (g := 13) (L rfl) (by rfl)) rfl (cg (OpJ.skipU (g := 13) (L rfl) (by rfl)) rfl (cg (OpJ.skipU (g := 13) (L rfl) (by rfl)) rfl (c (OpJ.pickT (L rfl) (q 13) (Opd.bool true)) rfl cn))))))))))) ?_
      exact hjj4 _ h _ _ (Mat.trans (mp [] [(0, (i6 a0)), (1, (i6 a1)), (17, (bo true))] [] hB) (mp [] _ _ hB))
    · replace h := ite_f hg7 h
      obtain ⟨r8, hr8, h⟩ := bindS h
      refine rg (c (mv hN (q 0)) rfl (c (OpJ.lss (L rfl) (q 7) (Opd.int .i64 (0))) rfl (c (mv hN (q 8)) rfl (c (oq hN 9 (mv hN (q 0)) (OptL.keep (by rfl) OptL.nil) (GuardV.plain _)) rfl (c (oq hN 9 (OpJ.gtr (L rfl) (q 10) (Opd.int .i64 (1125899906842624))) (OptL.opt OptL.nil) (GuardV.plain _)) rfl (c (OpJ.pickOr rfl (L rfl) (q 9) (q 11)) rfl (c (OpJ.val (v' := .d (.bool false)) (by rw [hg7]) (mv hN (q 12))) rfl (c (OpJ.guarded (g := 13) (by rfl) (mv hN (q 1))) rfl (cg (OpJ.guarded (g := 13) (by rfl) (OpJ.callFn hB fnOk60 (percentile_length_ac a1 r8 hr8) [] (by kernel_rfl) (L rfl) (by kernel_rfl) (OpdL.cons (q 14) OpdL.nil))) rfl (c (OpJ.guarded (g := 13) (by rfl) (OpJ.not (L rfl) (q 15))) rfl (c (OpJ.pickF (L rfl) (q 13) (q 16)) rfl cn))))))))))) ?_
      exact hjj4 _ h _ _ (Mat.trans (mp [] [(0, (i6 a0)), (1, (i6 a1)), (17, (bo (!r8)))] [] hB) (mp [] _ _ hB))

noncomputable def percentile_Rates_L0 (a0 : (List Int)) (a1 : Int) (s3 : Int × (List Int)) : Option (((Int) ⊕ ((List Int))) ⊕ (Int × (List Int))) :=
  (if (decide (s3.1 < (a0.length : Int))) = true then
  jn (fun m38 : (List Int) =>
  some (.inr ((w64 (s3.1 + (1 : Int))), m38))) (fun j39 =>
  (idx a0 s3.1).bind fun x40 =>
  (if (x40 == (-1 : Int)) = true then
  j39 s3.2
  else
  (percentile_Rate x40 a1).bind fun r42 =>
  (if (r42.2 != (0 : Int)) = true then
  some (.inl (.inl r42.2))
  else
  chk (decide ((s3.2 ++ ([r42.1] : List Int)).length ≤ LIM)) <|
  j39 (s3.2 ++ ([r42.1] : List Int)))))
  else
  some (.inl (.inr s3.2)))
noncomputable def percentile_Rates (a0 : (List Int)) (a1 : Int) : Option ((List Int) × Int) :=
  (percentile_length a1).bind fun r1 =>
  (if (!r1) = true then
  some (([] : List Int), (1 : Int))
  else
  (loop (percentile_Rates_L0 a0 a1) ((0 : Int), ([] : List Int))).bind fun x45 => match x45 with
  | (.inl p30) =>
    some (([] : List Int), p30)
  | (.inr p31) =>
    some (p31, (0 : Int)))
set_option maxHeartbeats 4000000 in
set_option maxRecDepth 100000 in
theorem percentile_Rates_ac (a0 : (List Int)) (a1 : Int) (r : (List Int) × Int) (h : percentile_Rates a0 a1 = some r) : AC Try.prog 49 [(.d (.list 1 (a0.map (eI .i64)))), (.d (.int .i64 a1))] [] (.tup [(.d (.list 1 (r.1.map (eI .i64)))), (.d (.int .i64 r.2))]) [] := by
  refine AC.of_code2 Try.func49 rfl rfl (Nat.le_of_ble_eq_true (by rfl)) fun B hB hN => ?_
  have L {d : Nat} (h : Nat.blt d Try.f49.ntmps = true) : d < B.N := ltN hN h
  delta percentile_Rates at h
  refine sr (c (OpJ.assign (L rfl) Opd.nils) rfl (c (OpJ.assign (L rfl) (Opd.int .i64 (0))) rfl cn)) ?_
  refine gh [(0, _), (1, _)] [] hB rfl rfl (by rfl) ?_
  refine AWp.seq ?_
  obtain ⟨r1, hr1, h⟩ := bindS h
  refine sr (c (mv hN (q 1)) rfl (cg (OpJ.callFn hB fnOk60 (percentile_length_ac a1 r1 hr1) [] (by kernel_rfl) (L rfl) (by kernel_rfl) (OpdL.cons (q 11) OpdL.nil)) rfl (c (OpJ.not (L rfl) (q 12)) rfl cn))) ?_
  refine gh [(0, _), (1, _), (13, _)] [] hB rfl rfl (by rfl) ?_
  refine AWp.cond rfl (fun hg2 => ?_) (fun hg2 => ?_)
  · replace h := ite_t hg2 h
    refine sr (c (OpJ.assign (L rfl) Opd.nils) rfl (c (OpJ.assign (L rfl) (Opd.int .i64 (1))) rfl cn)) ?_
    refine gh [(4, _), (5, _)] [] hB rfl rfl (by rfl) ?_
    refine AWp.ret ?_
    refine seqQ_r ?_
    obtain rfl := Option.some.inj h
    exact ⟨.inl rfl, _, _, (Mat.trans (Mat.coeP (Ts := [(4, (qI_1 ([] : List Int)))]) (Bs := []) (TwT.cons (x := .nils) (by rfl) (Tw.leaf ⟨_, (Co.nils 1), rfl⟩) TwT.nil) TwB.nil) (mp [] [(4, (qI_1 ([] : List Int))), (5, (i6 1))] [] hB)), [(qI_1 ([] : List Int)), (i6 1)], (Res.tmp (by rfl) (by rfl) (Res.tmp (by rfl) (by rfl) Res.nil)), rfl, by rfl, by rfl, by rfl⟩
  · replace h := ite_f hg2 h
    refine AWp.skip ?_
    refine seqQ_n ?_
    refine sr (c (OpJ.assign (L rfl) Opd.nils) rfl cn) ?_
    refine gh [(0, _), (1, _), (6, _)] [] hB rfl rfl (by rfl) ?_
    refine AWp.seq ?_
    refine sr (c (mv hN (q 0)) rfl (c (OpJ.val (v' := (i6 (a0.length : Int))) (by simp) (OpJ.lenD Try.underlying28 (L rfl) (q 14))) rfl (c (mv hN (Opd.int .i64 (0))) rfl cn))) ?_
    refine gh [(1, _), (6, _), (14, _), (15, _), (16, _)] [] hB rfl rfl (by rfl) ?_
    refine AWp.block ?_
    obtain ⟨x45, hx46, h⟩ := bindS h
    refine lg (percentile_Rates_L0 a0 a1) (fun s3 : Int × (List Int) => ([(1, (i6 a1)), (6, (.sref 3006 1 0 s3.2.length)), (14, (qI_1 a0)), (15, (i6 (a0.length : Int))), (16, (i6 s3.1))] : EL)) (fun s3 : Int × (List Int) => ([(3006, some (wI_3_1 s3.2))] : OL)) (fun (x : (Int) ⊕ ((List Int))) e E' O' => match x with | (.inl p30) => e = .ret ∧ Mat B E' O' ([(4, .nils), (5, (i6 p30))] : EL) ([] : OL) | (.inr p31) => e = .exit 0 ∧ Mat B E' O' ([(6, (.sref 3006 1 0 p31.length))] : EL) ([(3006, some (wI_3_1 p31))] : OL)) hx46 (Mat.trans (Mat.beginP (n := 3006) (e := 3) (sz := 1) (Ts := [(6, (.sref 3006 1 0 0))]) (Bs := []) hB (by decide) (by rfl) (by decide) (TwT.cons (x := .nils) (by rfl) (Tw.leaf ⟨rfl, rfl⟩) TwT.nil) TwB.nil) (mp [] _ _ hB)) (fun s3 y h => ?_) (fun e E' O' hR => ?_)
    · unfold percentile_Rates_L0 at h
      refine sr (c (OpJ.lss (L rfl) (q 16) (q 15)) rfl cn) ?_
      refine gh [(1, _), (6, _), (14, _), (15, _), (16, _), (17, _)] [(3006, some _)] hB rfl rfl (by rfl) ?_
      refine AWp.seq ?_
      refine AWp.cond rfl (fun hg32 => ?_) (fun hg32 => ?_)
      · replace h := ite_t hg32 h
        refine AWp.skip ?_
        refine seqQ_n ?_
        refine AWp.seq ?_
        refine AWp.cut h (fun m38 : (List Int) => ([(1, (i6 a1)), (6, (.sref 3006 1 0 m38.length)), (14, (qI_1 a0)), (15, (i6 (a0.length : Int))), (16, (i6 s3.1))] : EL)) (fun m38 : (List Int) => ([(3006, some (wI_3_1 m38))] : OL)) (fun m38 h E' O' hmat => ?_) (fun j39 hjj39 h => ?_)
        · refine seqQ_n ?_
          refine AWp.ghost hmat ?_
          refine rg (c (add6 (L rfl) (q 16) (Opd.int .i64 (1))) rfl (c (mv hN (q 35)) rfl cn)) ?_
          obtain rfl := Option.some.inj h
          exact ⟨rfl, (Mat.trans (mp [] [(1, (i6 a1)), (6, (.sref 3006 1 0 m38.length)), (14, (qI_1 a0)), (15, (i6 (a0.length : Int))), (16, (i6 (w64 (s3.1 + (1 : Int)))))] [(3006, some (wI_3_1 m38))] hB) (mp [] _ _ hB))⟩
        · refine AWp.block ?_
          obtain ⟨x40, hx40, h⟩ := bindS h
          refine sr (c (OpJ.indexD Try.underlying28 tyS3 (idx_some hx40).1 (get_map (eI .i64) (idx_some hx40).2) (L rfl) (q 14) (q 16)) rfl (c (OpJ.loadD tyS3 (by rfl) (by rfl) (L rfl) (q 18)) rfl (c (OpJ.assign (L rfl) (q 19)) rfl cn))) ?_
          refine gh [(1, _), (6, _), (8, _), (14, _), (15, _), (16, _)] [(3006, some _)] hB rfl rfl (by rfl) ?_
          refine AWp.seq ?_
          refine sr (c (mv hN (q 8)) rfl (c (OpJ.eqlI (L rfl) (q 20) (Opd.int .i64 (-1))) rfl cn)) ?_
          refine gh [(1, _), (6, _), (8, _), (14, _), (15, _), (16, _), (21, _)] [(3006, some _)] hB rfl rfl (by rfl) ?_
          refine AWp.cond rfl (fun hg41 => ?_) (fun hg41 => ?_)
          · replace h := ite_t hg41 h
            refine AWp.exit ?_
            refine seqQ_e ?_
            refine blkQ_hit ?_
            exact hjj39 _ h _ _ (mp [] _ _ hB)
          · replace h := ite_f hg41 h
            refine AWp.skip ?_
            refine seqQ_n ?_
            obtain ⟨r42, hr42, h⟩ := bindS h
            refine sr (c (mv hN (q 8)) rfl (c (mv hN (q 1)) rfl (cg (OpJ.callFn hB fnOk62 (percentile_Rate_ac x40 a1 r42 hr42) [] (by kernel_rfl) (L rfl) (by kernel_rfl) (OpdL.cons (q 23) (OpdL.cons (q 24) OpdL.nil))) rfl (c (mv hN (q 25)) rfl (c (OpJ.extract (by rfl) rfl (L rfl) (q 22)) rfl (c (OpJ.extract (by rfl) rfl (L rfl) (q 22)) rfl (c (OpJ.assign (L rfl) (q 26)) rfl (c (OpJ.assign (L rfl) (q 27)) rfl cn)))))))) ?_
            refine gh [(1, _), (6, _), (9, _), (10, _), (14, _), (15, _), (16, _)] [(3006, some _)] hB rfl rfl (by rfl) ?_
            refine AWp.seq ?_
            refine sr (c (mv hN (q 10)) rfl (c (OpJ.neqI (L rfl) (q 28) (Opd.int .i64 (0))) rfl cn)) ?_
            refine gh [(1, _), (6, _), (9, _), (10, _), (14, _), (15, _), (16, _), (29, _)] [(3006, some _)] hB rfl rfl (by rfl) ?_
            refine AWp.cond rfl (fun hg43 => ?_) (fun hg43 => ?_)
            · replace h := ite_t hg43 h
              refine sr (c (mv hN (q 10)) rfl (c (OpJ.assign (L rfl) Opd.nils) rfl (c (OpJ.assign (L rfl) (q 30)) rfl cn))) ?_
              refine gh [(4, _), (5, _)] [] hB rfl rfl (by rfl) ?_
              refine AWp.ret ?_
              refine seqQ_r ?_
              refine blkQ_r ?_
              refine seqQ_r ?_
              obtain rfl := Option.some.inj h
              exact ⟨(fun hc => by cases hc), rfl, (mp [] _ _ hB)⟩
            · replace h := ite_f hg43 h
              refine AWp.skip ?_
              refine seqQ_n ?_
              obtain ⟨hc44, h⟩ := chk_some h
              refine rg (c (mv hN (q 6)) rfl (c (mv hN (q 9)) rfl (c (OpJ.buildSlice Try.underlying28 tyS3 tyZD3 (by rfl) (by decide) (by decide) (Opds.cons (q 32) Opds.nil) (by kernel_rfl) (es := ([(.int .i64 r42.1)] : List D)) (by rfl) (by rfl) (by kernel_rfl) (by simp) (L rfl)) rfl (cg (OpJ.append hB Try.underlying28 tyE3 (nm := 1034) (by decide) (es := s3.2.map (eI .i64)) (ys := ([r42.1] : List Int).map (eI .i64)) (es' := (s3.2 ++ ([r42.1] : List Int)).map (eI .i64)) (len := (s3.2 ++ ([r42.1] : List Int)).length) (by simp) (by simp) (map_sz (f := (eI .i64)) (fun _ => rfl)) (by rw [List.length_map]; exact lim_mulN hc44 (by decide)) (by rw [List.length_map]; exact lim_leN hc44) (L rfl) (by simp) (q 31) (q 33)) rfl (c (OpJ.assign (L rfl) (q 34)) rfl cn))))) ?_
              refine blkQ_n ?_
              exact hjj39 _ h _ _ (Mat.trans (mp [] [(1, (i6 a1)), (6, (.sref 1034 1 0 ((s3.2 ++ ([r42.1] : List Int)).length))), (14, (qI_1 a0)), (15, (i6 (a0.length : Int))), (16, (i6 s3.1))] [(1034, some (wI_3_1 (s3.2 ++ ([r42.1] : List Int))))] hB) (mp [(3006, 1034)] _ _ hB))
      · replace h := ite_f hg32 h
        refine AWp.exit ?_
        refine seqQ_e ?_
        obtain rfl := Option.some.inj h
        exact ⟨(fun hc => by cases hc), rfl, (mp [] _ _ hB)⟩
    · rcases x45 with p30 | p31
      · obtain ⟨rfl, hmat⟩ := hR
        refine blkQ_r ?_
        refine seqQ_r ?_
        obtain rfl := Option.some.inj h
        exact ⟨.inl rfl, _, _, (Mat.trans hmat (Mat.trans (Mat.coeP (Ts := [(4, (qI_1 ([] : List Int)))]) (Bs := []) (TwT.cons (x := .nils) (by rfl) (Tw.leaf ⟨_, (Co.nils 1), rfl⟩) TwT.nil) TwB.nil) (mp [] [(4, (qI_1 ([] : List Int))), (5, (i6 p30))] [] hB))), [(qI_1 ([] : List Int)), (i6 p30)], (Res.tmp (by rfl) (by rfl) (Res.tmp (by rfl) (by rfl) Res.nil)), rfl, by rfl, by rfl, by rfl⟩
      · obtain ⟨rfl, hmat⟩ := hR
        refine blkQ_hit ?_
        refine seqQ_n ?_
        refine AWp.ghost hmat ?_
        refine sr (c (mv hN (q 6)) rfl (c (OpJ.assign (L rfl) (q 36)) rfl (c (OpJ.assign (L rfl) (Opd.int .i64 (0))) rfl cn))) ?_
        refine gh [(4, _), (5, _)] [(3006, some _)] hB rfl rfl (by rfl) ?_
        refine AWp.ret ?_
        obtain rfl := Option.some.inj h
        exact ⟨.inl rfl, _, _, (Mat.trans (Mat.freezeP (n := 3006) (e := 3) (sz := 1) (es := p31.map (eI .i64)) (Ts := [(4, (qI_1 p31))]) (Bs := []) (by rfl) (TwT.cons (x := (.sref 3006 1 0 p31.length)) (by rfl) (FrzL.all (by first | rfl | (simp; done) | (simp; omega))) TwT.nil) TwB.nil) (mp [] [(4, (qI_1 p31)), (5, (i6 0))] [] hB)), [(qI_1 p31), (i6 0)], (Res.tmp (by rfl) (by rfl) (Res.tmp (by rfl) (by rfl) Res.nil)), rfl, by rfl, by rfl, by rfl⟩

noncomputable def clone_List_2 (a0 : (List Int)) : Option ((List Int)) :=
  chk (decide (a0.length ≤ LIM)) <|
  some a0
set_option maxHeartbeats 4000000 in
set_option maxRecDepth 100000 in
theorem clone_List_2_ac (a0 : (List Int)) (r : (List Int)) (h : clone_List_2 a0 = some r) : AC Try.prog 63 [(.d (.list 1 (a0.map (eI .i64))))] [] (.sref 900000 1 0 r.length) [(900000, some (.row 3 1 (r.map (eI .i64))))] := by
  refine AC.of_code2 Try.func63 rfl rfl (Nat.le_of_ble_eq_true (by rfl)) fun B hB hN => ?_
  delta clone_List_2 at h
  refine sr (c (OpJ.assign (ltN hN rfl) Opd.nils) rfl cn) ?_
  refine gh [(0, _)] [] hB rfl rfl (by rfl) ?_
  obtain ⟨hc1, h⟩ := chk_some h
  refine sr (c (mv hN (q 0)) rfl (cg (OpJ.appendN hB Try.underlying28 tyE3 (nm := 1004) (by decide) (ys := a0.map (eI .i64)) (len := a0.length) (by simp) (map_sz (f := (eI .i64)) (fun _ => rfl)) (by rw [List.length_map]; exact lim_mulN hc1 (by decide)) (by rw [List.length_map]; exact lim_leN hc1) (ltN hN rfl) Opd.nils (q 3)) rfl (c (OpJ.assign (ltN hN rfl) (q 4)) rfl cn))) ?_
  refine gh [(2, _)] [(1004, some _)] hB rfl rfl (by rfl) ?_
  refine AWp.ret ?_
  obtain rfl := Option.some.inj h
  exact ⟨.inl rfl, _, _, (mp [(900000, 1004)] [(2, (.sref 900000 1 0 a0.length))] [(900000, some (wI_3_1 a0))] hB), [(.sref 900000 1 0 a0.length)], (Res.tmp (by rfl) (by rfl) Res.nil), rfl, by rfl, by rfl, by rfl⟩

noncomputable def percentile_Percentile (a0 : (List Int)) (a1 : Int) : Option (Int × Int) :=
  (if (((decide (a1 < (1 : Int))) || (decide ((100 : Int) < a1))) || (decide ((9000 : Int) < (a0.length : Int)))) = true then
  some ((0 : Int), (1 : Int))
  else
  (if ((a0.length : Int) == (0 : Int)) = true then
  some ((0 : Int), (39 : Int))
  else
  (clone_List_2 a0).bind fun r3 =>
  (ext45_slices_Sort r3).bind fun r4 =>
  chk (decide (r4.length = r3.length)) <|
  (idx r4 (w64 ((w64 (Int.tdiv (w64 ((w64 (a1 * (a0.length : Int))) + (99 : Int))) (100 : Int))) - (1 : Int)))).bind fun x6 =>
  (idx r4 (w64 ((w64 (Int.tdiv (w64 ((w64 (a1 * (a0.length : Int))) + (99 : Int))) (100 : Int))) - (1 : Int)))).bind fun x7 =>
  some (x7, (0 : Int))))
set_option maxHeartbeats 4000000 in
set_option maxRecDepth 100000 in
theorem percentile_Percentile_ac (a0 : (List Int)) (a1 : Int) (r : Int × Int) (h : percentile_Percentile a0 a1 = some r) : AC Try.prog 50 [(.d (.list 1 (a0.map (eI .i64)))), (.d (.int .i64 a1))] [] (.tup [(.d (.int .i64 r.1)), (.d (.int .i64 r.2))]) [] := by
  refine AC.of_code2 Try.func50 rfl rfl (Nat.le_of_ble_eq_true (by rfl)) fun B hB hN => ?_
  have L {d : Nat} (h : Nat.blt d Try.f50.ntmps = true) : d < B.N := ltN hN h
  delta percentile_Percentile at h
  refine sr (c (OpJ.assign (L rfl) (Opd.int .i64 (0))) rfl (c (OpJ.assign (L rfl) (Opd.int .i64 (0))) rfl cn)) ?_
  refine gh [(0, _), (1, _)] [] hB rfl rfl (by rfl) ?_
  refine AWp.seq ?_
  refine sr (c (mv hN (q 1)) rfl (c (OpJ.lss (L rfl) (q 7) (Opd.int .i64 (1))) rfl (c (mv hN (q 8)) rfl (c (oq hN 9 (mv hN (q 1)) (OptL.keep (by rfl) OptL.nil) (GuardV.plain _)) rfl (c (oq hN 9 (OpJ.gtr (L rfl) (q 10) (Opd.int .i64 (100))) (OptL.opt OptL.nil) (GuardV.plain _)) rfl (c (OpJ.pickOr rfl (L rfl) (q 9) (q 11)) rfl (c (mv hN (q 12)) rfl (c (oq hN 13 (mv hN (q 0)) (OptL.keep (by rfl) OptL.nil) (GuardV.plain _)) rfl (c (oq hN 13 (OpJ.val (v' := (i6 (a0.length : Int))) (by simp) (OpJ.lenD Try.underlying28 (L rfl) (q 14))) (OptL.opt OptL.nil) (GuardV.plain _)) rfl (c (oq hN 13 (OpJ.gtr (L rfl) (q 15) (Opd.int .i64 (9000))) (OptL.opt OptL.nil) (GuardV.plain _)) rfl (c (OpJ.pickOr rfl (L rfl) (q 13) (q 16)) rfl cn))))))))))) ?_
  refine gh [(0, _), (1, _), (17, _)] [] hB rfl rfl (by rfl) ?_
  refine AWp.cond rfl (fun hg1 => ?_) (fun hg1 => ?_)
  · replace h := ite_t hg1 h
    refine sr (c (OpJ.assign (L rfl) (Opd.int .i64 (0))) rfl (c (OpJ.assign (L rfl) (Opd.int .i64 (1))) rfl cn)) ?_
    refine gh [(4, _), (5, _)] [] hB rfl rfl (by rfl) ?_
    refine AWp.ret ?_
    refine seqQ_r ?_
    obtain rfl := Option.some.inj h
    exact ⟨.inl rfl, _, _, (kp [(4, _), (5, _)] [] hB rfl rfl (by rfl)), [(i6 0), (i6 1)], (Res.tmp (by rfl) (by rfl) (Res.tmp (by rfl) (by rfl) Res.nil)), rfl, by rfl, by rfl, by rfl⟩
  · replace h := ite_f hg1 h
    refine AWp.skip ?_
    refine seqQ_n ?_
    refine AWp.seq ?_
    refine sr (c (mv hN (q 0)) rfl (c (OpJ.val (v' := (i6 (a0.length : Int))) (by simp) (OpJ.lenD Try.underlying28 (L rfl) (q 18))) rfl (c (OpJ.eqlI (L rfl) (q 19) (Opd.int .i64 (0))) rfl cn))) ?_
    refine gh [(0, _), (1, _), (20, _)] [] hB rfl rfl (by rfl) ?_
    refine AWp.cond rfl (fun hg2 => ?_) (fun hg2 => ?_)
    · replace h := ite_t hg2 h
      refine sr (c (OpJ.assign (L rfl) (Opd.int .i64 (0))) rfl (c (OpJ.assign (L rfl) (Opd.int .i64 (39))) rfl cn)) ?_
      refine gh [(4, _), (5, _)] [] hB rfl rfl (by rfl) ?_
      refine AWp.ret ?_
      refine seqQ_r ?_
      obtain rfl := Option.some.inj h
      exact ⟨.inl rfl, _, _, (kp [(4, _), (5, _)] [] hB rfl rfl (by rfl)), [(i6 0), (i6 (39 : Int))], (Res.tmp (by rfl) (by rfl) (Res.tmp (by rfl) (by rfl) Res.nil)), rfl, by rfl, by rfl, by rfl⟩
    · replace h := ite_f hg2 h
      refine AWp.skip ?_
      refine seqQ_n ?_
      refine AWp.seq ?_
      obtain ⟨r3, hr3, h⟩ := bindS h
      refine AWp.region (oc (mv hN (ot 0 (qI_1 a0)))
        (oc (OpJ.callFn hB fnOk63 (clone_List_2_ac a0 r3 hr3) [(900000, 100000)] (by kernel_rfl) (L rfl) (by kernel_rfl) (OpdL.cons (ot 21 (qI_1 a0)) OpdL.nil))
        (oc (OpJ.assign (L rfl) (ot 22 (.sref 100000 1 0 r3.length)))
        (OpJs.nil)))) (by rfl) (by rfl) ?_
      refine seqQ_n ?_
      refine AWp.ghost (mp [] [(0, (qI_1 a0)), (1, (i6 a1)), (6, (.sref 100000 1 0 r3.length))] [(100000, some (wI_3_1 r3))] hB) ?_
      refine AWp.seq ?_
      obtain ⟨r4, hr4, h⟩ := bindS h
      obtain ⟨hc5, h⟩ := chk_some h
      have hc5_o := of_decide_eq_true hc5
      refine AWp.region (oc (mv hN (ot 6 (.sref 100000 1 0 r3.length)))
        (oc (OpJ.callFn hB fnOk45 (ext45_slices_Sort_ac r3 r4 hr4) [(0, 100000)] (by kernel_rfl) (L rfl) (by kernel_rfl) (OpdL.cons (ot 23 (.sref 100000 1 0 r3.length)) OpdL.nil))
        (OpJs.nil))) (by rfl) (by rfl) ?_
      refine seqQ_n ?_
      refine AWp.ghost (mp [] [(0, (qI_1 a0)), (1, (i6 a1)), (6, (.sref 100000 1 0 r3.length))] [(100000, some (wI_3_1 r4))] hB) ?_
      obtain ⟨x6, hx6, h⟩ := bindS h
      obtain ⟨x7, hx7, h⟩ := bindS h
      refine sr (c (mv hN (q 6)) rfl (c (mv hN (q 1)) rfl (c (mv hN (q 0)) rfl (c (OpJ.val (v' := (i6 (a0.length : Int))) (by simp) (OpJ.lenD Try.underlying28 (L rfl) (q 27))) rfl (c (mul6 (L rfl) (q 26) (q 28)) rfl (c (add6 (L rfl) (q 29) (Opd.int .i64 (99))) rfl (c (quo6 (L rfl) (q 30) (Opd.int .i64 (100)) (by decide)) rfl (c (sub6 (L rfl) (q 31) (Opd.int .i64 (1))) rfl (c (OpJ.val (v' := (.ptr 100000 ((w64 ((w64 (Int.tdiv (w64 ((w64 (a1 * (a0.length : Int))) + (99 : Int))) (100 : Int))) - (1 : Int))).toNat * 1) [(w64 ((w64 (Int.tdiv (w64 ((w64 (a1 * (a0.length : Int))) + (99 : Int))) (100 : Int))) - (1 : Int))).toNat])) (by simp) (OpJ.indexS Try.underlying28 tyS3 (idx_some hx6).1 (by have := idx_lt hx6; first | (simpa using this) | ((try simp only [List.length_map] at this); (try simp only [List.length_map]); omega)) (L rfl) (q 25) (q 32))) rfl (c (OpJ.loadR (e := 3) (sz := 1) tyS3 (get_map (eI .i64) (idx_some hx7).2) (o := 0) (At.here _) (by rfl) (by rfl) (by rfl) (L rfl) (q 33)) rfl (c (OpJ.assign (L rfl) (q 34)) rfl (c (OpJ.assign (L rfl) (Opd.int .i64 (0))) rfl cn)))))))))))) ?_
      refine gh [(4, _), (5, _)] [] hB rfl rfl (by rfl) ?_
      refine AWp.ret ?_
      obtain rfl := Option.some.inj h
      exact ⟨.inl rfl, _, _, (kp [(4, _), (5, _)] [] hB rfl rfl (by rfl)), [(i6 x7), (i6 0)], (Res.tmp (by rfl) (by rfl) (Res.tmp (by rfl) (by rfl) Res.nil)), rfl, by rfl, by rfl, by rfl⟩

noncomputable def percentile_Used_L0 (a0 : api_Series) (a1 : Int) (s3 : Int × Int) : Option (((Int) ⊕ (Int)) ⊕ (Int × Int)) :=
  (if (decide (s3.2 < (([a0.fIn, a0.fOut] : List (List Int)).length : Int))) = true then
  (idx ([a0.fIn, a0.fOut] : List (List Int)) s3.2).bind fun x19 =>
  (percentile_Rates x19 a0.fSeconds).bind fun r20 =>
  (if (r20.2 != (0 : Int)) = true then
  some (.inl (.inl r20.2))
  else
  (percentile_Percentile r20.1 a1).bind fun r22 =>
  (if (r22.2 != (0 : Int)) = true then
  some (.inl (.inl r22.2))
  else
  some (.inr ((maxI s3.1 r22.1), (w64 (s3.2 + (1 : Int)))))))
  else
  some (.inl (.inr s3.1)))
noncomputable def percentile_Used (a0 : api_Series) (a1 : Int) : Option (Int × Int) :=
  (percentile_Valid a0).bind fun r1 =>
  (if (!r1) = true then
  some ((0 : Int), (1 : Int))
  else
  (loop (percentile_Used_L0 a0 a1) ((0 : Int), (0 : Int))).bind fun x24 => match x24 with
  | (.inl p16) =>
    some ((0 : Int), p16)
  | (.inr p17) =>
    some (p17, (0 : Int)))
set_option maxHeartbeats 4000000 in
set_option maxRecDepth 100000 in
theorem percentile_Used_ac (a0 : api_Series) (a1 : Int) (r : Int × Int) (h : percentile_Used a0 a1 = some r) : AC Try.prog 33 [(.d (e_api_Series a0)), (.d (.int .i64 a1))] [] (.tup [(.d (.int .i64 r.1)), (.d (.int .i64 r.2))]) [] := by
  refine AC.of_code2 Try.func33 rfl rfl (Nat.le_of_ble_eq_true (by rfl)) fun B hB hN => ?_
  have L {d : Nat} (h : Nat.blt d Try.f33.ntmps = true) : d < B.N := ltN hN h
  delta percentile_Used at h
  refine sr (cg (OpJ.box hB (nm := 1002) (by decide) (by simp) rfl (L rfl) (q 0)) rfl (c (OpJ.assign (L rfl) (Opd.int .i64 (0))) rfl (c (OpJ.assign (L rfl) (Opd.int .i64 (0))) rfl cn))) ?_
  refine gh [(1, _), (2, _)] [(1002, some _)] hB rfl rfl (by rfl) ?_
  refine AWp.seq ?_
  obtain ⟨r1, hr1, h⟩ := bindS h
  refine sr (c (lb hN 31 _ _ tyS31 (At.here _) (q 2)) rfl (cg (OpJ.callFn hB fnOk48 (percentile_Valid_ac a0 r1 hr1) [] (by kernel_rfl) (L rfl) (by kernel_rfl) (OpdL.cons (q 12) OpdL.nil)) rfl (c (OpJ.not (L rfl) (q 13)) rfl cn))) ?_
  refine gh [(1, _), (2, _), (14, _)] [(1002, some _)] hB rfl rfl (by rfl) ?_
  refine AWp.cond rfl (fun hg2 => ?_) (fun hg2 => ?_)
  · replace h := ite_t hg2 h
    refine sr (c (OpJ.assign (L rfl) (Opd.int .i64 (0))) rfl (c (OpJ.assign (L rfl) (Opd.int .i64 (1))) rfl cn)) ?_
    refine gh [(4, _), (5, _)] [] hB rfl rfl (by rfl) ?_
    refine AWp.ret ?_
    refine seqQ_r ?_
    obtain rfl := Option.some.inj h
    exact ⟨.inl rfl, _, _, (kp [(4, _), (5, _)] [] hB rfl rfl (by rfl)), [(i6 0), (i6 1)], (Res.tmp (by rfl) (by rfl) (Res.tmp (by rfl) (by rfl) Res.nil)), rfl, by rfl, by rfl, by rfl⟩
  · replace h := ite_f hg2 h
    refine AWp.skip ?_
    refine seqQ_n ?_
    refine sr (c (OpJ.assign (L rfl) (Opd.int .i64 (0))) rfl cn) ?_
    refine gh [(1, _), (2, _), (6, _)] [(1002, some _)] hB rfl rfl (by rfl) ?_
    refine AWp.seq ?_
    refine sr (c (ov (.ptr 1002 2 [2]) (fp hN Try.underlying31 2 tyS28 _ (q 2))) rfl (c (lb hN 31 _ _ tyS28 (ad _) (q 15)) rfl (c (ov (.ptr 1002 3 [3]) (fp hN Try.underlying31 3 tyS28 _ (q 2))) rfl (c (lb hN 31 _ _ tyS28 (ad _) (q 17)) rfl (c (OpJ.buildSlice Try.underlying91 tyS28 tyZD28 (by rfl) (by decide) (by decide) (Opds.cons (q 16) (Opds.cons (q 18) Opds.nil)) (by kernel_rfl) (es := ([(.list 1 (a0.fIn.map (eI .i64))), (.list 1 (a0.fOut.map (eI .i64)))] : List D)) (by rfl) (by rfl) (by kernel_rfl) (by simp) (L rfl)) rfl (c (OpJ.val (v' := (i6 (([a0.fIn, a0.fOut] : List (List Int)).length : Int))) (by simp) (OpJ.lenD Try.underlying91 (L rfl) (q 19))) rfl (c (mv hN (Opd.int .i64 (0))) rfl cn))))))) ?_
    refine gh [(1, _), (2, _), (6, _), (19, _), (20, _), (21, _)] [(1002, some _)] hB rfl rfl (by rfl) ?_
    refine AWp.block ?_
    obtain ⟨x24, hx25, h⟩ := bindS h
    refine lg (percentile_Used_L0 a0 a1) (fun s3 : Int × Int => ([(1, (i6 a1)), (2, (.ptr 1002 0 [])), (6, (i6 s3.1)), (19, (.d (.list 1 (([a0.fIn, a0.fOut] : List (List Int)).map e_LeIi64)))), (20, (i6 (([a0.fIn, a0.fOut] : List (List Int)).length : Int))), (21, (i6 s3.2))] : EL)) (fun s3 : Int × Int => ([(1002, some (.box 31 (.d (e_api_Series a0))))] : OL)) (fun (x : (Int) ⊕ (Int)) e E' O' => match x with | (.inl p16) => e = .ret ∧ Mat B E' O' ([(4, (i6 0)), (5, (i6 p16))] : EL) ([] : OL) | (.inr p17) => e = .exit 0 ∧ Mat B E' O' ([(6, (i6 p17))] : EL) ([] : OL)) hx25 (mp [] _ _ hB) (fun s3 y h => ?_) (fun e E' O' hR => ?_)
    · unfold percentile_Used_L0 at h
      refine sr (c (OpJ.lss (L rfl) (q 21) (q 20)) rfl cn) ?_
      refine gh [(1, _), (2, _), (6, _), (19, _), (20, _), (21, _), (22, _)] [(1002, some _)] hB rfl rfl (by rfl) ?_
      refine AWp.seq ?_
      refine AWp.cond rfl (fun hg18 => ?_) (fun hg18 => ?_)
      · replace h := ite_t hg18 h
        refine AWp.skip ?_
        refine seqQ_n ?_
        refine AWp.seq ?_
        refine AWp.block ?_
        obtain ⟨x19, hx19, h⟩ := bindS h
        refine sr (c (OpJ.indexD Try.underlying91 tyS28 (idx_some hx19).1 (get_map e_LeIi64 (idx_some hx19).2) (L rfl) (q 19) (q 21)) rfl (c (OpJ.loadD tyS28 (by rfl) (by rfl) (L rfl) (q 23)) rfl (c (OpJ.assign (L rfl) (q 24)) rfl cn))) ?_
        refine gh [(1, _), (2, _), (6, _), (8, _), (19, _), (20, _), (21, _)] [(1002, some _)] hB rfl rfl (by rfl) ?_
        obtain ⟨r20, hr20, h⟩ := bindS h
        refine sr (c (mv hN (q 8)) rfl (c (ov (.ptr 1002 1 [1]) (fp hN Try.underlying31 1 tyS3 _ (q 2))) rfl (c (lb hN 31 _ _ tyS3 (ad _) (q 27)) rfl (cg (OpJ.callFn hB fnOk49 (percentile_Rates_ac x19 a0.fSeconds r20 hr20) [] (by kernel_rfl) (L rfl) (by kernel_rfl) (OpdL.cons (q 26) (OpdL.cons (q 28) OpdL.nil))) rfl (c (mv hN (q 29)) rfl (c (OpJ.extract (by rfl) rfl (L rfl) (q 25)) rfl (c (OpJ.extract (by rfl) rfl (L rfl) (q 25)) rfl (c (OpJ.assign (L rfl) (q 30)) rfl (c (OpJ.assign (L rfl) (q 31)) rfl cn))))))))) ?_
        refine gh [(1, _), (2, _), (6, _), (9, _), (10, _), (19, _), (20, _), (21, _)] [(1002, some _)] hB rfl rfl (by rfl) ?_
        refine AWp.seq ?_
        refine sr (c (mv hN (q 10)) rfl (c (OpJ.neqI (L rfl) (q 32) (Opd.int .i64 (0))) rfl cn)) ?_
        refine gh [(1, _), (2, _), (6, _), (9, _), (10, _), (19, _), (20, _), (21, _), (33, _)] [(1002, some _)] hB rfl rfl (by rfl) ?_
        refine AWp.cond rfl (fun hg21 => ?_) (fun hg21 => ?_)
        · replace h := ite_t hg21 h
          refine sr (c (mv hN (q 10)) rfl (c (OpJ.assign (L rfl) (Opd.int .i64 (0))) rfl (c (OpJ.assign (L rfl) (q 34)) rfl cn))) ?_
          refine gh [(4, _), (5, _)] [] hB rfl rfl (by rfl) ?_
          refine AWp.ret ?_
          refine seqQ_r ?_
          refine blkQ_r ?_
          refine seqQ_r ?_
          obtain rfl := Option.some.inj h
          exact ⟨(fun hc => by cases hc), rfl, (mp [] _ _ hB)⟩
        · replace h := ite_f hg21 h
          refine AWp.skip ?_
          refine seqQ_n ?_
          obtain ⟨r22, hr22, h⟩ := bindS h
          refine sr (c (mv hN (q 9)) rfl (c (mv hN (q 1)) rfl (cg (OpJ.callFn hB fnOk50 (percentile_Percentile_ac r20.1 a1 r22 hr22) [] (by kernel_rfl) (L rfl) (by kernel_rfl) (OpdL.cons (q 36) (OpdL.cons (q 37) OpdL.nil))) rfl (c (mv hN (q 38)) rfl (c (OpJ.extract (by rfl) rfl (L rfl) (q 35)) rfl (c (OpJ.extract (by rfl) rfl (L rfl) (q 35)) rfl (c (OpJ.assign (L rfl) (q 39)) rfl (c (OpJ.assign (L rfl) (q 40)) rfl cn)))))))) ?_
          refine gh [(1, _), (2, _), (6, _), (10, _), (11, _), (19, _), (20, _), (21, _)] [(1002, some _)] hB rfl rfl (by rfl) ?_
          refine AWp.seq ?_
          refine sr (c (mv hN (q 10)) rfl (c (OpJ.neqI (L rfl) (q 41) (Opd.int .i64 (0))) rfl cn)) ?_
          refine gh [(1, _), (2, _), (6, _), (10, _), (11, _), (19, _), (20, _), (21, _), (42, _)] [(1002, some _)] hB rfl rfl (by rfl) ?_
          refine AWp.cond rfl (fun hg23 => ?_) (fun hg23 => ?_)
          · replace h := ite_t hg23 h
            refine sr (c (mv hN (q 10)) rfl (c (OpJ.assign (L rfl) (Opd.int .i64 (0))) rfl (c (OpJ.assign (L rfl) (q 43)) rfl cn))) ?_
            refine gh [(4, _), (5, _)] [] hB rfl rfl (by rfl) ?_
            refine AWp.ret ?_
            refine seqQ_r ?_
            refine blkQ_r ?_
            refine seqQ_r ?_
            obtain rfl := Option.some.inj h
            exact ⟨(fun hc => by cases hc), rfl, (mp [] _ _ hB)⟩
          · replace h := ite_f hg23 h
            refine AWp.skip ?_
            refine seqQ_n ?_
            refine rg (c (mv hN (q 6)) rfl (c (mv hN (q 11)) rfl (c (OpJ.max (L rfl) (q 44) (q 45)) rfl (c (OpJ.assign (L rfl) (q 46)) rfl cn)))) ?_
            refine blkQ_n ?_
            refine seqQ_n ?_
            refine gh [(1, _), (2, _), (6, _), (19, _), (20, _), (21, _)] [(1002, some _)] hB rfl rfl (by rfl) ?_
            refine rg (c (add6 (L rfl) (q 21) (Opd.int .i64 (1))) rfl (c (mv hN (q 47)) rfl cn)) ?_
            obtain rfl := Option.some.inj h
            exact ⟨rfl, (Mat.trans (mp [] [(1, (i6 a1)), (2, (.ptr 1002 0 [])), (6, (i6 (maxI s3.1 r22.1))), (19, (.d (.list 1 (([a0.fIn, a0.fOut] : List (List Int)).map e_LeIi64)))), (20, (i6 (([a0.fIn, a0.fOut] : List (List Int)).length : Int))), (21, (i6 (w64 (s3.2 + (1 : Int)))))] [(1002, some (.box 31 (.d (e_api_Series a0))))] hB) (mp [] _ _ hB))⟩
      · replace h := ite_f hg18 h
        refine AWp.exit ?_
        refine seqQ_e ?_
        obtain rfl := Option.some.inj h
        exact ⟨(fun hc => by cases hc), rfl, (mp [] _ _ hB)⟩
    · rcases x24 with p16 | p17
      · obtain ⟨rfl, hmat⟩ := hR
        refine blkQ_r ?_
        refine seqQ_r ?_
        obtain rfl := Option.some.inj h
        exact ⟨.inl rfl, _, _, (Mat.trans hmat (mp [] [(4, (i6 0)), (5, (i6 p16))] [] hB)), [(i6 0), (i6 p16)], (Res.tmp (by rfl) (by rfl) (Res.tmp (by rfl) (by rfl) Res.nil)), rfl, by rfl, by rfl, by rfl⟩
      · obtain ⟨rfl, hmat⟩ := hR
        refine blkQ_hit ?_
        refine seqQ_n ?_
        refine AWp.ghost hmat ?_
        refine sr (c (mv hN (q 6)) rfl (c (OpJ.assign (L rfl) (q 48)) rfl (c (OpJ.assign (L rfl) (Opd.int .i64 (0))) rfl cn))) ?_
        refine gh [(4, _), (5, _)] [] hB rfl rfl (by rfl) ?_
        refine AWp.ret ?_
        obtain rfl := Option.some.inj h
        exact ⟨.inl rfl, _, _, (kp [(4, _), (5, _)] [] hB rfl rfl (by rfl)), [(i6 p17), (i6 0)], (Res.tmp (by rfl) (by rfl) (Res.tmp (by rfl) (by rfl) Res.nil)), rfl, by rfl, by rfl, by rfl⟩

noncomputable def invoice_sums_add_1 (a0 : api_Line) (a1 : Int) : Option (Int) :=
  some (w64 (a0.fPort - a1))
set_option maxHeartbeats 4000000 in
set_option maxRecDepth 100000 in
theorem invoice_sums_add_1_ac (a0 : api_Line) (a1 : Int) (r : Int) (h : invoice_sums_add_1 a0 a1 = some r) : AC Try.prog 52 [(.d (e_api_Line a0)), (.d (.int .i64 a1))] [] (.d (.int .i64 r)) [] := by
  refine AC.of_code2 Try.func52 rfl rfl (Nat.le_of_ble_eq_true (by rfl)) fun B hB hN => ?_
  delta invoice_sums_add_1 at h
  refine sr (cg (OpJ.box hB (nm := 1002) (by decide) (by simp) rfl (ltN hN rfl) (q 0)) rfl (c (OpJ.assign (ltN hN rfl) (Opd.int .i64 (0))) rfl cn)) ?_
  refine gh [(1, _), (2, _)] [(1002, some _)] hB rfl rfl (by rfl) ?_
  refine sr (c (ov (.ptr 1002 0 [0]) (fp hN Try.underlying51 0 tyS3 _ (q 2))) rfl (c (lb hN 51 _ _ tyS3 (ad _) (q 5)) rfl (c (mv hN (q 1)) rfl (c (sub6 (ltN hN rfl) (q 6) (q 7)) rfl (c (OpJ.assign (ltN hN rfl) (q 8)) rfl cn))))) ?_
  refine gh [(4, _)] [] hB rfl rfl (by rfl) ?_
  refine AWp.ret ?_
  obtain rfl := Option.some.inj h
  exact ⟨.inl rfl, _, _, (kp [(4, _)] [] hB rfl rfl (by rfl)), [(i6 (w64 (a0.fPort - a1)))], (Res.tmp (by rfl) (by rfl) Res.nil), rfl, by rfl, by rfl, by rfl⟩

noncomputable def slices_BinarySearchFunc_2_L0 (a0 : (List api_Line)) (a1 : Int) (s1 : Int × Int) : Option (((Int)) ⊕ (Int × Int)) :=
  (if (decide (s1.1 < s1.2)) = true then
  (idx a0 (w64 (shrI .u64 (IntKind.u64.wrap (w64 (s1.1 + s1.2))) (1 : Int)))).bind fun x14 =>
  (idx a0 (w64 (shrI .u64 (IntKind.u64.wrap (w64 (s1.1 + s1.2))) (1 : Int)))).bind fun x15 =>
  (invoice_sums_add_1 x15 a1).bind fun r16 =>
  (if (decide (r16 < (0 : Int))) = true then
  some (.inr ((w64 ((w64 (shrI .u64 (IntKind.u64.wrap (w64 (s1.1 + s1.2))) (1 : Int))) + (1 : Int))), s1.2))
  else
  some (.inr (s1.1, (w64 (shrI .u64 (IntKind.u64.wrap (w64 (s1.1 + s1.2))) (1 : Int))))))
  else
  some (.inl s1.1))
noncomputable def slices_BinarySearchFunc_2 (a0 : (List api_Line)) (a1 : Int) : Option (Int × Bool) :=
  (loop (slices_BinarySearchFunc_2_L0 a0 a1) ((0 : Int), (a0.length : Int))).bind fun p12 =>
  jn (fun m24 : Bool =>
  some (p12, m24)) (fun j25 =>
  (if (decide (p12 < (a0.length : Int))) = true then
  (idx a0 p12).bind fun x27 =>
  (idx a0 p12).bind fun x28 =>
  (invoice_sums_add_1 x28 a1).bind fun r29 =>
  j25 (r29 == (0 : Int))
  else
  j25 false))
set_option maxHeartbeats 4000000 in
set_option maxRecDepth 100000 in
theorem slices_BinarySearchFunc_2_ac (a0 : (List api_Line)) (a1 : Int) (r : Int × Bool) (h : slices_BinarySearchFunc_2 a0 a1 = some r) : AC Try.prog 51 [(.sref 0 3 0 a0.length), (.d (.int .i64 a1)), (.func 52 [])] [(0, (.row 51 3 (a0.map e_api_Line)))] (.tup [(.d (.int .i64 r.1)), (.d (.bool r.2))]) [(0, some (.row 51 3 (a0.map e_api_Line)))] := by
  refine AC.of_code2 Try.func51 rfl rfl (Nat.le_of_ble_eq_true (by rfl)) fun B hB hN => ?_
  have L {d : Nat} (h : Nat.blt d Try.f51.ntmps = true) : d < B.N := ltN hN h
  delta slices_BinarySearchFunc_2 at h
  refine sr (c (OpJ.assign (L rfl) (Opd.int .i64 (0))) rfl (c (OpJ.assign (L rfl) (Opd.bool false)) rfl cn)) ?_
  refine gh [(0, _), (1, _), (2, _)] [(0, some _)] hB rfl rfl (by rfl) ?_
  refine sr (c (mv hN (q 0)) rfl (c (OpJ.lenS Try.underlying43 (L rfl) (q 12)) rfl (c (OpJ.assign (L rfl) (q 13)) rfl cn))) ?_
  refine gh [(0, _), (1, _), (2, _), (8, _)] [(0, some _)] hB rfl rfl (by rfl) ?_
  refine sr (c (mv hN (q 8)) rfl (c (OpJ.assign (L rfl) (Opd.int .i64 (0))) rfl (c (OpJ.assign (L rfl) (q 14)) rfl cn))) ?_
  refine gh [(0, _), (1, _), (2, _), (8, _), (9, _), (10, _)] [(0, some _)] hB rfl rfl (by rfl) ?_
  refine AWp.seq ?_
  refine AWp.block ?_
  obtain ⟨p12, hx19, h⟩ := bindS h
  refine lg (slices_BinarySearchFunc_2_L0 a0 a1) (fun s1 : Int × Int => ([(0, (.sref 0 3 0 a0.length)), (1, (i6 a1)), (2, (.func 52 [])), (8, (i6 (a0.length : Int))), (9, (i6 s1.1)), (10, (i6 s1.2))] : EL)) (fun s1 : Int × Int => ([(0, some (we_api_Line_51_3 a0))] : OL)) (fun (p12 : (Int)) e E' O' => e = .exit 0 ∧ Mat B E' O' ([(0, (.sref 0 3 0 a0.length)), (1, (i6 a1)), (2, (.func 52 [])), (8, (i6 (a0.length : Int))), (9, (i6 p12))] : EL) ([(0, some (we_api_Line_51_3 a0))] : OL)) hx19 (mp [] _ _ hB) (fun s1 y h => ?_) (fun e E' O' hR => ?_)
  · unfold slices_BinarySearchFunc_2_L0 at h
    refine AWp.seq ?_
    refine sr (c (mv hN (q 9)) rfl (c (mv hN (q 10)) rfl (c (OpJ.lss (L rfl) (q 15) (q 16)) rfl cn))) ?_
    refine gh [(0, _), (1, _), (2, _), (8, _), (9, _), (10, _), (17, _)] [(0, some _)] hB rfl rfl (by rfl) ?_
    refine AWp.cond rfl (fun hg13 => ?_) (fun hg13 => ?_)
    · replace h := ite_t hg13 h
      refine AWp.skip ?_
      refine seqQ_n ?_
      refine AWp.block ?_
      refine sr (c (mv hN (q 9)) rfl (c (mv hN (q 10)) rfl (c (add6 (L rfl) (q 18) (q 19)) rfl (c (OpJ.conv Try.underlying3 Try.underlying103 (L rfl) (q 20)) rfl (c (OpJ.shr (L rfl) (q 21) (Opd.int .u64 (1)) (by decide)) rfl (c (conv6 Try.underlying103 Try.underlying3 (L rfl) (q 22)) rfl (c (OpJ.assign (L rfl) (q 23)) rfl cn))))))) ?_
      refine gh [(0, _), (1, _), (2, _), (8, _), (9, _), (10, _), (11, _)] [(0, some _)] hB rfl rfl (by rfl) ?_
      obtain ⟨x14, hx14, h⟩ := bindS h
      obtain ⟨x15, hx15, h⟩ := bindS h
      obtain ⟨r16, hr16, h⟩ := bindS h
      refine sr (c (mv hN (q 2)) rfl (c (mv hN (q 0)) rfl (c (mv hN (q 11)) rfl (c (OpJ.val (v' := (.ptr 0 ((w64 (shrI .u64 (IntKind.u64.wrap (w64 (s1.1 + s1.2))) (1 : Int))).toNat * 3) [(w64 (shrI .u64 (IntKind.u64.wrap (w64 (s1.1 + s1.2))) (1 : Int))).toNat])) (by simp) (OpJ.indexS Try.underlying43 tyS51 (idx_some hx14).1 (by have := idx_lt hx14; first | (simpa using this) | ((try simp only [List.length_map] at this); (try simp only [List.length_map]); omega)) (L rfl) (q 25) (q 26))) rfl (c (OpJ.loadR (e := 51) (sz := 3) tyS51 (get_map e_api_Line (idx_some hx15).2) (o := 0) (At.here _) (by rfl) (by rfl) (by rfl) (L rfl) (q 27)) rfl (c (mv hN (q 1)) rfl (cg (OpJ.callVal (args := [(.d (e_api_Line x15)), (i6 a1)]) (caps := []) hB fnOk52 [] (invoice_sums_add_1_ac x15 a1 r16 hr16) (by kernel_rfl) (L rfl) (by kernel_rfl) (by kernel_rfl) (OpdL.cons (q 28) (OpdL.cons (q 29) OpdL.nil))) rfl (c (OpJ.lss (L rfl) (q 30) (Opd.int .i64 (0))) rfl cn)))))))) ?_
      refine gh [(0, _), (1, _), (2, _), (8, _), (9, _), (10, _), (11, _), (31, _)] [(0, some _)] hB rfl rfl (by rfl) ?_
      refine AWp.cond rfl (fun hg17 => ?_) (fun hg17 => ?_)
      · replace h := ite_t hg17 h
        refine rg (c (mv hN (q 11)) rfl (c (add6 (L rfl) (q 32) (Opd.int .i64 (1))) rfl (c (OpJ.assign (L rfl) (q 33)) rfl cn))) ?_
        refine blkQ_n ?_
        obtain rfl := Option.some.inj h
        exact ⟨rfl, (Mat.trans (mp [] [(0, (.sref 0 3 0 a0.length)), (1, (i6 a1)), (2, (.func 52 [])), (8, (i6 (a0.length : Int))), (9, (i6 (w64 ((w64 (shrI .u64 (IntKind.u64.wrap (w64 (s1.1 + s1.2))) (1 : Int))) + (1 : Int))))), (10, (i6 s1.2))] [(0, some (we_api_Line_51_3 a0))] hB) (mp [] _ _ hB))⟩
      · replace h := ite_f hg17 h
        refine rg (c (mv hN (q 11)) rfl (c (OpJ.assign (L rfl) (q 34)) rfl cn)) ?_
        refine blkQ_n ?_
        obtain rfl := Option.some.inj h
        exact ⟨rfl, (Mat.trans (mp [] [(0, (.sref 0 3 0 a0.length)), (1, (i6 a1)), (2, (.func 52 [])), (8, (i6 (a0.length : Int))), (9, (i6 s1.1)), (10, (i6 (w64 (shrI .u64 (IntKind.u64.wrap (w64 (s1.1 + s1.2))) (1 : Int)))))] [(0, some (we_api_Line_51_3 a0))] hB) (mp [] _ _ hB))⟩
    · replace h := ite_f hg13 h
      refine AWp.exit ?_
      refine seqQ_e ?_
      obtain rfl := Option.some.inj h
      exact ⟨(fun hc => by cases hc), rfl, (mp [] _ _ hB)⟩
  · obtain ⟨rfl, hmat⟩ := hR
    refine blkQ_hit ?_
    refine seqQ_n ?_
    refine AWp.ghost hmat ?_
    refine AWp.seq ?_
    refine AWp.cut h (fun m24 : Bool => ([(6, (i6 p12)), (7, (bo m24))] : EL)) (fun m24 : Bool => ([(0, some (we_api_Line_51_3 a0))] : OL)) (fun m24 h E' O' hmat => ?_) (fun j25 hjj25 h => ?_)
    · refine seqQ_n ?_
      refine AWp.ghost hmat ?_
      refine AWp.ret ?_
      obtain rfl := Option.some.inj h
      exact ⟨.inl rfl, _, _, (kp [(6, _), (7, _)] [(0, some _)] hB rfl rfl (by rfl)), [(i6 p12), (bo m24)], (Res.tmp (by rfl) (by rfl) (Res.tmp (by rfl) (by rfl) Res.nil)), rfl, by rfl, by rfl, by rfl⟩
    · rcases Bool.eq_false_or_eq_true (decide (p12 < (a0.length : Int))) with hg26 | hg26
      · replace h := ite_t hg26 h
        obtain ⟨x27, hx27, h⟩ := bindS h
        obtain ⟨x28, hx28, h⟩ := bindS h
        obtain ⟨r29, hr29, h⟩ := bindS h
        refine rg (c (mv hN (q 9)) rfl (c (mv hN (q 9)) rfl (c (mv hN (q 8)) rfl (c (OpJ.lss (L rfl) (q 36) (q 37)) rfl (c (OpJ.val (v' := .d (.bool true)) (by rw [hg26]) (mv hN (q 38))) rfl (c (OpJ.guarded (g := 39) (by rfl) (mv hN (q 2))) rfl (c (OpJ.guarded (g := 39) (by rfl) (mv hN (q 0))) rfl (c (OpJ.guarded (g := 39) (by rfl) (mv hN (q 9))) rfl (c (OpJ.guarded (g := 39) (by rfl) (OpJ.val (v' := (.ptr 0 (p12.toNat * 3) [p12.toNat])) (by simp) (OpJ.indexS Try.underlying43 tyS51 (idx_some hx27).1 (by have := idx_lt hx27; first | (simpa using this) | ((try simp only [List.length_map] at this); (try simp only [List.length_map]); omega)) (L rfl) (q 41) (q 42)))) rfl (c (OpJ.guarded (g := 39) (by rfl) (OpJ.loadR (e := 51) (sz := 3) tyS51 (get_map e_api_Line (idx_some hx28).2) (o := 0) (At.here _) (by rfl) (by rfl) (by rfl) (L rfl) (q 43))) rfl (c (OpJ.guarded (g := 39) (by rfl) (mv hN (q 1))) rfl (cg (OpJ.guarded (g := 39) (by rfl) (OpJ.callVal (args := [(.d (e_api_Line x28)), (i6 a1)]) (caps := []) hB fnOk52 [] (invoice_sums_add_1_ac x28 a1 r29 hr29) (by kernel_rfl) (L rfl) (by kernel_rfl) (by kernel_rfl) (OpdL.cons (q 44) (OpdL.cons (q 45) OpdL.nil)))) rfl (c (OpJ.guarded (g := 39) (by rfl) (OpJ.eqlI (L rfl) (q 46) (Opd.int .i64 (0)))) rfl (c (OpJ.pickT (L rfl) (q 39) (q 47)) rfl (c (OpJ.assign (L rfl) (q 35)) rfl (c (OpJ.assign (L rfl) (q 48)) rfl cn)))))))))))))))) ?_
        exact hjj25 _ h _ _ (Mat.trans (mp [] [(6, (i6 p12)), (7, (bo (r29 == (0 : Int))))] [(0, some (we_api_Line_51_3 a0))] hB) (mp [] _ _ hB))
      · replace h := ite_f hg26 h
        refine rg (c (mv hN (q 9)) rfl (c (mv hN (q 9)) rfl (c (mv hN (q 8)) rfl (c (OpJ.lss (L rfl) (q 36) (q 37)) rfl (c (OpJ.val (v' := .d (.bool false)) (by rw [hg26]) (mv hN (q 38))) rfl (cg (OpJ.skipU (g := 39) (L rfl) (by rfl)) rfl (cg (OpJ.skipU (g := 39) (L rfl) (by rfl)) rfl (cg (OpJ.skipU (g := 39) (L rfl) (by rfl)) rfl (cg (OpJ.skipU (g := 39) (L rfl) (by rfl)) rfl (cg (OpJ.skipU (g := 39) (L rfl) (by rfl)) rfl (cg (OpJ.skipU (g := 39) (L rfl) (by rfl)) rfl (cg (OpJ.skipU (g := 39) (L rfl) (by rfl)) rfl (cg (OpJ.skipU (g := 39) (L rfl) (by rfl)) rfl (c (OpJ.pickF (L rfl) (q 39) (Opd.bool false)) rfl (c (OpJ.assign (L rfl) (q 35)) rfl (c (OpJ.assign (L rfl) (q 48)) rfl cn)))))))))))))))) ?_
        exact hjj25 _ h _ _ (Mat.trans (mp [] [(6, (i6 p12)), (7, (bo false))] [(0, some (we_api_Line_51_3 a0))] hB) (mp [] _ _ hB))

noncomputable def ext53_slices_Insert_R (a0 : List api_Line) (a1 : Int) (a2 : List api_Line) : Option (List api_Line) := chk (decide (0 ≤ a1) && decide (a1.toNat ≤ a0.length) && decide (a2.length = 1) && decide (a0.length + 1 ≤ LIM)) <|
  some (a0.take a1.toNat ++ a2 ++ a0.drop a1.toNat)
set_option maxHeartbeats 4000000 in
set_option maxRecDepth 100000 in
theorem ext53_slices_Insert_R_ac (a0 : List api_Line) (a1 : Int) (a2 : List api_Line) (r : List api_Line) (h : ext53_slices_Insert_R a0 a1 a2 = some r) : AC Try.prog 53 [(.sref 0 3 0 a0.length), (.d (.int .i64 a1)), (.sref 1 3 0 a2.length)] [(0, (.row 51 3 (a0.map e_api_Line))), (1, (.row 51 3 (a2.map e_api_Line)))] (.sref 900000 3 0 r.length) [(0, none), (1, none), (900000, some (.row 51 3 (r.map e_api_Line)))] := by
  obtain ⟨hc, h⟩ := chk_some h
  obtain ⟨h0, hi, ⟨v0, rfl⟩, hl⟩ := ins_chk hc
  obtain ⟨i, rfl⟩ : ∃ i : Nat, a1 = (i : Int) := ⟨a1.toNat, by omega⟩
  have hin : ((i : Int)).toNat = i := Int.toNat_natCast i
  rw [hin] at hi h
  obtain rfl := Option.some.inj h
  have hml : (a0.map e_api_Line).length = a0.length := List.length_map e_api_Line
  refine AC.of_code3 Try.func53 rfl rfl (Nat.le_of_ble_eq_true (by rfl)) fun B hB hN hpin => ?_
  refine AWp.seq ?_
  refine AWp.region (oc (OpJ.assign (ltN hN rfl) Opd.nils) OpJs.nil) (by rfl) (by rfl) ?_
  refine seqQ_n ?_
  refine AWp.seq ?_
  refine AWp.region (oc (mv hN (ot 0 (.sref 0 3 0 a0.length))) (oc (mv hN (ot 1 (i6 (i : Int))))
    (oc (OpJ.cutS Try.underlying43 tyS51 (obj := (we_api_Line_51_3 a0)) (l := i) (h := a0.length) (off' := i) (len' := a0.length - i) (.inr ⟨_, _, _, rfl, (ot 11 (i6 (i : Int))), (by omega), hin.symm⟩) (.inl ⟨rfl, rfl, rfl⟩) hi (Nat.le_refl _) (by simp) rfl (ltN hN rfl) (ot 10 (.sref 0 3 0 a0.length)))
    OpJs.nil))) (by rfl) (by rfl) ?_
  refine seqQ_n ?_
  refine AWp.seq ?_
  refine AWp.region (oc (mv hN (ot 2 (.sref 1 3 0 1))) (oc (ov (i6 1) (OpJ.lenS (obj := (we_api_Line_51_3 [v0])) Try.underlying43 (ltN hN rfl) (ot 13 (.sref 1 3 0 1)))) (oc (OpJ.assign (ltN hN rfl) (ot 14 (i6 1))) OpJs.nil))) (by rfl) (by rfl) ?_
  refine seqQ_n ?_
  refine AWp.seq ?_
  refine AWp.seq ?_
  refine AWp.region (oc (mv hN (ot 7 (i6 1))) (oc (OpJ.eqlI (ltN hN rfl) (ot 15 (i6 1)) (Opd.int .i64 (0))) OpJs.nil)) (by rfl) (by rfl) ?_
  refine seqQ_n ?_
  refine AWp.cond (b := ((1 : Int) == 0)) (by rfl) (fun hg => absurd hg (by decide)) (fun _ => ?_)
  refine AWp.skip ?_
  refine seqQ_n ?_
  refine AWp.seq ?_
  refine AWp.region (oc (mv hN (ot 0 (.sref 0 3 0 a0.length))) (oc (OpJ.lenS (obj := (we_api_Line_51_3 a0)) Try.underlying43 (ltN hN rfl) (ot 18 (.sref 0 3 0 a0.length))) (oc (OpJ.assign (ltN hN rfl) (ot 19 (i6 (a0.length : Int)))) OpJs.nil))) (by rfl) (by rfl) ?_
  refine seqQ_n ?_
  refine AWp.seq ?_
  refine AWp.seq ?_
  refine AWp.region (oc (mv hN (ot 1 (i6 (i : Int)))) (oc (mv hN (ot 8 (i6 (a0.length : Int)))) (oc (OpJ.eqlI (ltN hN rfl) (ot 20 (i6 (i : Int))) (ot 21 (i6 (a0.length : Int)))) OpJs.nil))) (by rfl) (by rfl) ?_
  refine seqQ_n ?_
  refine AWp.cond (b := ((i : Int) == (a0.length : Int))) (by rfl) (fun hg => ?_) (fun hg => ?_)
  · have hie : i = a0.length := by have := eq_of_beq hg; omega
    subst hie
    rw [ins_end]
    have hlim : decide ((a0 ++ [v0]).length ≤ LIM) = true := decide_eq_true (by rw [List.length_append]; exact hl)
    refine AWp.ghost (Mat.freezeP (n := 1) (e := 51) (sz := 3) (es := [v0].map e_api_Line) (Ts := [(2, .d (.list 3 ([v0].map e_api_Line)))]) (Bs := []) (by rfl) (TwT.cons (x := (.sref 1 3 0 1)) (by rfl) (FrzL.all (by rfl)) TwT.nil) TwB.nil) ?_
    refine AWp.seq ?_
    refine AWp.region (oc (mv hN (ot 0 (.sref 0 3 0 a0.length))) (oc (mv hN (ot 2 (qe_api_Line_3 [v0])))
      (oc (OpJ.append hB Try.underlying43 tyE51 (nm := 1025) (by decide) (es := a0.map e_api_Line) (ys := [v0].map e_api_Line) (es' := (a0 ++ [v0]).map e_api_Line) (len := (a0 ++ [v0]).length) (by simp) (by simp) (map_sz (f := e_api_Line) (fun _ => rfl)) (by rw [List.length_map]; exact lim_mulN hlim (by decide)) (by rw [List.length_map]; exact lim_leN hlim) (ltN hN rfl) (by simp) (ot 23 (.sref 0 3 0 a0.length)) (ot 24 (qe_api_Line_3 [v0])))
      (oc (OpJ.assign (ltN hN rfl) (ot 25 (.sref 1025 3 0 (a0 ++ [v0]).length))) OpJs.nil)))) (by rfl) (by rfl) ?_
    refine seqQ_n ?_
    refine AWp.ret ?_
    refine seqQ_r ?_
    exact ⟨.inl rfl, _, _, (mp [(900000, 1025)] [(6, (.sref 900000 3 0 (a0 ++ [v0]).length))] [(900000, some (we_api_Line_51_3 (a0 ++ [v0])))] hB), [(.sref 900000 3 0 (a0 ++ [v0]).length)], (Res.tmp (by rfl) (by rfl) Res.nil), rfl, by rfl, by rfl, by rfl⟩
  have hlt : i < a0.length := by
    have : ¬ ((i : Int) = (a0.length : Int)) := fun e => by rw [e] at hg; simp at hg
    omega
  rw [ins_len hi, ins_map]
  refine AWp.skip ?_
  refine seqQ_n ?_
  refine AWp.withCap (nm := 0) (by rfl) (fun e => by rw [List.map_eq_nil_iff] at e; subst e; simp at hlt) (hpin 0 (by decide) (by rfl)) (fun c hcap hc1 hc2 => ?_)
  rw [hml] at hc1
  have w1 : IntKind.i64.wrap ((a0.length : Int) + 1) = ((a0.length + 1 : Nat) : Int) := w64_id (by omega) (by omega)
  have w2 : IntKind.i64.wrap ((i : Int) + 1) = ((i + 1 : Nat) : Int) := w64_id (by omega) (by omega)
  have w3 : IntKind.i64.wrap (((a0.length + 1 : Nat) : Int) - (i : Int)) = ((a0.length + 1 - i : Nat) : Int) := (w64_id (by omega) (by omega)).trans (by omega)
  have t1 : (((i + 1 : Nat) : Int)).toNat = i + 1 := Int.toNat_natCast _
  have t2 : (((a0.length + 1 - i : Nat) : Int)).toNat = a0.length + 1 - i := Int.toNat_natCast _
  have t3 : (((a0.length + 1 : Nat) : Int)).toNat = a0.length + 1 := Int.toNat_natCast _
  refine AWp.seq ?_
  refine AWp.seq ?_
  refine AWp.region (oc (mv hN (ot 8 (i6 (a0.length : Int)))) (oc (mv hN (ot 7 (i6 1))) (oc (ov (i6 ((a0.length + 1 : Nat) : Int)) (OpJ.add (ltN hN rfl) (ot 26 (i6 (a0.length : Int))) (ot 27 (i6 1))) (by rw [w1]))
    (oc (mv hN (ot 0 (.sref 0 3 0 a0.length))) (oc (OpJ.capC (es := a0.map e_api_Line) Try.underlying43 (by decide) hcap (ltN hN rfl) (ot 29 (.sref 0 3 0 a0.length))) (oc (OpJ.gtr (ltN hN rfl) (ot 28 (i6 ((a0.length + 1 : Nat) : Int))) (ot 30 (i6 (c : Int)))) OpJs.nil)))))) (by rfl) (by rfl) ?_
  refine seqQ_n ?_
  refine AWp.cond (b := decide ((c : Int) < ((a0.length + 1 : Nat) : Int))) (by rfl) (fun hg => ?_) (fun hg => ?_)
  · have hg := of_decide_eq_true hg
    refine AWp.seq ?_
    refine AWp.region (oc (mv hN (ot 0 (.sref 0 3 0 a0.length))) (oc (mv hN (ot 1 (i6 (i : Int))))
      (oc (OpJ.cutS Try.underlying43 tyS51 (obj := (we_api_Line_51_3 a0)) (l := 0) (h := i) (off' := 0) (len' := i) (.inl ⟨rfl, rfl, rfl⟩) (.inr ⟨_, _, _, rfl, (ot 33 (i6 (i : Int))), (by omega), hin.symm⟩) (Nat.zero_le _) hi (by simp) (by simp) (ltN hN rfl) (ot 32 (.sref 0 3 0 a0.length)))
      (oc (mv hN (ot 8 (i6 (a0.length : Int)))) (oc (mv hN (ot 7 (i6 1))) (oc (ov (i6 ((a0.length + 1 : Nat) : Int)) (OpJ.add (ltN hN rfl) (ot 35 (i6 (a0.length : Int))) (ot 36 (i6 1))) (by rw [w1]))
      (oc (mv hN (ot 1 (i6 (i : Int)))) (oc (ov (i6 ((a0.length + 1 - i : Nat) : Int)) (OpJ.sub (ltN hN rfl) (ot 37 (i6 ((a0.length + 1 : Nat) : Int))) (ot 38 (i6 (i : Int)))) (by rw [w3]))
      (oc (OpJ.growZ hB Try.underlying43 Try.underlying3 tyE51 tyZD51 (by rfl) (nm2 := 1040) (by decide) hcap (by rw [hml]; exact hi) (by omega) (by omega) (by omega) (lim_mulN (decide_eq_true (show i + ((a0.length + 1 - i : Nat) : Int).toNat ≤ 4294967296 by omega)) (by decide)) (len := a0.length + 1) (by omega) (es' := (a0.map e_api_Line).take i ++ List.replicate ((a0.map e_api_Line).length + 1 - i) (D.st [(.int .i64 0), (.int .i64 0), (.int .i64 0)])) (by rw [t2, hml]) (ltN hN rfl) (ot 34 (.sref 0 3 0 i)) (ot 39 (i6 ((a0.length + 1 - i : Nat) : Int))))
      (oc (OpJ.assign (ltN hN rfl) (ot 40 (.sref 1040 3 0 (a0.length + 1)))) OpJs.nil)))))))))) (by rfl) (by rfl) ?_
    refine seqQ_n ?_
    refine AWp.seq ?_
    refine AWp.region (oc (mv hN (ot 9 (.sref 1040 3 0 (a0.length + 1)))) (oc (mv hN (ot 1 (i6 (i : Int))))
      (oc (OpJ.cutS Try.underlying43 tyS51 (obj := (.row 51 3 ((a0.map e_api_Line).take i ++ List.replicate ((a0.map e_api_Line).length + 1 - i) (D.st [(.int .i64 0), (.int .i64 0), (.int .i64 0)])))) (l := i) (h := a0.length + 1) (off' := i) (len' := a0.length + 1 - i) (.inr ⟨_, _, _, rfl, (ot 42 (i6 (i : Int))), (by omega), hin.symm⟩) (.inl ⟨rfl, rfl, rfl⟩) (by omega) (Nat.le_refl _) (by simp) rfl (ltN hN rfl) (ot 41 (.sref 1040 3 0 (a0.length + 1))))
      (oc (mv hN (ot 2 (.sref 1 3 0 1)))
      (oc (OpJ.copyRR Try.underlying43 tyS51 1040 1 (di := i) (dl := a0.length + 1 - i) (so := 0) (sl := 1) (k := 1) (es := (a0.map e_api_Line).take i ++ List.replicate ((a0.map e_api_Line).length + 1 - i) (D.st [(.int .i64 0), (.int .i64 0), (.int .i64 0)])) (es2 := [e_api_Line v0]) (es' := (a0.map e_api_Line).take i ++ [e_api_Line v0] ++ List.replicate ((a0.map e_api_Line).length - i) (D.st [(.int .i64 0), (.int .i64 0), (.int .i64 0)])) (no := [(1040, (.row 51 3 ((a0.map e_api_Line).take i ++ List.replicate ((a0.map e_api_Line).length + 1 - i) (D.st [(.int .i64 0), (.int .i64 0), (.int .i64 0)])))), (1, (.row 51 3 [e_api_Line v0]))]) (by rfl) (by rfl) (by decide) (Nat.min_eq_left (by omega)) (by simp) (by rw [List.length_append, List.length_take, hml, Nat.min_eq_left hi]; omega) (ins_g1 (by rw [hml]; exact hi)) (ltN hN rfl) (ot 43 (.sref 1040 3 i (a0.length + 1 - i))) (ot 44 (.sref 1 3 0 1)))
      OpJs.nil))))) (by rfl) (by rfl) ?_
    refine seqQ_n ?_
    refine AWp.seq ?_
    refine AWp.draws (by kernel_rfl) (oc (mv hN (ot 9 (.sref 1040 3 0 (a0.length + 1)))) (oc (mv hN (ot 1 (i6 (i : Int)))) (oc (mv hN (ot 7 (i6 1))) (oc (ov (i6 ((i + 1 : Nat) : Int)) (OpJ.add (ltN hN rfl) (ot 47 (i6 (i : Int))) (ot 48 (i6 1))) (by rw [w2]))
      (oc (OpJ.cutS Try.underlying43 tyS51 (obj := (.row 51 3 ((a0.map e_api_Line).take i ++ [e_api_Line v0] ++ List.replicate ((a0.map e_api_Line).length - i) (D.st [(.int .i64 0), (.int .i64 0), (.int .i64 0)])))) (l := i + 1) (h := a0.length + 1) (off' := i + 1) (len' := a0.length - i) (.inr ⟨_, _, _, rfl, (ot 49 (i6 ((i + 1 : Nat) : Int))), (by omega), t1.symm⟩) (.inl ⟨rfl, rfl, rfl⟩) (by omega) (Nat.le_refl _) (by simp) (by omega) (ltN hN rfl) (ot 46 (.sref 1040 3 0 (a0.length + 1))))
      (oc (mv hN (ot 0 (.sref 0 3 0 a0.length))) (oc (mv hN (ot 1 (i6 (i : Int))))
      (oc (OpJ.cutS Try.underlying43 tyS51 (obj := (we_api_Line_51_3 a0)) (l := i) (h := a0.length) (off' := i) (len' := a0.length - i) (.inr ⟨_, _, _, rfl, (ot 52 (i6 (i : Int))), (by omega), hin.symm⟩) (.inl ⟨rfl, rfl, rfl⟩) hi (Nat.le_refl _) (by simp) rfl (ltN hN rfl) (ot 51 (.sref 0 3 0 a0.length)))
      (oc (OpJ.copyRR Try.underlying43 tyS51 1040 0 (di := i + 1) (dl := a0.length - i) (so := i) (sl := a0.length - i) (k := a0.length - i) (es := (a0.map e_api_Line).take i ++ [e_api_Line v0] ++ List.replicate ((a0.map e_api_Line).length - i) (D.st [(.int .i64 0), (.int .i64 0), (.int .i64 0)])) (es2 := a0.map e_api_Line) (es' := (a0.map e_api_Line).take i ++ [e_api_Line v0] ++ (a0.map e_api_Line).drop i) (no := [(1040, (.row 51 3 ((a0.map e_api_Line).take i ++ [e_api_Line v0] ++ List.replicate ((a0.map e_api_Line).length - i) (D.st [(.int .i64 0), (.int .i64 0), (.int .i64 0)])))), (0, (we_api_Line_51_3 a0))]) (by rfl) (by rfl) (by omega) (Nat.min_self _) (by rw [hml]; omega) (by simp only [List.length_append, List.length_take, hml, List.length_cons, List.length_nil]; omega) ((ins_g2 (z := (D.st [(.int .i64 0), (.int .i64 0), (.int .i64 0)])) (by rw [hml]; exact hi)).trans (by rw [hml])) (ltN hN rfl) (ot 50 (.sref 1040 3 (i + 1) (a0.length - i))) (ot 53 (.sref 0 3 i (a0.length - i))))
      OpJs.nil))))))))) (by kernel_rfl) (by rfl) (by rfl) ?_
    refine seqQ_n ?_
    refine AWp.seq ?_
    refine AWp.region (oc (mv hN (ot 9 (.sref 1040 3 0 (a0.length + 1)))) (oc (OpJ.assign (ltN hN rfl) (ot 55 (.sref 1040 3 0 (a0.length + 1)))) OpJs.nil)) (by rfl) (by rfl) ?_
    refine seqQ_n ?_
    refine AWp.ret ?_
    refine seqQ_r ?_
    exact ⟨.inl rfl, _, _, (mp [(900000, 1040)] [(6, (.sref 900000 3 0 (a0.length + 1)))] [(900000, some (.row 51 3 ((a0.map e_api_Line).take i ++ [e_api_Line v0] ++ (a0.map e_api_Line).drop i)))] hB), [(.sref 900000 3 0 (a0.length + 1))], (Res.tmp (by rfl) (by rfl) Res.nil), rfl, by rfl, by rfl, by rfl⟩
  have hg := of_decide_eq_false hg
  refine AWp.skip ?_
  refine seqQ_n ?_
  refine AWp.seq ?_
  refine AWp.region (oc (mv hN (ot 0 (.sref 0 3 0 a0.length))) (oc (mv hN (ot 8 (i6 (a0.length : Int)))) (oc (mv hN (ot 7 (i6 1))) (oc (ov (i6 ((a0.length + 1 : Nat) : Int)) (OpJ.add (ltN hN rfl) (ot 57 (i6 (a0.length : Int))) (ot 58 (i6 1))) (by rw [w1]))
    (oc (OpJ.cutC (es := a0.map e_api_Line) (h := a0.length + 1) Try.underlying43 tyS51 (by decide) hcap (by omega) t3.symm (by omega) (ltN hN rfl) (ot 56 (.sref 0 3 0 a0.length)) (ot 59 (i6 ((a0.length + 1 : Nat) : Int))))
    (oc (OpJ.assign (ltN hN rfl) (ot 60 (.sref 0 3 0 (a0.length + 1)))) OpJs.nil)))))) (by rfl) (by rfl) ?_
  refine seqQ_n ?_
  refine AWp.seq ?_
  refine AWp.seq ?_
  refine AWp.region (oc (mv hN (ot 2 (.sref 1 3 0 1))) (oc (mv hN (ot 0 (.sref 0 3 0 (a0.length + 1)))) (oc (mv hN (ot 1 (i6 (i : Int)))) (oc (mv hN (ot 7 (i6 1))) (oc (ov (i6 ((i + 1 : Nat) : Int)) (OpJ.add (ltN hN rfl) (ot 63 (i6 (i : Int))) (ot 64 (i6 1))) (by rw [w2]))
    (oc (OpJ.cutS Try.underlying43 tyS51 (obj := (we_api_Line_51_3 a0)) (l := i + 1) (h := a0.length + 1) (off' := i + 1) (len' := a0.length - i) (.inr ⟨_, _, _, rfl, (ot 65 (i6 ((i + 1 : Nat) : Int))), (by omega), t1.symm⟩) (.inl ⟨rfl, rfl, rfl⟩) (by omega) (Nat.le_refl _) (by simp) (by omega) (ltN hN rfl) (ot 62 (.sref 0 3 0 (a0.length + 1))))
    (oc (OpJ.apartC (tR := 4) (nm := 1) (nm2 := 0) (e1 := 51) (e2 := 51) (es := [e_api_Line v0]) (es2 := a0.map e_api_Line) Try.func64 rfl rfl (by kernel_rfl) (by kernel_rfl) Try.underlying43 tyS51 (by decide) (by decide) (by omega) (by decide) (ltN hN rfl) (ot 61 (.sref 1 3 0 1)) (ot 66 (.sref 0 3 (i + 1) (a0.length - i))))
    (oc (OpJ.not (ltN hN rfl) (ot 67 (bo false))) OpJs.nil)))))))) (by rfl) (by rfl) ?_
  refine seqQ_n ?_
  refine AWp.cond (b := (!false)) (by rfl) (fun _ => ?_) (fun hg => absurd hg (by decide))
  refine AWp.seq ?_
  refine AWp.draws (by kernel_rfl) (oc (mv hN (ot 0 (.sref 0 3 0 (a0.length + 1)))) (oc (mv hN (ot 1 (i6 (i : Int)))) (oc (mv hN (ot 7 (i6 1))) (oc (ov (i6 ((i + 1 : Nat) : Int)) (OpJ.add (ltN hN rfl) (ot 70 (i6 (i : Int))) (ot 71 (i6 1))) (by rw [w2]))
    (oc (OpJ.cutS Try.underlying43 tyS51 (obj := (we_api_Line_51_3 a0)) (l := i + 1) (h := a0.length + 1) (off' := i + 1) (len' := a0.length - i) (.inr ⟨_, _, _, rfl, (ot 72 (i6 ((i + 1 : Nat) : Int))), (by omega), t1.symm⟩) (.inl ⟨rfl, rfl, rfl⟩) (by omega) (Nat.le_refl _) (by simp) (by omega) (ltN hN rfl) (ot 69 (.sref 0 3 0 (a0.length + 1))))
    (oc (mv hN (ot 0 (.sref 0 3 0 (a0.length + 1)))) (oc (mv hN (ot 1 (i6 (i : Int))))
    (oc (OpJ.cutS Try.underlying43 tyS51 (obj := (we_api_Line_51_3 a0)) (l := i) (h := a0.length + 1) (off' := i) (len' := a0.length + 1 - i) (.inr ⟨_, _, _, rfl, (ot 75 (i6 (i : Int))), (by omega), hin.symm⟩) (.inl ⟨rfl, rfl, rfl⟩) (by omega) (Nat.le_refl _) (by simp) rfl (ltN hN rfl) (ot 74 (.sref 0 3 0 (a0.length + 1))))
    (oc (OpJ.copyRR Try.underlying43 tyS51 0 0 (di := i + 1) (dl := a0.length - i) (so := i) (sl := a0.length + 1 - i) (k := a0.length - i) (es := a0.map e_api_Line) (es2 := a0.map e_api_Line) (es' := (a0.map e_api_Line).take (i + 1) ++ (a0.map e_api_Line).drop i) (no := [(0, (we_api_Line_51_3 a0))]) (by rfl) (by rfl) (by omega) (Nat.min_eq_right (by omega)) (by rw [hml]; omega) (by rw [hml]; omega) (ins_i1.trans (by rw [hml])) (ltN hN rfl) (ot 73 (.sref 0 3 (i + 1) (a0.length - i))) (ot 76 (.sref 0 3 i (a0.length + 1 - i))))
    OpJs.nil))))))))) (by kernel_rfl) (by rfl) (by rfl) ?_
  refine seqQ_n ?_
  refine AWp.seq ?_
  refine AWp.region (oc (mv hN (ot 0 (.sref 0 3 0 (a0.length + 1)))) (oc (mv hN (ot 1 (i6 (i : Int))))
    (oc (OpJ.cutS Try.underlying43 tyS51 (obj := (.row 51 3 ((a0.map e_api_Line).take (i + 1) ++ (a0.map e_api_Line).drop i))) (l := i) (h := a0.length + 1) (off' := i) (len' := a0.length + 1 - i) (.inr ⟨_, _, _, rfl, (ot 79 (i6 (i : Int))), (by omega), hin.symm⟩) (.inl ⟨rfl, rfl, rfl⟩) (by omega) (Nat.le_refl _) (by simp) rfl (ltN hN rfl) (ot 78 (.sref 0 3 0 (a0.length + 1))))
    (oc (mv hN (ot 2 (.sref 1 3 0 1)))
    (oc (OpJ.copyRR Try.underlying43 tyS51 0 1 (di := i) (dl := a0.length + 1 - i) (so := 0) (sl := 1) (k := 1) (es := (a0.map e_api_Line).take (i + 1) ++ (a0.map e_api_Line).drop i) (es2 := [e_api_Line v0]) (es' := (a0.map e_api_Line).take i ++ [e_api_Line v0] ++ (a0.map e_api_Line).drop i) (no := [(0, (.row 51 3 ((a0.map e_api_Line).take (i + 1) ++ (a0.map e_api_Line).drop i))), (1, (.row 51 3 [e_api_Line v0]))]) (by rfl) (by rfl) (by decide) (Nat.min_eq_left (by omega)) (by simp) (by simp only [List.length_append, List.length_take, List.length_drop, hml]; omega) (ins_i2 (by rw [hml]; exact hlt)) (ltN hN rfl) (ot 80 (.sref 0 3 i (a0.length + 1 - i))) (ot 81 (.sref 1 3 0 1)))
    OpJs.nil))))) (by rfl) (by rfl) ?_
  refine seqQ_n ?_
  refine AWp.seq ?_
  refine AWp.region (oc (mv hN (ot 0 (.sref 0 3 0 (a0.length + 1)))) (oc (OpJ.assign (ltN hN rfl) (ot 83 (.sref 0 3 0 (a0.length + 1)))) OpJs.nil)) (by rfl) (by rfl) ?_
  refine seqQ_n ?_
  refine AWp.ret ?_
  refine seqQ_r ?_
  exact ⟨.inl rfl, _, _, (mp [(900000, 0)] [(6, (.sref 900000 3 0 (a0.length + 1)))] [(900000, some (.row 51 3 ((a0.map e_api_Line).take i ++ [e_api_Line v0] ++ (a0.map e_api_Line).drop i)))] hB), [(.sref 900000 3 0 (a0.length + 1))], (Res.tmp (by rfl) (by rfl) Res.nil), rfl, by rfl, by rfl, by rfl⟩

noncomputable def invoice_sums_add_2 (a0 : (List api_Line)) (a1 : api_Line) (a2 : Int) : Option (invoice_sums) :=
  (slices_BinarySearchFunc_2 a0 a1.fPort).bind fun r1 =>
  jn (fun m4 : (List api_Line) =>
  (idx m4 r1.1).bind fun x6 =>
  (idx m4 r1.1).bind fun x7 =>
  (idx m4 r1.1).bind fun x8 =>
  (idx m4 r1.1).bind fun x9 =>
  (idx (m4.set r1.1.toNat (api_Line.mk x9.fPort (w64 (x7.fUsed + (w64 (a2 * a1.fUsed)))) x9.fAmount)) r1.1).bind fun x10 =>
  (idx (m4.set r1.1.toNat (api_Line.mk x9.fPort (w64 (x7.fUsed + (w64 (a2 * a1.fUsed)))) x9.fAmount)) r1.1).bind fun x11 =>
  (idx (m4.set r1.1.toNat (api_Line.mk x9.fPort (w64 (x7.fUsed + (w64 (a2 * a1.fUsed)))) x9.fAmount)) r1.1).bind fun x12 =>
  (idx (m4.set r1.1.toNat (api_Line.mk x9.fPort (w64 (x7.fUsed + (w64 (a2 * a1.fUsed)))) x9.fAmount)) r1.1).bind fun x13 =>
  some (invoice_sums.mk ((m4.set r1.1.toNat (api_Line.mk x9.fPort (w64 (x7.fUsed + (w64 (a2 * a1.fUsed)))) x9.fAmount)).set r1.1.toNat (api_Line.mk x13.fPort x13.fUsed (w64 (x11.fAmount + (w64 (a2 * a1.fAmount)))))))) (fun j5 =>
  (if (!r1.2) = true then
  (ext53_slices_Insert_R a0 r1.1 ([(api_Line.mk a1.fPort (0 : Int) (0 : Int))] : List api_Line)).bind fun r15 =>
  j5 r15
  else
  j5 a0))
set_option maxHeartbeats 4000000 in
set_option maxRecDepth 100000 in
theorem invoice_sums_add_2_ac (a0 : (List api_Line)) (a1 : api_Line) (a2 : Int) (r : invoice_sums) (h : invoice_sums_add_2 a0 a1 a2 = some r) : AC Try.prog 34 [(.ptr 0 0 []), (.d (e_api_Line a1)), (.d (.int .i64 a2))] [(0, (.box 78 (.st [(.sref 1 3 0 a0.length)]))), (1, (.row 51 3 (a0.map e_api_Line)))] (.tup []) [(1, none), (0, some (.box 78 (.st [(.sref 950000 3 0 r.flines.length)]))), (950000, some (.row 51 3 (r.flines.map e_api_Line)))] := by
  refine AC.of_code2 Try.func34 rfl rfl (Nat.le_of_ble_eq_true (by rfl)) fun B hB hN => ?_
  have L {d : Nat} (h : Nat.blt d Try.f34.ntmps = true) : d < B.N := ltN hN h
  delta invoice_sums_add_2 at h
  refine sr (cg (OpJ.box hB (nm := 1004) (by decide) (by simp) rfl (L rfl) (q 1)) rfl cn) ?_
  refine gh [(0, _), (2, _), (4, _)] [(0, some _), (1, some _), (1004, some _)] hB rfl rfl (by rfl) ?_
  refine AWp.seq ?_
  obtain ⟨r1, hr1, h⟩ := bindS h
  refine AWp.draws (by kernel_rfl) (oc (mv hN (ot 0 (.ptr 0 0 [])))
  (oc (OpJ.nilP (obj := (.box 78 (.st [(.sref 1 3 0 a0.length)]))) (L rfl) (ot 9 (.ptr 0 0 [])))
  (oc (ov (.ptr 0 0 [0]) (fp hN Try.underlying78 0 tyS43 (.box 78 (.st [(.sref 1 3 0 a0.length)])) (ot 10 (.ptr 0 0 []))))
  (oc (lb hN 78 (.st [(.sref 1 3 0 a0.length)]) (.sref 1 3 0 a0.length) tyS43 (At.st1 (f := (.sref 1 3 0 a0.length)) (by rfl) (by rfl) (At.here _) (by first | rfl | omega)) (ot 11 (.ptr 0 0 [0])))
  (oc (ov (.ptr 1004 0 [0]) (fp hN Try.underlying51 0 tyS3 (.box 51 (.d (e_api_Line a1))) (ot 4 (.ptr 1004 0 []))))
  (oc (lb hN 51 (.d (e_api_Line a1)) (i6 a1.fPort) tyS3 (ad (.int .i64 a1.fPort)) (ot 13 (.ptr 1004 0 [0])))
  (oc (OpJ.callFn hB fnOk51 (slices_BinarySearchFunc_2_ac a0 a1.fPort r1 hr1) [(0, 1)] (by kernel_rfl) (L rfl) (by kernel_rfl) (OpdL.cons (ot 12 (.sref 1 3 0 a0.length)) (OpdL.cons (ot 14 (i6 a1.fPort)) (OpdL.cons (Opd.func 52) OpdL.nil))))
  (oc (mv hN (ot 15 (.tup [(i6 r1.1), (bo r1.2)])))
  (oc (OpJ.extract (v := (i6 r1.1)) (by rfl) rfl (L rfl) (ot 8 (.tup [(i6 r1.1), (bo r1.2)])))
  (oc (OpJ.extract (v := (bo r1.2)) (by rfl) rfl (L rfl) (ot 8 (.tup [(i6 r1.1), (bo r1.2)])))
  (oc (OpJ.assign (L rfl) (ot 16 (i6 r1.1)))
  (oc (OpJ.assign (L rfl) (ot 17 (bo r1.2)))
  (OpJs.nil))))))))))))) (by kernel_rfl) (by rfl) (by rfl) ?_
  refine seqQ_n ?_
  refine AWp.ghost (mp [] [(0, (.ptr 0 0 [])), (2, (i6 a2)), (4, (.ptr 1004 0 [])), (6, (i6 r1.1)), (7, (bo r1.2))] [(0, some (.box 78 (.st [(.sref 1 3 0 a0.length)]))), (1, some (we_api_Line_51_3 a0)), (1004, some (.box 51 (.d (e_api_Line a1))))] hB) ?_
  refine AWp.seq ?_
  refine sr (c (mv hN (q 7)) rfl (c (OpJ.not (L rfl) (q 18)) rfl cn)) ?_
  refine gh [(0, _), (2, _), (4, _), (6, _), (19, _)] [(0, some _), (1, some _), (1004, some _)] hB rfl rfl (by rfl) ?_
  refine AWp.cut h (fun m4 : (List api_Line) => ([(0, (.ptr 0 0 [])), (2, (i6 a2)), (4, (.ptr 1004 0 [])), (6, (i6 r1.1))] : EL)) (fun m4 : (List api_Line) => ([(0, some (.box 78 (.st [(.sref 3000 3 0 m4.length)]))), (1004, some (.box 51 (.d (e_api_Line a1)))), (3000, some (we_api_Line_51_3 m4))] : OL)) (fun m4 h E' O' hmat => ?_) (fun j5 hjj5 h => ?_)
  · refine seqQ_n ?_
    refine AWp.ghost hmat ?_
    obtain ⟨x6, hx6, h⟩ := bindS h
    obtain ⟨x7, hx7, h⟩ := bindS h
    obtain ⟨x8, hx8, h⟩ := bindS h
    obtain ⟨x9, hx9, h⟩ := bindS h
    refine sd (c (mv hN (q 0)) rfl (c (OpJ.nilP (L rfl) (q 33)) rfl (c (ov (.ptr 0 0 [0]) (fp hN Try.underlying78 0 tyS43 _ (q 34))) rfl (c (lb hN 78 _ (.sref 3000 3 0 m4.length) tyS43 (At.st1 (f := (.sref 3000 3 0 m4.length)) (by rfl) (by rfl) (At.here _) (by first | rfl | omega)) (q 35)) rfl (c (mv hN (q 6)) rfl (c (OpJ.val (v' := (.ptr 3000 (r1.1.toNat * 3) [r1.1.toNat])) (by simp) (OpJ.indexS Try.underlying43 tyS51 (idx_some hx6).1 (by have := idx_lt hx6; first | (simpa using this) | ((try simp only [List.length_map] at this); (try simp only [List.length_map]); omega)) (L rfl) (q 36) (q 37))) rfl (c (ov (.ptr 3000 ((r1.1.toNat * 3) + 1) [r1.1.toNat, 1]) (fp hN Try.underlying51 1 tyS3 _ (q 38))) rfl (c (OpJ.loadR (e := 51) (sz := 3) tyS3 (get_map e_api_Line (idx_some hx7).2) (o := 1) (ad _) (by rfl) (by rfl) (by rfl) (L rfl) (q 39)) rfl (c (mv hN (q 2)) rfl (c (ov (.ptr 1004 1 [1]) (fp hN Try.underlying51 1 tyS3 _ (q 4))) rfl (c (lb hN 51 _ _ tyS3 (ad _) (q 42)) rfl (c (mul6 (L rfl) (q 41) (q 43)) rfl (c (add6 (L rfl) (q 40) (q 44)) rfl (c (OpJ.val (v' := (.ptr 3000 (r1.1.toNat * 3) [r1.1.toNat])) (by simp) (OpJ.indexS Try.underlying43 tyS51 (idx_some hx8).1 (by have := idx_lt hx8; first | (simpa using this) | ((try simp only [List.length_map] at this); (try simp only [List.length_map]); omega)) (L rfl) (q 36) (q 37))) rfl (c (ov (.ptr 3000 ((r1.1.toNat * 3) + 1) [r1.1.toNat, 1]) (fp hN Try.underlying51 1 tyS3 _ (q 46))) rfl (cg (OpJ.storeR (e := 51) (sz := 3) (es' := (m4.set r1.1.toNat (api_Line.mk x9.fPort (w64 (x7.fUsed + (w64 (a2 * a1.fUsed)))) x9.fAmount)).map e_api_Line) tyS3 (get_map e_api_Line (idx_some hx9).2) (o := 1) (SetAt.dst1 (by rfl) (by rfl) (SetAt.here _ _) (by rfl) (by rfl) (by first | rfl | omega)) (by rfl) (map_set _ _ _ _) (by rfl) (by rfl) (q 47) (q 45)) rfl cn)))))))))))))))) (by kernel_rfl) (by kernel_rfl) ?_
    refine gh [(0, _), (2, _), (4, _), (6, _)] [(0, some _), (1004, some _), (3000, some _)] hB rfl rfl (by rfl) ?_
    obtain ⟨x10, hx10, h⟩ := bindS h
    obtain ⟨x11, hx11, h⟩ := bindS h
    obtain ⟨x12, hx12, h⟩ := bindS h
    obtain ⟨x13, hx13, h⟩ := bindS h
    refine dr (c (mv hN (q 0)) rfl (c (OpJ.nilP (L rfl) (q 48)) rfl (c (ov (.ptr 0 0 [0]) (fp hN Try.underlying78 0 tyS43 _ (q 49))) rfl (c (lb hN 78 _ (.sref 3000 3 0 m4.length) tyS43 (At.st1 (f := (.sref 3000 3 0 m4.length)) (by rfl) (by rfl) (At.here _) (by first | rfl | omega)) (q 50)) rfl (c (mv hN (q 6)) rfl (c (OpJ.val (v' := (.ptr 3000 (r1.1.toNat * 3) [r1.1.toNat])) (by simp) (OpJ.indexS Try.underlying43 tyS51 (idx_some hx10).1 (by have := idx_lt hx10; first | (simpa using this) | ((try simp only [List.length_map] at this); (try simp only [List.length_map]); omega)) (L rfl) (q 51) (q 52))) rfl (c (ov (.ptr 3000 ((r1.1.toNat * 3) + 2) [r1.1.toNat, 2]) (fp hN Try.underlying51 2 tyS3 _ (q 53))) rfl (c (OpJ.loadR (e := 51) (sz := 3) tyS3 (get_map e_api_Line (idx_some hx11).2) (o := 2) (ad _) (by rfl) (by rfl) (by rfl) (L rfl) (q 54)) rfl (c (mv hN (q 2)) rfl (c (ov (.ptr 1004 2 [2]) (fp hN Try.underlying51 2 tyS3 _ (q 4))) rfl (c (lb hN 51 _ _ tyS3 (ad _) (q 57)) rfl (c (mul6 (L rfl) (q 56) (q 58)) rfl (c (add6 (L rfl) (q 55) (q 59)) rfl (c (OpJ.val (v' := (.ptr 3000 (r1.1.toNat * 3) [r1.1.toNat])) (by simp) (OpJ.indexS Try.underlying43 tyS51 (idx_some hx12).1 (by have := idx_lt hx12; first | (simpa using this) | ((try simp only [List.length_map] at this); (try simp only [List.length_map]); omega)) (L rfl) (q 51) (q 52))) rfl (c (ov (.ptr 3000 ((r1.1.toNat * 3) + 2) [r1.1.toNat, 2]) (fp hN Try.underlying51 2 tyS3 _ (q 61))) rfl (cg (OpJ.storeR (e := 51) (sz := 3) (es' := ((m4.set r1.1.toNat (api_Line.mk x9.fPort (w64 (x7.fUsed + (w64 (a2 * a1.fUsed)))) x9.fAmount)).set r1.1.toNat (api_Line.mk x13.fPort x13.fUsed (w64 (x11.fAmount + (w64 (a2 * a1.fAmount)))))).map e_api_Line) tyS3 (get_map e_api_Line (idx_some hx13).2) (o := 2) (SetAt.dst1 (by rfl) (by rfl) (SetAt.here _ _) (by rfl) (by rfl) (by first | rfl | omega)) (by rfl) (map_set _ _ _ _) (by rfl) (by rfl) (q 62) (q 60)) rfl cn)))))))))))))))) (by kernel_rfl) (by kernel_rfl) ?_
    obtain rfl := Option.some.inj h
    exact ⟨.inr rfl, _, _, (Mat.trans (mp [] [] [(0, some (.box 78 (.st [(.sref 3000 3 0 m4.length)]))), (3000, some (we_api_Line_51_3 ((m4.set r1.1.toNat (api_Line.mk x9.fPort (w64 (x7.fUsed + (w64 (a2 * a1.fUsed)))) x9.fAmount)).set r1.1.toNat (api_Line.mk x13.fPort x13.fUsed (w64 (x11.fAmount + (w64 (a2 * a1.fAmount))))))))] hB) (Mat.trans (Mat.lenP (Ts := []) (Bs := [(0, some (.box 78 (.st [(.sref 3000 3 0 (((m4.set r1.1.toNat (api_Line.mk x9.fPort (w64 (x7.fUsed + (w64 (a2 * a1.fUsed)))) x9.fAmount)).set r1.1.toNat (api_Line.mk x13.fPort x13.fUsed (w64 (x11.fAmount + (w64 (a2 * a1.fAmount)))))).length))])))]) TwT.nil (TwB.cons (x := (.st [(.sref 3000 3 0 m4.length)])) (by rfl) (Tw.st (TwL.cons (Tw.leaf ⟨_, _, _, _, _, rfl, rfl, (by first | rfl | (simp; done) | (simp; omega))⟩) TwL.nil)) TwB.nil)) (mp [(950000, 3000)] [] [(0, some (.box 78 (.st [(.sref 950000 3 0 (((m4.set r1.1.toNat (api_Line.mk x9.fPort (w64 (x7.fUsed + (w64 (a2 * a1.fUsed)))) x9.fAmount)).set r1.1.toNat (api_Line.mk x13.fPort x13.fUsed (w64 (x11.fAmount + (w64 (a2 * a1.fAmount)))))).length))]))), (950000, some (we_api_Line_51_3 ((m4.set r1.1.toNat (api_Line.mk x9.fPort (w64 (x7.fUsed + (w64 (a2 * a1.fUsed)))) x9.fAmount)).set r1.1.toNat (api_Line.mk x13.fPort x13.fUsed (w64 (x11.fAmount + (w64 (a2 * a1.fAmount))))))))] hB))), [], Res.nil, rfl, by rfl, by rfl, by rfl⟩
  · refine AWp.cond rfl (fun hg14 => ?_) (fun hg14 => ?_)
    · replace h := ite_t hg14 h
      obtain ⟨r15, hr15, h⟩ := bindS h
      refine AWp.draws (by kernel_rfl) (oc (mv hN (ot 0 (.ptr 0 0 [])))
        (oc (mv hN (ot 0 (.ptr 0 0 [])))
        (oc (OpJ.nilP (obj := (.box 78 (.st [(.sref 1 3 0 a0.length)]))) (L rfl) (ot 21 (.ptr 0 0 [])))
        (oc (ov (.ptr 0 0 [0]) (fp hN Try.underlying78 0 tyS43 (.box 78 (.st [(.sref 1 3 0 a0.length)])) (ot 22 (.ptr 0 0 []))))
        (oc (lb hN 78 (.st [(.sref 1 3 0 a0.length)]) (.sref 1 3 0 a0.length) tyS43 (At.st1 (f := (.sref 1 3 0 a0.length)) (by rfl) (by rfl) (At.here _) (by first | rfl | omega)) (ot 23 (.ptr 0 0 [0])))
        (oc (mv hN (ot 6 (i6 r1.1)))
        (oc (ov (.ptr 1004 0 [0]) (fp hN Try.underlying51 0 tyS3 (.box 51 (.d (e_api_Line a1))) (ot 4 (.ptr 1004 0 []))))
        (oc (lb hN 51 (.d (e_api_Line a1)) (i6 a1.fPort) tyS3 (ad (.int .i64 a1.fPort)) (ot 26 (.ptr 1004 0 [0])))
        (oc (OpJ.coe (v := (.st [(i6 a1.fPort), (i6 0), (i6 0)])) (y := (.st [(.int .i64 a1.fPort), (.int .i64 0), (.int .i64 0)])) (Co.st (CoL.cons (Co.d _) (CoL.cons (Co.d _) (CoL.cons (Co.d _) CoL.nil)))) rfl (OpJ.build (places := [(0, 1), (1, 1), (2, 1)]) ⟨Try.underlying51, fun w => by kernel_rfl⟩ tyZS51 (Opds.cons (ot 27 (i6 a1.fPort)) Opds.nil) (by kernel_rfl) (r := (.st [(i6 a1.fPort), (i6 0), (i6 0)])) (by rfl) (L rfl)))
        (oc (OpJ.buildSliceR Try.underlying43 tyS51 tyZD51 (by rfl) (by decide) (by decide) hB (nm := 1029) (by decide) (len := ([(api_Line.mk a1.fPort (0 : Int) (0 : Int))] : List api_Line).length) (by rfl) (Opds.cons (ot 28 (.d (.st [(.int .i64 a1.fPort), (.int .i64 0), (.int .i64 0)]))) Opds.nil) (by kernel_rfl) (es := ([(api_Line.mk a1.fPort (0 : Int) (0 : Int))] : List api_Line).map e_api_Line) (by rfl) (by rfl) (by kernel_rfl) (by simp) (L rfl))
        (oc (OpJ.callFn hB fnOk53 (ext53_slices_Insert_R_ac a0 r1.1 ([(api_Line.mk a1.fPort (0 : Int) (0 : Int))] : List api_Line) r15 hr15) [(0, 1), (1, 1029), (900000, 100100)] (by kernel_rfl) (L rfl) (by kernel_rfl) (OpdL.cons (ot 24 (.sref 1 3 0 a0.length)) (OpdL.cons (ot 25 (i6 r1.1)) (OpdL.cons (ot 29 (.sref 1029 3 0 (([(api_Line.mk a1.fPort (0 : Int) (0 : Int))] : List api_Line).length))) OpdL.nil))))
        (oc (OpJ.nilP (obj := (.box 78 (.st [(.sref 1 3 0 a0.length)]))) (L rfl) (ot 20 (.ptr 0 0 [])))
        (oc (ov (.ptr 0 0 [0]) (fp hN Try.underlying78 0 tyS43 (.box 78 (.st [(.sref 1 3 0 a0.length)])) (ot 31 (.ptr 0 0 []))))
        (oc (OpJ.storeB (bt := 78) (c := (.st [(.sref 1 3 0 a0.length)])) (v := (.sref 100100 3 0 r15.length)) (c' := (.st [(.sref 100100 3 0 r15.length)])) tyS43 (SetAt.st1 (f := (.sref 1 3 0 a0.length)) (by rfl) (by rfl) (SetAt.here _ _) (by rfl) (by rfl) (by first | rfl | omega)) (by rfl) (by rfl) (by simp) rfl (ot 32 (.ptr 0 0 [0])) (ot 30 (.sref 100100 3 0 r15.length)))
        (OpJs.nil))))))))))))))) (by kernel_rfl) (by rfl) (by rfl) ?_
      exact hjj5 _ h _ _ (Mat.trans (mp [] [(0, (.ptr 0 0 [])), (2, (i6 a2)), (4, (.ptr 1004 0 [])), (6, (i6 r1.1))] [(0, some (.box 78 (.st [(.sref 100100 3 0 r15.length)]))), (1004, some (.box 51 (.d (e_api_Line a1)))), (100100, some (we_api_Line_51_3 r15))] hB) (mp [(3000, 100100)] _ _ hB))
    · replace h := ite_f hg14 h
      refine AWp.skip ?_
      exact hjj5 _ h _ _ (mp [(3000, 1)] _ _ hB)

noncomputable def invoice_sums_invoice_L0 (a0 : (List api_Line)) (s1 : Int × Int) : Option (((Int)) ⊕ (Int × Int)) :=
  (if (decide (s1.1 < (a0.length : Int))) = true then
  (idx a0 s1.1).bind fun x10 =>
  (idx a0 s1.1).bind fun x11 =>
  some (.inr ((w64 (s1.1 + (1 : Int))), (w64 (s1.2 + x11.fAmount))))
  else
  some (.inl s1.2))
noncomputable def invoice_sums_invoice (a0 : (List api_Line)) (a1 : Int) (a2 : Int) (a3 : Int) : Option (api_Invoice × invoice_sums) :=
  (loop (invoice_sums_invoice_L0 a0) ((0 : Int), (0 : Int))).bind fun p8 =>
  some ((api_Invoice.mk a1 a2 a3 a0 p8), (invoice_sums.mk a0))
set_option maxHeartbeats 4000000 in
set_option maxRecDepth 100000 in
theorem invoice_sums_invoice_ac (a0 : (List api_Line)) (a1 : Int) (a2 : Int) (a3 : Int) (r : api_Invoice × invoice_sums) (h : invoice_sums_invoice a0 a1 a2 a3 = some r) : AC Try.prog 35 [(.ptr 0 0 []), (.d (.int .i64 a1)), (.d (.int .i64 a2)), (.d (.int .i64 a3))] [(0, (.box 78 (.st [(.sref 1 3 0 a0.length)]))), (1, (.row 51 3 (a0.map e_api_Line)))] (.d (e_api_Invoice r.1)) [(1, none), (0, some (.box 78 (.d (e_invoice_sums r.2))))] := by
  refine AC.of_code2 Try.func35 rfl rfl (Nat.le_of_ble_eq_true (by rfl)) fun B hB hN => ?_
  delta invoice_sums_invoice at h
  refine sr (cg (OpJ.alloc hB tyZ45 (nm := 1008) (by decide) (ltN hN rfl)) rfl cn) ?_
  refine gh [(0, _), (1, _), (2, _), (3, _), (8, _)] [(0, some _), (1, some _), (1008, some _)] hB rfl rfl (by rfl) ?_
  refine sr (c (mv hN (q 1)) rfl (c (mv hN (q 2)) rfl (c (mv hN (q 3)) rfl (c (mv hN (q 0)) rfl (c (OpJ.nilP (ltN hN rfl) (q 15)) rfl (c (ov (.ptr 0 0 [0]) (fp hN Try.underlying78 0 tyS43 _ (q 16))) rfl (c (lb hN 78 _ (.sref 1 3 0 a0.length) tyS43 (At.st1 (f := (.sref 1 3 0 a0.length)) (by rfl) (by rfl) (At.here _) (by first | rfl | omega)) (q 17)) rfl (c (OpJ.build (places := [(0, 1), (1, 1), (2, 1), (3, 1), (4, 1)]) ⟨Try.underlying45, fun w => by kernel_rfl⟩ tyZS45 (Opds.cons (q 12) (Opds.cons (q 13) (Opds.cons (q 14) (Opds.cons (q 18) Opds.nil)))) (by kernel_rfl) (r := (.st [(i6 a1), (i6 a2), (i6 a3), (.sref 1 3 0 a0.length), (i6 0)])) (by rfl) (ltN hN rfl)) rfl (cg (OpJ.alloc hB tyZ45 (nm := 1009) (by decide) (ltN hN rfl)) rfl (cg (OpJ.storeB tyS45 (SetAt.here _ _) (by rfl) (by rfl) (by simp) rfl (q 9) (q 19)) rfl cn)))))))))) ?_
  refine gh [(0, _), (8, _), (9, _)] [(0, some _), (1, some _), (1008, some _), (1009, some _)] hB rfl rfl (by rfl) ?_
  refine AWp.seq ?_
  refine sr (c (mv hN (q 0)) rfl (c (OpJ.nilP (ltN hN rfl) (q 20)) rfl (c (ov (.ptr 0 0 [0]) (fp hN Try.underlying78 0 tyS43 _ (q 21))) rfl (c (lb hN 78 _ (.sref 1 3 0 a0.length) tyS43 (At.st1 (f := (.sref 1 3 0 a0.length)) (by rfl) (by rfl) (At.here _) (by first | rfl | omega)) (q 22)) rfl (c (OpJ.lenS Try.underlying43 (ltN hN rfl) (q 23)) rfl (c (mv hN (Opd.int .i64 (0))) rfl cn)))))) ?_
  refine gh [(8, _), (9, _), (23, _), (24, _), (25, _)] [(0, some _), (1, some _), (1008, some _), (1009, some _)] hB rfl rfl (by rfl) ?_
  refine AWp.block ?_
  obtain ⟨p8, hx13, h⟩ := bindS h
  refine lg (invoice_sums_invoice_L0 a0) (fun s1 : Int × Int => ([(8, (.ptr 1008 0 [])), (9, (.ptr 1009 0 [])), (23, (.sref 1 3 0 a0.length)), (24, (i6 (a0.length : Int))), (25, (i6 s1.1))] : EL)) (fun s1 : Int × Int => ([(0, some (.box 78 (.st [(.sref 1 3 0 a0.length)]))), (1, some (we_api_Line_51_3 a0)), (1008, some (.box 45 (.st [(i6 0), (i6 0), (i6 0), .nils, (i6 0)]))), (1009, some (.box 45 (.st [(i6 a1), (i6 a2), (i6 a3), (.sref 1 3 0 a0.length), (i6 s1.2)])))] : OL)) (fun (p8 : (Int)) e E' O' => e = .exit 0 ∧ Mat B E' O' ([(8, (.ptr 1008 0 [])), (9, (.ptr 1009 0 []))] : EL) ([(0, some (.box 78 (.st [(.sref 1 3 0 a0.length)]))), (1, some (we_api_Line_51_3 a0)), (1008, some (.box 45 (.st [(i6 0), (i6 0), (i6 0), .nils, (i6 0)]))), (1009, some (.box 45 (.st [(i6 a1), (i6 a2), (i6 a3), (.sref 1 3 0 a0.length), (i6 p8)])))] : OL)) hx13 (mp [] _ _ hB) (fun s1 y h => ?_) (fun e E' O' hR => ?_)
  · unfold invoice_sums_invoice_L0 at h
    refine sr (c (OpJ.lss (ltN hN rfl) (q 25) (q 24)) rfl cn) ?_
    refine gh [(8, _), (9, _), (23, _), (24, _), (25, _), (26, _)] [(0, some _), (1, some _), (1008, some _), (1009, some _)] hB rfl rfl (by rfl) ?_
    refine AWp.seq ?_
    refine AWp.cond rfl (fun hg9 => ?_) (fun hg9 => ?_)
    · replace h := ite_t hg9 h
      refine AWp.skip ?_
      refine seqQ_n ?_
      refine AWp.seq ?_
      refine AWp.block ?_
      obtain ⟨x10, hx10, h⟩ := bindS h
      obtain ⟨x11, hx11, h⟩ := bindS h
      refine sr (c (OpJ.val (v' := (.ptr 1 (s1.1.toNat * 3) [s1.1.toNat])) (by simp) (OpJ.indexS Try.underlying43 tyS51 (idx_some hx10).1 (by have := idx_lt hx10; first | (simpa using this) | ((try simp only [List.length_map] at this); (try simp only [List.length_map]); omega)) (ltN hN rfl) (q 23) (q 25))) rfl (c (OpJ.loadR (e := 51) (sz := 3) tyS51 (get_map e_api_Line (idx_some hx11).2) (o := 0) (At.here _) (by rfl) (by rfl) (by rfl) (ltN hN rfl) (q 27)) rfl (cg (OpJ.alloc hB tyZ51 (nm := 1011) (by decide) (ltN hN rfl)) rfl (cg (OpJ.storeB tyS51 (SetAt.here _ _) (by rfl) (by rfl) (by simp) rfl (q 11) (q 28)) rfl cn)))) ?_
      refine gh [(8, _), (9, _), (11, _), (23, _), (24, _), (25, _)] [(0, some _), (1, some _), (1008, some _), (1009, some _), (1011, some _)] hB rfl rfl (by rfl) ?_
      refine rg (c (ov (.ptr 1009 4 [4]) (fp hN Try.underlying45 4 tyS3 _ (q 9))) rfl (c (lb hN 45 _ (i6 s1.2) tyS3 (At.st1 (f := (i6 s1.2)) (by rfl) (by rfl) (At.here _) (by first | rfl | omega)) (q 29)) rfl (c (ov (.ptr 1011 2 [2]) (fp hN Try.underlying51 2 tyS3 _ (q 11))) rfl (c (lb hN 51 _ _ tyS3 (ad _) (q 31)) rfl (c (add6 (ltN hN rfl) (q 30) (q 32)) rfl (c (ov (.ptr 1009 4 [4]) (fp hN Try.underlying45 4 tyS3 _ (q 9))) rfl (cg (OpJ.storeB (c' := (.st [(i6 a1), (i6 a2), (i6 a3), (.sref 1 3 0 a0.length), (i6 (w64 (s1.2 + x11.fAmount)))])) tyS3 (SetAt.st1 (f := (i6 s1.2)) (by rfl) (by rfl) (SetAt.here _ _) (by rfl) (by rfl) (by first | rfl | omega)) (by rfl) (by rfl) (by simp) rfl (q 34) (q 33)) rfl cn))))))) ?_
      refine blkQ_n ?_
      refine seqQ_n ?_
      refine gh [(8, _), (9, _), (23, _), (24, _), (25, _)] [(0, some _), (1, some _), (1008, some _), (1009, some _)] hB rfl rfl (by rfl) ?_
      refine rg (c (add6 (ltN hN rfl) (q 25) (Opd.int .i64 (1))) rfl (c (mv hN (q 35)) rfl cn)) ?_
      obtain rfl := Option.some.inj h
      exact ⟨rfl, (Mat.trans (mp [] [(8, (.ptr 1008 0 [])), (9, (.ptr 1009 0 [])), (23, (.sref 1 3 0 a0.length)), (24, (i6 (a0.length : Int))), (25, (i6 (w64 (s1.1 + (1 : Int)))))] [(0, some (.box 78 (.st [(.sref 1 3 0 a0.length)]))), (1, some (we_api_Line_51_3 a0)), (1008, some (.box 45 (.st [(i6 0), (i6 0), (i6 0), .nils, (i6 0)]))), (1009, some (.box 45 (.st [(i6 a1), (i6 a2), (i6 a3), (.sref 1 3 0 a0.length), (i6 (w64 (s1.2 + x11.fAmount)))])))] hB) (mp [] _ _ hB))⟩
    · replace h := ite_f hg9 h
      refine AWp.exit ?_
      refine seqQ_e ?_
      obtain rfl := Option.some.inj h
      exact ⟨(fun hc => by cases hc), rfl, (mp [] _ _ hB)⟩
  · obtain ⟨rfl, hmat⟩ := hR
    refine blkQ_hit ?_
    refine seqQ_n ?_
    refine AWp.ghost hmat ?_
    refine sr (c (lb hN 45 _ _ tyS45 (At.here _) (q 9)) rfl (cg (OpJ.storeB tyS45 (SetAt.here _ _) (by rfl) (by rfl) (by simp) rfl (q 8) (q 36)) rfl cn)) ?_
    refine gh [(8, _)] [(0, some _), (1, some _), (1008, some _)] hB rfl rfl (by rfl) ?_
    refine AWp.ret ?_
    obtain rfl := Option.some.inj h
    exact ⟨.inl rfl, _, _, (Mat.trans (Mat.freezeP (n := 1) (e := 51) (sz := 3) (es := a0.map e_api_Line) (Ts := []) (Bs := [(0, some (.box 78 (.st [(qe_api_Line_3 a0)]))), (1008, some (.box 45 (.st [(i6 a1), (i6 a2), (i6 a3), (qe_api_Line_3 a0), (i6 p8)])))]) (by rfl) TwT.nil (TwB.cons (x := (.st [(.sref 1 3 0 a0.length)])) (by rfl) (Tw.st (TwL.cons (FrzL.all (by first | rfl | (simp; done) | (simp; omega))) TwL.nil)) (TwB.cons (x := (.st [(i6 a1), (i6 a2), (i6 a3), (.sref 1 3 0 a0.length), (i6 p8)])) (by rfl) (Tw.st (TwL.cons (Tw.same _) (TwL.cons (Tw.same _) (TwL.cons (Tw.same _) (TwL.cons (FrzL.all (by first | rfl | (simp; done) | (simp; omega))) (TwL.cons (Tw.same _) TwL.nil)))))) TwB.nil))) (Mat.trans (Mat.coeP (Ts := []) (Bs := [(1008, some (.box 45 (.d (.st [(.int .i64 a1), (.int .i64 a2), (.int .i64 a3), (.list 3 (a0.map e_api_Line)), (.int .i64 p8)]))))]) TwT.nil (TwB.cons (x := (.st [(i6 a1), (i6 a2), (i6 a3), (qe_api_Line_3 a0), (i6 p8)])) (by rfl) (Tw.leaf ⟨_, (Co.st (CoL.cons (Co.d _) (CoL.cons (Co.d _) (CoL.cons (Co.d _) (CoL.cons (Co.d _) (CoL.cons (Co.d _) CoL.nil)))))), rfl⟩) TwB.nil)) (Mat.trans (Mat.coeP (Ts := []) (Bs := [(0, some (.box 78 (.d (.st [(.list 3 (a0.map e_api_Line))]))))]) TwT.nil (TwB.cons (x := (.st [(qe_api_Line_3 a0)])) (by rfl) (Tw.leaf ⟨_, (Co.st (CoL.cons (Co.d _) CoL.nil)), rfl⟩) TwB.nil)) (mp [] [(8, (.ptr 1008 0 []))] [(0, some (.box 78 (.d (.st [(.list 3 (a0.map e_api_Line))])))), (1008, some (.box 45 (.d (.st [(.int .i64 a1), (.int .i64 a2), (.int .i64 a3), (.list 3 (a0.map e_api_Line)), (.int .i64 p8)]))))] hB)))), [(.d (.st [(.int .i64 a1), (.int .i64 a2), (.int .i64 a3), (.list 3 (a0.map e_api_Line)), (.int .i64 p8)]))], (Res.cell (c := (.d (.st [(.int .i64 a1), (.int .i64 a2), (.int .i64 a3), (.list 3 (a0.map e_api_Line)), (.int .i64 p8)]))) (by rfl) (by rfl) tyS45 (by rfl) (by rfl) (by rfl) Res.nil), rfl, by rfl, by rfl, by rfl⟩

noncomputable def invoice_Make_L0 (a2 : api_Tariff) (a3 : (List api_Series)) (r1 : (List Int) × Bool) (s11 : Int × (List api_Line)) : Option (((Int) ⊕ ((List api_Line))) ⊕ (Int × (List api_Line))) :=
  (if (decide (s11.1 < (r1.1.length : Int))) = true then
  (idx r1.1 s11.1).bind fun x35 =>
  (slices_IndexFunc a3 x35).bind fun r36 =>
  (if (decide (r36 < (0 : Int))) = true then
  some (.inl (.inl (7 : Int)))
  else
  (idx a3 r36).bind fun x38 =>
  (percentile_Used x38 (95 : Int)).bind fun r39 =>
  (if (r39.2 != (0 : Int)) = true then
  some (.inl (.inl r39.2))
  else
  (invoice_Price a2 r39.1).bind fun r41 =>
  (if (r41.2 != (0 : Int)) = true then
  some (.inl (.inl r41.2))
  else
  (invoice_sums_add_2 s11.2 (api_Line.mk x35 r39.1 r41.1) (1 : Int)).bind fun r43 =>
  some (.inr ((w64 (s11.1 + (1 : Int))), r43.flines)))))
  else
  some (.inl (.inr s11.2)))
noncomputable def invoice_Make (a0 : api_Member) (a1 : Int) (a2 : api_Tariff) (a3 : (List api_Series)) : Option (api_Invoice × Int) :=
  (invoice_ports a0).bind fun r1 =>
  jn (fun m6 : Bool =>
  (if m6 = true then
  some ((api_Invoice.mk (0 : Int) (0 : Int) (0 : Int) ([] : List api_Line) (0 : Int)), (1 : Int))
  else
  (invoice_tariff a2).bind fun r9 =>
  (if (!r9) = true then
  some ((api_Invoice.mk (0 : Int) (0 : Int) (0 : Int) ([] : List api_Line) (0 : Int)), (38 : Int))
  else
  (loop (invoice_Make_L0 a2 a3 r1) ((0 : Int), ([] : List api_Line))).bind fun x44 => match x44 with
  | (.inl p32) =>
    some ((api_Invoice.mk (0 : Int) (0 : Int) (0 : Int) ([] : List api_Line) (0 : Int)), p32)
  | (.inr p33) =>
    (invoice_sums_invoice p33 a0.fASN a1 (1 : Int)).bind fun r46 =>
    some (r46.1, (0 : Int))))) (fun j7 =>
  (if (!r1.2) = true then
  j7 true
  else
  (invoice_member a0.fASN).bind fun r48 =>
  (if (!r48) = true then
  j7 true
  else
  (invoice_month a1).bind fun r50 =>
  j7 (!r50))))
set_option maxHeartbeats 4000000 in
set_option maxRecDepth 100000 in
theorem invoice_Make_ac (a0 : api_Member) (a1 : Int) (a2 : api_Tariff) (a3 : (List api_Series)) (r : api_Invoice × Int) (h : invoice_Make a0 a1 a2 a3 = some r) : AC Try.prog 13 [(.d (e_api_Member a0)), (.d (.int .i64 a1)), (.d (e_api_Tariff a2)), (.d (.list 4 (a3.map e_api_Series)))] [] (.tup [(.d (e_api_Invoice r.1)), (.d (.int .i64 r.2))]) [] := by
  refine AC.of_code2 Try.func13 rfl rfl (Nat.le_of_ble_eq_true (by rfl)) fun B hB hN => ?_
  have L {d : Nat} (h : Nat.blt d Try.f13.ntmps = true) : d < B.N := ltN hN h
  delta invoice_Make at h
  refine sr (cg (OpJ.box hB (nm := 1004) (by decide) (by simp) rfl (L rfl) (q 0)) rfl (cg (OpJ.box hB (nm := 1006) (by decide) (by simp) rfl (L rfl) (q 2)) rfl (cg (OpJ.alloc hB tyZ45 (nm := 1008) (by decide) (L rfl)) rfl (c (OpJ.assign (L rfl) (Opd.int .i64 (0))) rfl cn)))) ?_
  refine gh [(1, _), (3, _), (4, _), (6, _), (8, _)] [(1004, some _), (1006, some _), (1008, some _)] hB rfl rfl (by rfl) ?_
  obtain ⟨r1, hr1, h⟩ := bindS h
  refine sr (c (lb hN 24 _ _ tyS24 (At.here _) (q 4)) rfl (cg (OpJ.callFn hB fnOk28 (invoice_ports_ac a0 r1 hr1) [] (by kernel_rfl) (L rfl) (by kernel_rfl) (OpdL.cons (q 20) OpdL.nil)) rfl (c (mv hN (q 21)) rfl (c (OpJ.extract (by rfl) rfl (L rfl) (q 19)) rfl (c (OpJ.extract (by rfl) rfl (L rfl) (q 19)) rfl (c (OpJ.assign (L rfl) (q 22)) rfl (c (OpJ.assign (L rfl) (q 23)) rfl cn))))))) ?_
  refine gh [(1, _), (3, _), (4, _), (6, _), (8, _), (10, _), (11, _)] [(1004, some _), (1006, some _), (1008, some _)] hB rfl rfl (by rfl) ?_
  refine AWp.seq ?_
  refine AWp.seq ?_
  refine AWp.cut h (fun m6 : Bool => ([(1, (i6 a1)), (3, (qe_api_Series_4 a3)), (4, (.ptr 1004 0 [])), (6, (.ptr 1006 0 [])), (8, (.ptr 1008 0 [])), (10, (qI_1 r1.1)), (36, (bo m6))] : EL)) (fun m6 : Bool => ([(1004, some (.box 24 (.d (e_api_Member a0)))), (1006, some (.box 27 (.d (e_api_Tariff a2)))), (1008, some (.box 45 (.st [(i6 0), (i6 0), (i6 0), .nils, (i6 0)])))] : OL)) (fun m6 h E' O' hmat => ?_) (fun j7 hjj7 h => ?_)
  · refine seqQ_n ?_
    refine AWp.ghost hmat ?_
    refine AWp.cond rfl (fun hg8 => ?_) (fun hg8 => ?_)
    · replace h := ite_t hg8 h
      refine sr (c (OpJ.build (places := [(0, 1), (1, 1), (2, 1), (3, 1), (4, 1)]) ⟨Try.underlying45, fun w => by kernel_rfl⟩ tyZS45 Opds.nil (by kernel_rfl) (r := (.st [(i6 0), (i6 0), (i6 0), .nils, (i6 0)])) (by rfl) (L rfl)) rfl (cg (OpJ.storeB tyS45 (SetAt.here _ _) (by rfl) (by rfl) (by simp) rfl (q 8) (q 37)) rfl (c (OpJ.assign (L rfl) (Opd.int .i64 (1))) rfl cn))) ?_
      refine gh [(8, _), (9, _)] [(1008, some _)] hB rfl rfl (by rfl) ?_
      refine AWp.ret ?_
      refine seqQ_r ?_
      obtain rfl := Option.some.inj h
      exact ⟨.inl rfl, _, _, (Mat.trans (Mat.coeP (Ts := []) (Bs := [(1008, some (.box 45 (.d (.st [(.int .i64 0), (.int .i64 0), (.int .i64 0), (.list 3 (([] : List api_Line).map e_api_Line)), (.int .i64 0)]))))]) TwT.nil (TwB.cons (x := (.st [(i6 0), (i6 0), (i6 0), .nils, (i6 0)])) (by rfl) (Tw.leaf ⟨_, (Co.st (CoL.cons (Co.d _) (CoL.cons (Co.d _) (CoL.cons (Co.d _) (CoL.cons (Co.nils 3) (CoL.cons (Co.d _) CoL.nil)))))), rfl⟩) TwB.nil)) (mp [] [(8, (.ptr 1008 0 [])), (9, (i6 1))] [(1008, some (.box 45 (.d (.st [(.int .i64 0), (.int .i64 0), (.int .i64 0), (.list 3 (([] : List api_Line).map e_api_Line)), (.int .i64 0)]))))] hB)), [(.d (.st [(.int .i64 0), (.int .i64 0), (.int .i64 0), (.list 3 (([] : List api_Line).map e_api_Line)), (.int .i64 0)])), (i6 1)], (Res.cell (c := (.d (.st [(.int .i64 0), (.int .i64 0), (.int .i64 0), (.list 3 (([] : List api_Line).map e_api_Line)), (.int .i64 0)]))) (by rfl) (by rfl) tyS45 (by rfl) (by rfl) (by rfl) (Res.tmp (by rfl) (by rfl) Res.nil)), rfl, by rfl, by rfl, by rfl⟩
    · replace h := ite_f hg8 h
      refine AWp.skip ?_
      refine seqQ_n ?_
      refine AWp.seq ?_
      obtain ⟨r9, hr9, h⟩ := bindS h
      refine sr (c (lb hN 27 _ _ tyS27 (At.here _) (q 6)) rfl (cg (OpJ.callFn hB fnOk26 (invoice_tariff_ac a2 r9 hr9) [] (by kernel_rfl) (L rfl) (by kernel_rfl) (OpdL.cons (q 38) OpdL.nil)) rfl (c (OpJ.not (L rfl) (q 39)) rfl cn))) ?_
      refine gh [(1, _), (3, _), (4, _), (6, _), (8, _), (10, _), (40, _)] [(1004, some _), (1006, some _), (1008, some _)] hB rfl rfl (by rfl) ?_
      refine AWp.cond rfl (fun hg10 => ?_) (fun hg10 => ?_)
      · replace h := ite_t hg10 h
        refine sr (c (OpJ.build (places := [(0, 1), (1, 1), (2, 1), (3, 1), (4, 1)]) ⟨Try.underlying45, fun w => by kernel_rfl⟩ tyZS45 Opds.nil (by kernel_rfl) (r := (.st [(i6 0), (i6 0), (i6 0), .nils, (i6 0)])) (by rfl) (L rfl)) rfl (cg (OpJ.storeB tyS45 (SetAt.here _ _) (by rfl) (by rfl) (by simp) rfl (q 8) (q 41)) rfl (c (OpJ.assign (L rfl) (Opd.int .i64 (38))) rfl cn))) ?_
        refine gh [(8, _), (9, _)] [(1008, some _)] hB rfl rfl (by rfl) ?_
        refine AWp.ret ?_
        refine seqQ_r ?_
        obtain rfl := Option.some.inj h
        exact ⟨.inl rfl, _, _, (Mat.trans (Mat.coeP (Ts := []) (Bs := [(1008, some (.box 45 (.d (.st [(.int .i64 0), (.int .i64 0), (.int .i64 0), (.list 3 (([] : List api_Line).map e_api_Line)), (.int .i64 0)]))))]) TwT.nil (TwB.cons (x := (.st [(i6 0), (i6 0), (i6 0), .nils, (i6 0)])) (by rfl) (Tw.leaf ⟨_, (Co.st (CoL.cons (Co.d _) (CoL.cons (Co.d _) (CoL.cons (Co.d _) (CoL.cons (Co.nils 3) (CoL.cons (Co.d _) CoL.nil)))))), rfl⟩) TwB.nil)) (mp [] [(8, (.ptr 1008 0 [])), (9, (i6 (38 : Int)))] [(1008, some (.box 45 (.d (.st [(.int .i64 0), (.int .i64 0), (.int .i64 0), (.list 3 (([] : List api_Line).map e_api_Line)), (.int .i64 0)]))))] hB)), [(.d (.st [(.int .i64 0), (.int .i64 0), (.int .i64 0), (.list 3 (([] : List api_Line).map e_api_Line)), (.int .i64 0)])), (i6 (38 : Int))], (Res.cell (c := (.d (.st [(.int .i64 0), (.int .i64 0), (.int .i64 0), (.list 3 (([] : List api_Line).map e_api_Line)), (.int .i64 0)]))) (by rfl) (by rfl) tyS45 (by rfl) (by rfl) (by rfl) (Res.tmp (by rfl) (by rfl) Res.nil)), rfl, by rfl, by rfl, by rfl⟩
      · replace h := ite_f hg10 h
        refine AWp.skip ?_
        refine seqQ_n ?_
        refine sr (cg (OpJ.alloc hB tyZ78 (nm := 1012) (by decide) (L rfl)) rfl cn) ?_
        refine gh [(1, _), (3, _), (4, _), (6, _), (8, _), (10, _), (12, _)] [(1004, some _), (1006, some _), (1008, some _), (1012, some _)] hB rfl rfl (by rfl) ?_
        refine AWp.seq ?_
        refine sr (c (mv hN (q 10)) rfl (c (OpJ.val (v' := (i6 (r1.1.length : Int))) (by simp) (OpJ.lenD Try.underlying28 (L rfl) (q 42))) rfl (c (mv hN (Opd.int .i64 (0))) rfl cn))) ?_
        refine gh [(1, _), (3, _), (4, _), (6, _), (8, _), (12, _), (42, _), (43, _), (44, _)] [(1004, some _), (1006, some _), (1008, some _), (1012, some _)] hB rfl rfl (by rfl) ?_
        refine AWp.block ?_
        obtain ⟨x44, hx45, h⟩ := bindS h
        refine lg (invoice_Make_L0 a2 a3 r1) (fun s11 : Int × (List api_Line) => ([(1, (i6 a1)), (3, (qe_api_Series_4 a3)), (4, (.ptr 1004 0 [])), (6, (.ptr 1006 0 [])), (8, (.ptr 1008 0 [])), (12, (.ptr 1012 0 [])), (42, (qI_1 r1.1)), (43, (i6 (r1.1.length : Int))), (44, (i6 s11.1))] : EL)) (fun s11 : Int × (List api_Line) => ([(1004, some (.box 24 (.d (e_api_Member a0)))), (1006, some (.box 27 (.d (e_api_Tariff a2)))), (1008, some (.box 45 (.st [(i6 0), (i6 0), (i6 0), .nils, (i6 0)]))), (1012, some (.box 78 (.st [(.sref 13120 3 0 s11.2.length)]))), (13120, some (we_api_Line_51_3 s11.2))] : OL)) (fun (x : (Int) ⊕ ((List api_Line))) e E' O' => match x with | (.inl p32) => e = .ret ∧ Mat B E' O' ([(8, (.ptr 1008 0 [])), (9, (i6 p32))] : EL) ([(1008, some (.box 45 (.st [(i6 0), (i6 0), (i6 0), .nils, (i6 0)])))] : OL) | (.inr p33) => e = .exit 0 ∧ Mat B E' O' ([(1, (i6 a1)), (4, (.ptr 1004 0 [])), (8, (.ptr 1008 0 [])), (12, (.ptr 1012 0 []))] : EL) ([(1004, some (.box 24 (.d (e_api_Member a0)))), (1008, some (.box 45 (.st [(i6 0), (i6 0), (i6 0), .nils, (i6 0)]))), (1012, some (.box 78 (.st [(.sref 13120 3 0 p33.length)]))), (13120, some (we_api_Line_51_3 p33))] : OL)) hx45 (Mat.trans (Mat.beginP (n := 13120) (e := 51) (sz := 3) (Ts := []) (Bs := [(1012, some (.box 78 (.st [(.sref 13120 3 0 0)])))]) hB (by decide) (by rfl) (by decide) TwT.nil (TwB.cons (x := (.st [.nils])) (by rfl) (Tw.st (TwL.cons (Tw.leaf ⟨rfl, rfl⟩) TwL.nil)) TwB.nil)) (mp [] _ _ hB)) (fun s11 y h => ?_) (fun e E' O' hR => ?_)
        · unfold invoice_Make_L0 at h
          refine sr (c (OpJ.lss (L rfl) (q 44) (q 43)) rfl cn) ?_
          refine gh [(1, _), (3, _), (4, _), (6, _), (8, _), (12, _), (42, _), (43, _), (44, _), (45, _)] [(1004, some _), (1006, some _), (1008, some _), (1012, some _), (13120, some _)] hB rfl rfl (by rfl) ?_
          refine AWp.seq ?_
          refine AWp.cond rfl (fun hg34 => ?_) (fun hg34 => ?_)
          · replace h := ite_t hg34 h
            refine AWp.skip ?_
            refine seqQ_n ?_
            refine AWp.seq ?_
            refine AWp.block ?_
            obtain ⟨x35, hx35, h⟩ := bindS h
            refine sr (c (OpJ.indexD Try.underlying28 tyS3 (idx_some hx35).1 (get_map (eI .i64) (idx_some hx35).2) (L rfl) (q 42) (q 44)) rfl (c (OpJ.loadD tyS3 (by rfl) (by rfl) (L rfl) (q 46)) rfl (cg (OpJ.alloc hB tyZ3 (nm := 1014) (by decide) (L rfl)) rfl (cg (OpJ.storeB tyS3 (SetAt.here _ _) (by rfl) (by rfl) (by simp) rfl (q 14) (q 47)) rfl cn)))) ?_
            refine gh [(1, _), (3, _), (4, _), (6, _), (8, _), (12, _), (14, _), (42, _), (43, _), (44, _)] [(1004, some _), (1006, some _), (1008, some _), (1012, some _), (1014, some _), (13120, some _)] hB rfl rfl (by rfl) ?_
            refine AWp.seq ?_
            obtain ⟨r36, hr36, h⟩ := bindS h
            refine AWp.region (oc (mv hN (ot 3 (qe_api_Series_4 a3)))
              (oc (OpJ.makeF (OpdL.cons (ot 14 (.ptr 1014 0 [])) OpdL.nil) rfl rfl (L rfl))
              (oc (OpJ.callFn hB fnOk31 (slices_IndexFunc_ac a3 x35 r36 hr36) [(0, 1014)] (by kernel_rfl) (L rfl) (by kernel_rfl) (OpdL.cons (ot 48 (qe_api_Series_4 a3)) (OpdL.cons (ot 49 (.func 32 [(.ptr 1014 0 [])])) OpdL.nil)))
              (oc (OpJ.assign (L rfl) (ot 50 (i6 r36)))
              (OpJs.nil))))) (by rfl) (by rfl) ?_
            refine seqQ_n ?_
            refine AWp.ghost (mp [] [(1, (i6 a1)), (3, (qe_api_Series_4 a3)), (4, (.ptr 1004 0 [])), (6, (.ptr 1006 0 [])), (8, (.ptr 1008 0 [])), (12, (.ptr 1012 0 [])), (14, (.ptr 1014 0 [])), (15, (i6 r36)), (42, (qI_1 r1.1)), (43, (i6 (r1.1.length : Int))), (44, (i6 s11.1))] [(1004, some (.box 24 (.d (e_api_Member a0)))), (1006, some (.box 27 (.d (e_api_Tariff a2)))), (1008, some (.box 45 (.st [(i6 0), (i6 0), (i6 0), .nils, (i6 0)]))), (1012, some (.box 78 (.st [(.sref 13120 3 0 s11.2.length)]))), (1014, some (.box 3 (i6 x35))), (13120, some (we_api_Line_51_3 s11.2))] hB) ?_
            refine AWp.seq ?_
            refine sr (c (mv hN (q 15)) rfl (c (OpJ.lss (L rfl) (q 51) (Opd.int .i64 (0))) rfl cn)) ?_
            refine gh [(1, _), (3, _), (4, _), (6, _), (8, _), (12, _), (14, _), (15, _), (42, _), (43, _), (44, _), (52, _)] [(1004, some _), (1006, some _), (1008, some _), (1012, some _), (1014, some _), (13120, some _)] hB rfl rfl (by rfl) ?_
            refine AWp.cond rfl (fun hg37 => ?_) (fun hg37 => ?_)
            · replace h := ite_t hg37 h
              refine sr (c (OpJ.build (places := [(0, 1), (1, 1), (2, 1), (3, 1), (4, 1)]) ⟨Try.underlying45, fun w => by kernel_rfl⟩ tyZS45 Opds.nil (by kernel_rfl) (r := (.st [(i6 0), (i6 0), (i6 0), .nils, (i6 0)])) (by rfl) (L rfl)) rfl (cg (OpJ.storeB tyS45 (SetAt.here _ _) (by rfl) (by rfl) (by simp) rfl (q 8) (q 53)) rfl (c (OpJ.assign (L rfl) (Opd.int .i64 (7))) rfl cn))) ?_
              refine gh [(8, _), (9, _)] [(1008, some _)] hB rfl rfl (by rfl) ?_
              refine AWp.ret ?_
              refine seqQ_r ?_
              refine blkQ_r ?_
              refine seqQ_r ?_
              obtain rfl := Option.some.inj h
              exact ⟨(fun hc => by cases hc), rfl, (mp [] _ _ hB)⟩
            · replace h := ite_f hg37 h
              refine AWp.skip ?_
              refine seqQ_n ?_
              obtain ⟨x38, hx38, h⟩ := bindS h
              obtain ⟨r39, hr39, h⟩ := bindS h
              refine sr (c (mv hN (q 3)) rfl (c (mv hN (q 15)) rfl (c (OpJ.indexD Try.underlying25 tyS31 (idx_some hx38).1 (get_map e_api_Series (idx_some hx38).2) (L rfl) (q 55) (q 56)) rfl (c (OpJ.loadD tyS31 (by rfl) (by rfl) (L rfl) (q 57)) rfl (cg (OpJ.callFn hB fnOk33 (percentile_Used_ac x38 (95 : Int) r39 hr39) [] (by kernel_rfl) (L rfl) (by kernel_rfl) (OpdL.cons (q 58) (OpdL.cons (Opd.int .i64 (95)) OpdL.nil))) rfl (c (mv hN (q 59)) rfl (c (OpJ.extract (by rfl) rfl (L rfl) (q 54)) rfl (c (OpJ.extract (by rfl) rfl (L rfl) (q 54)) rfl (c (OpJ.assign (L rfl) (q 60)) rfl (c (OpJ.assign (L rfl) (q 61)) rfl cn)))))))))) ?_
              refine gh [(1, _), (3, _), (4, _), (6, _), (8, _), (12, _), (14, _), (16, _), (17, _), (42, _), (43, _), (44, _)] [(1004, some _), (1006, some _), (1008, some _), (1012, some _), (1014, some _), (13120, some _)] hB rfl rfl (by rfl) ?_
              refine AWp.seq ?_
              refine sr (c (mv hN (q 17)) rfl (c (OpJ.neqI (L rfl) (q 62) (Opd.int .i64 (0))) rfl cn)) ?_
              refine gh [(1, _), (3, _), (4, _), (6, _), (8, _), (12, _), (14, _), (16, _), (17, _), (42, _), (43, _), (44, _), (63, _)] [(1004, some _), (1006, some _), (1008, some _), (1012, some _), (1014, some _), (13120, some _)] hB rfl rfl (by rfl) ?_
              refine AWp.cond rfl (fun hg40 => ?_) (fun hg40 => ?_)
              · replace h := ite_t hg40 h
                refine sr (c (OpJ.build (places := [(0, 1), (1, 1), (2, 1), (3, 1), (4, 1)]) ⟨Try.underlying45, fun w => by kernel_rfl⟩ tyZS45 Opds.nil (by kernel_rfl) (r := (.st [(i6 0), (i6 0), (i6 0), .nils, (i6 0)])) (by rfl) (L rfl)) rfl (c (mv hN (q 17)) rfl (cg (OpJ.storeB tyS45 (SetAt.here _ _) (by rfl) (by rfl) (by simp) rfl (q 8) (q 64)) rfl (c (OpJ.assign (L rfl) (q 65)) rfl cn)))) ?_
                refine gh [(8, _), (9, _)] [(1008, some _)] hB rfl rfl (by rfl) ?_
                refine AWp.ret ?_
                refine seqQ_r ?_
                refine blkQ_r ?_
                refine seqQ_r ?_
                obtain rfl := Option.some.inj h
                exact ⟨(fun hc => by cases hc), rfl, (mp [] _ _ hB)⟩
              · replace h := ite_f hg40 h
                refine AWp.skip ?_
                refine seqQ_n ?_
                obtain ⟨r41, hr41, h⟩ := bindS h
                refine sr (c (lb hN 27 _ _ tyS27 (At.here _) (q 6)) rfl (c (mv hN (q 16)) rfl (cg (OpJ.callFn hB fnOk11 (invoice_Price_ac a2 r39.1 r41 hr41) [] (by kernel_rfl) (L rfl) (by kernel_rfl) (OpdL.cons (q 67) (OpdL.cons (q 68) OpdL.nil))) rfl (c (mv hN (q 69)) rfl (c (OpJ.extract (by rfl) rfl (L rfl) (q 66)) rfl (c (OpJ.extract (by rfl) rfl (L rfl) (q 66)) rfl (c (OpJ.assign (L rfl) (q 70)) rfl (c (OpJ.assign (L rfl) (q 71)) rfl cn)))))))) ?_
                refine gh [(1, _), (3, _), (4, _), (6, _), (8, _), (12, _), (14, _), (16, _), (17, _), (18, _), (42, _), (43, _), (44, _)] [(1004, some _), (1006, some _), (1008, some _), (1012, some _), (1014, some _), (13120, some _)] hB rfl rfl (by rfl) ?_
                refine AWp.seq ?_
                refine sr (c (mv hN (q 17)) rfl (c (OpJ.neqI (L rfl) (q 72) (Opd.int .i64 (0))) rfl cn)) ?_
                refine gh [(1, _), (3, _), (4, _), (6, _), (8, _), (12, _), (14, _), (16, _), (17, _), (18, _), (42, _), (43, _), (44, _), (73, _)] [(1004, some _), (1006, some _), (1008, some _), (1012, some _), (1014, some _), (13120, some _)] hB rfl rfl (by rfl) ?_
                refine AWp.cond rfl (fun hg42 => ?_) (fun hg42 => ?_)
                · replace h := ite_t hg42 h
                  refine sr (c (OpJ.build (places := [(0, 1), (1, 1), (2, 1), (3, 1), (4, 1)]) ⟨Try.underlying45, fun w => by kernel_rfl⟩ tyZS45 Opds.nil (by kernel_rfl) (r := (.st [(i6 0), (i6 0), (i6 0), .nils, (i6 0)])) (by rfl) (L rfl)) rfl (c (mv hN (q 17)) rfl (cg (OpJ.storeB tyS45 (SetAt.here _ _) (by rfl) (by rfl) (by simp) rfl (q 8) (q 74)) rfl (c (OpJ.assign (L rfl) (q 75)) rfl cn)))) ?_
                  refine gh [(8, _), (9, _)] [(1008, some _)] hB rfl rfl (by rfl) ?_
                  refine AWp.ret ?_
                  refine seqQ_r ?_
                  refine blkQ_r ?_
                  refine seqQ_r ?_
                  obtain rfl := Option.some.inj h
                  exact ⟨(fun hc => by cases hc), rfl, (mp [] _ _ hB)⟩
                · replace h := ite_f hg42 h
                  refine AWp.skip ?_
                  refine seqQ_n ?_
                  obtain ⟨r43, hr43, h⟩ := bindS h
                  refine AWp.region (oc (lb hN 3 (i6 x35) (i6 x35) tyS3 (At.here _) (ot 14 (.ptr 1014 0 [])))
                    (oc (mv hN (ot 16 (i6 r39.1)))
                    (oc (mv hN (ot 18 (i6 r41.1)))
                    (oc (OpJ.coe (v := (.st [(i6 x35), (i6 r39.1), (i6 r41.1)])) (y := (.st [(.int .i64 x35), (.int .i64 r39.1), (.int .i64 r41.1)])) (Co.st (CoL.cons (Co.d _) (CoL.cons (Co.d _) (CoL.cons (Co.d _) CoL.nil)))) rfl (OpJ.build (places := [(0, 1), (1, 1), (2, 1)]) ⟨Try.underlying51, fun w => by kernel_rfl⟩ tyZS51 (Opds.cons (ot 76 (i6 x35)) (Opds.cons (ot 77 (i6 r39.1)) (Opds.cons (ot 78 (i6 r41.1)) Opds.nil))) (by kernel_rfl) (r := (.st [(i6 x35), (i6 r39.1), (i6 r41.1)])) (by rfl) (L rfl)))
                    (oc (OpJ.callFn hB fnOk34 (invoice_sums_add_2_ac s11.2 (api_Line.mk x35 r39.1 r41.1) (1 : Int) r43 hr43) [(0, 1012), (1, 13120), (950000, 100700)] (by kernel_rfl) (L rfl) (by kernel_rfl) (OpdL.cons (ot 12 (.ptr 1012 0 [])) (OpdL.cons (ot 79 (.d (.st [(.int .i64 x35), (.int .i64 r39.1), (.int .i64 r41.1)]))) (OpdL.cons (Opd.int .i64 (1)) OpdL.nil))))
                    (OpJs.nil)))))) (by rfl) (by rfl) ?_
                  refine blkQ_n ?_
                  refine seqQ_n ?_
                  refine AWp.ghost (mp [] [(1, (i6 a1)), (3, (qe_api_Series_4 a3)), (4, (.ptr 1004 0 [])), (6, (.ptr 1006 0 [])), (8, (.ptr 1008 0 [])), (12, (.ptr 1012 0 [])), (42, (qI_1 r1.1)), (43, (i6 (r1.1.length : Int))), (44, (i6 s11.1))] [(1004, some (.box 24 (.d (e_api_Member a0)))), (1006, some (.box 27 (.d (e_api_Tariff a2)))), (1008, some (.box 45 (.st [(i6 0), (i6 0), (i6 0), .nils, (i6 0)]))), (1012, some (.box 78 (.st [(.sref 100700 3 0 r43.flines.length)]))), (100700, some (we_api_Line_51_3 r43.flines))] hB) ?_
                  refine rg (c (add6 (L rfl) (q 44) (Opd.int .i64 (1))) rfl (c (mv hN (q 81)) rfl cn)) ?_
                  obtain rfl := Option.some.inj h
                  exact ⟨rfl, (Mat.trans (mp [] [(1, (i6 a1)), (3, (qe_api_Series_4 a3)), (4, (.ptr 1004 0 [])), (6, (.ptr 1006 0 [])), (8, (.ptr 1008 0 [])), (12, (.ptr 1012 0 [])), (42, (qI_1 r1.1)), (43, (i6 (r1.1.length : Int))), (44, (i6 (w64 (s11.1 + (1 : Int)))))] [(1004, some (.box 24 (.d (e_api_Member a0)))), (1006, some (.box 27 (.d (e_api_Tariff a2)))), (1008, some (.box 45 (.st [(i6 0), (i6 0), (i6 0), .nils, (i6 0)]))), (1012, some (.box 78 (.st [(.sref 100700 3 0 r43.flines.length)]))), (100700, some (we_api_Line_51_3 r43.flines))] hB) (mp [(13120, 100700)] _ _ hB))⟩
          · replace h := ite_f hg34 h
            refine AWp.exit ?_
            refine seqQ_e ?_
            obtain rfl := Option.some.inj h
            exact ⟨(fun hc => by cases hc), rfl, (mp [] _ _ hB)⟩
        · rcases x44 with p32 | p33
          · obtain ⟨rfl, hmat⟩ := hR
            refine blkQ_r ?_
            refine seqQ_r ?_
            obtain rfl := Option.some.inj h
            exact ⟨.inl rfl, _, _, (Mat.trans hmat (Mat.trans (Mat.coeP (Ts := []) (Bs := [(1008, some (.box 45 (.d (.st [(.int .i64 0), (.int .i64 0), (.int .i64 0), (.list 3 (([] : List api_Line).map e_api_Line)), (.int .i64 0)]))))]) TwT.nil (TwB.cons (x := (.st [(i6 0), (i6 0), (i6 0), .nils, (i6 0)])) (by rfl) (Tw.leaf ⟨_, (Co.st (CoL.cons (Co.d _) (CoL.cons (Co.d _) (CoL.cons (Co.d _) (CoL.cons (Co.nils 3) (CoL.cons (Co.d _) CoL.nil)))))), rfl⟩) TwB.nil)) (mp [] [(8, (.ptr 1008 0 [])), (9, (i6 p32))] [(1008, some (.box 45 (.d (.st [(.int .i64 0), (.int .i64 0), (.int .i64 0), (.list 3 (([] : List api_Line).map e_api_Line)), (.int .i64 0)]))))] hB))), [(.d (.st [(.int .i64 0), (.int .i64 0), (.int .i64 0), (.list 3 (([] : List api_Line).map e_api_Line)), (.int .i64 0)])), (i6 p32)], (Res.cell (c := (.d (.st [(.int .i64 0), (.int .i64 0), (.int .i64 0), (.list 3 (([] : List api_Line).map e_api_Line)), (.int .i64 0)]))) (by rfl) (by rfl) tyS45 (by rfl) (by rfl) (by rfl) (Res.tmp (by rfl) (by rfl) Res.nil)), rfl, by rfl, by rfl, by rfl⟩
          · obtain ⟨rfl, hmat⟩ := hR
            refine blkQ_hit ?_
            refine seqQ_n ?_
            refine AWp.ghost hmat ?_
            refine AWp.seq ?_
            obtain ⟨r46, hr46, h⟩ := bindS h
            refine AWp.region (oc (ov (.ptr 1004 0 [0]) (fp hN Try.underlying24 0 tyS3 (.box 24 (.d (e_api_Member a0))) (ot 4 (.ptr 1004 0 []))))
              (oc (lb hN 24 (.d (e_api_Member a0)) (i6 a0.fASN) tyS3 (ad (.int .i64 a0.fASN)) (ot 82 (.ptr 1004 0 [0])))
              (oc (mv hN (ot 1 (i6 a1)))
              (oc (OpJ.callFn hB fnOk35 (invoice_sums_invoice_ac p33 a0.fASN a1 (1 : Int) r46 hr46) [(0, 1012), (1, 13120)] (by kernel_rfl) (L rfl) (by kernel_rfl) (OpdL.cons (ot 12 (.ptr 1012 0 [])) (OpdL.cons (ot 83 (i6 a0.fASN)) (OpdL.cons (ot 84 (i6 a1)) (OpdL.cons (Opd.int .i64 (1)) OpdL.nil)))))
              (oc (OpJ.storeB (bt := 45) (c := (.st [(i6 0), (i6 0), (i6 0), .nils, (i6 0)])) (v := (.d (e_api_Invoice r46.1))) (c' := (.d (e_api_Invoice r46.1))) tyS45 (SetAt.here _ _) (by rfl) (by rfl) (by simp) rfl (ot 8 (.ptr 1008 0 [])) (ot 85 (.d (e_api_Invoice r46.1))))
              (oc (OpJ.assign (L rfl) (Opd.int .i64 (0)))
              (OpJs.nil))))))) (by rfl) (by rfl) ?_
            refine seqQ_n ?_
            refine AWp.ghost (mp [] [(8, (.ptr 1008 0 [])), (9, (i6 0))] [(1008, some (.box 45 (.d (e_api_Invoice r46.1))))] hB) ?_
            refine AWp.ret ?_
            obtain rfl := Option.some.inj h
            exact ⟨.inl rfl, _, _, (kp [(8, _), (9, _)] [(1008, some _)] hB rfl rfl (by rfl)), [(.d (e_api_Invoice r46.1)), (i6 0)], (Res.cell (c := (.d (e_api_Invoice r46.1))) (by rfl) (by rfl) tyS45 (by rfl) (by rfl) (by rfl) (Res.tmp (by rfl) (by rfl) Res.nil)), rfl, by rfl, by rfl, by rfl⟩
  · rcases Bool.eq_false_or_eq_true (!r1.2) with hg47 | hg47
    · replace h := ite_t hg47 h
      refine rg (c (mv hN (q 11)) rfl (c (OpJ.not (L rfl) (q 24)) rfl (c (OpJ.val (v' := .d (.bool true)) (by rw [hg47]) (mv hN (q 25))) rfl (cg (OpJ.skipU (g := 26) (L rfl) (by rfl)) rfl (cg (OpJ.skipU (g := 26) (L rfl) (by rfl)) rfl (cg (OpJ.skipU (g := 26) (L rfl) (by rfl)) rfl (cg (OpJ.skipU (g := 26) (L rfl) (by rfl)) rfl (c (OpJ.pickT (L rfl) (q 26) (Opd.bool true)) rfl (c (mv hN (q 31)) rfl (cg (OpJ.skipU (g := 32) (L rfl) (by rfl)) rfl (cg (OpJ.skipU (g := 32) (L rfl) (by rfl)) rfl (cg (OpJ.skipU (g := 32) (L rfl) (by rfl)) rfl (c (OpJ.pickT (L rfl) (q 32) (Opd.bool true)) rfl cn))))))))))))) ?_
      exact hjj7 _ h _ _ (Mat.trans (mp [] [(1, (i6 a1)), (3, (qe_api_Series_4 a3)), (4, (.ptr 1004 0 [])), (6, (.ptr 1006 0 [])), (8, (.ptr 1008 0 [])), (10, (qI_1 r1.1)), (36, (bo true))] [(1004, some (.box 24 (.d (e_api_Member a0)))), (1006, some (.box 27 (.d (e_api_Tariff a2)))), (1008, some (.box 45 (.st [(i6 0), (i6 0), (i6 0), .nils, (i6 0)])))] hB) (mp [] _ _ hB))
    · replace h := ite_f hg47 h
      obtain ⟨r48, hr48, h⟩ := bindS h
      rcases Bool.eq_false_or_eq_true (!r48) with hg49 | hg49
      · replace h := ite_t hg49 h
        refine rg (c (mv hN (q 11)) rfl (c (OpJ.not (L rfl) (q 24)) rfl (c (OpJ.val (v' := .d (.bool false)) (by rw [hg47]) (mv hN (q 25))) rfl (c (OpJ.guarded (g := 26) (by rfl) (ov (.ptr 1004 0 [0]) (fp hN Try.underlying24 0 tyS3 _ (q 4)))) rfl (c (OpJ.guarded (g := 26) (by rfl) (lb hN 24 _ _ tyS3 (ad _) (q 27))) rfl (cg (OpJ.guarded (g := 26) (by rfl) (OpJ.callFn hB fnOk29 (invoice_member_ac a0.fASN r48 hr48) [] (by kernel_rfl) (L rfl) (by kernel_rfl) (OpdL.cons (q 28) OpdL.nil))) rfl (c (OpJ.guarded (g := 26) (by rfl) (OpJ.not (L rfl) (q 29))) rfl (c (OpJ.pickF (L rfl) (q 26) (q 30)) rfl (c (OpJ.val (v' := .d (.bool true)) (by rw [hg49]) (mv hN (q 31))) rfl (cg (OpJ.skipU (g := 32) (L rfl) (by rfl)) rfl (cg (OpJ.skipU (g := 32) (L rfl) (by rfl)) rfl (cg (OpJ.skipU (g := 32) (L rfl) (by rfl)) rfl (c (OpJ.pickT (L rfl) (q 32) (Opd.bool true)) rfl cn))))))))))))) ?_
        exact hjj7 _ h _ _ (Mat.trans (mp [] [(1, (i6 a1)), (3, (qe_api_Series_4 a3)), (4, (.ptr 1004 0 [])), (6, (.ptr 1006 0 [])), (8, (.ptr 1008 0 [])), (10, (qI_1 r1.1)), (36, (bo true))] [(1004, some (.box 24 (.d (e_api_Member a0)))), (1006, some (.box 27 (.d (e_api_Tariff a2)))), (1008, some (.box 45 (.st [(i6 0), (i6 0), (i6 0), .nils, (i6 0)])))] hB) (mp [] _ _ hB))
      · replace h := ite_f hg49 h
        obtain ⟨r50, hr50, h⟩ := bindS h
        refine rg (c (mv hN (q 11)) rfl (c (OpJ.not (L rfl) (q 24)) rfl (c (OpJ.val (v' := .d (.bool false)) (by rw [hg47]) (mv hN (q 25))) rfl (c (OpJ.guarded (g := 26) (by rfl) (ov (.ptr 1004 0 [0]) (fp hN Try.underlying24 0 tyS3 _ (q 4)))) rfl (c (OpJ.guarded (g := 26) (by rfl) (lb hN 24 _ _ tyS3 (ad _) (q 27))) rfl (cg (OpJ.guarded (g := 26) (by rfl) (OpJ.callFn hB fnOk29 (invoice_member_ac a0.fASN r48 hr48) [] (by kernel_rfl) (L rfl) (by kernel_rfl) (OpdL.cons (q 28) OpdL.nil))) rfl (c (OpJ.guarded (g := 26) (by rfl) (OpJ.not (L rfl) (q 29))) rfl (c (OpJ.pickF (L rfl) (q 26) (q 30)) rfl (c (OpJ.val (v' := .d (.bool false)) (by rw [hg49]) (mv hN (q 31))) rfl (c (OpJ.guarded (g := 32) (by rfl) (mv hN (q 1))) rfl (cg (OpJ.guarded (g := 32) (by rfl) (OpJ.callFn hB fnOk30 (invoice_month_ac a1 r50 hr50) [] (by kernel_rfl) (L rfl) (by kernel_rfl) (OpdL.cons (q 33) OpdL.nil))) rfl (c (OpJ.guarded (g := 32) (by rfl) (OpJ.not (L rfl) (q 34))) rfl (c (OpJ.pickF (L rfl) (q 32) (q 35)) rfl cn))))))))))))) ?_
        exact hjj7 _ h _ _ (Mat.trans (mp [] [(1, (i6 a1)), (3, (qe_api_Series_4 a3)), (4, (.ptr 1004 0 [])), (6, (.ptr 1006 0 [])), (8, (.ptr 1008 0 [])), (10, (qI_1 r1.1)), (36, (bo (!r50)))] [(1004, some (.box 24 (.d (e_api_Member a0)))), (1006, some (.box 27 (.d (e_api_Tariff a2)))), (1008, some (.box 45 (.st [(i6 0), (i6 0), (i6 0), .nils, (i6 0)])))] hB) (mp [] _ _ hB))

noncomputable def exchangepointlaw41_awake : Option (Bool) :=
  (invoice_Price (api_Tariff.mk (50000 : Int) (100 : Int) (20 : Int)) (130 : Int)).bind fun r1 =>
  (invoice_Make (api_Member.mk (5 : Int) ([] : List UInt8) ([] : List UInt8) (0 : Int) (0 : Int) ([(api_Port.mk (3 : Int) (0 : Int) (0 : Int) ([] : List (List Int)) (api_Addr.mk false (0 : Int) (0 : Int)) (api_Addr.mk false (0 : Int) (0 : Int)))] : List api_Port)) (1 : Int) (api_Tariff.mk (50000 : Int) (100 : Int) (20 : Int)) ([(api_Series.mk (3 : Int) (1 : Int) ([(0 : Int)] : List Int) ([(0 : Int)] : List Int))] : List api_Series)).bind fun r2 =>
  some (((((r1.2 == (0 : Int)) && (r2.2 == (0 : Int))) && (r1.1 == (50600 : Int))) && (r2.1.fTotal == (50000 : Int))) && ((r2.1.fLines.length : Int) == (1 : Int)))
set_option maxHeartbeats 4000000 in
set_option maxRecDepth 100000 in
theorem exchangepointlaw41_awake_ac (r : Bool) (h : exchangepointlaw41_awake = some r) : AC Try.prog 7 [] [] (.d (.bool r)) [] := by
  refine AC.of_code2 Try.func7 rfl rfl (Nat.le_of_ble_eq_true (by rfl)) fun B hB hN => ?_
  have L {d : Nat} (h : Nat.blt d Try.f7.ntmps = true) : d < B.N := ltN hN h
  delta exchangepointlaw41_awake at h
  refine sr (c (OpJ.assign (L rfl) (Opd.bool false)) rfl cn) ?_
  refine gh [] [] hB rfl rfl (by rfl) ?_
  refine sr (c (OpJ.coe (v := (.st [(i6 (50000 : Int)), (i6 (100 : Int)), (i6 (20 : Int))])) (y := (.st [(.int .i64 (50000 : Int)), (.int .i64 (100 : Int)), (.int .i64 (20 : Int))])) (Co.st (CoL.cons (Co.d _) (CoL.cons (Co.d _) (CoL.cons (Co.d _) CoL.nil)))) rfl (OpJ.build (places := [(0, 1), (1, 1), (2, 1)]) ⟨Try.underlying27, fun w => by kernel_rfl⟩ tyZS27 (Opds.cons (Opd.int .i64 (50000)) (Opds.cons (Opd.int .i64 (100)) (Opds.cons (Opd.int .i64 (20)) Opds.nil))) (by kernel_rfl) (r := (.st [(i6 (50000 : Int)), (i6 (100 : Int)), (i6 (20 : Int))])) (by rfl) (L rfl))) rfl (cg (OpJ.alloc hB tyZ27 (nm := 1001) (by decide) (L rfl)) rfl (cg (OpJ.storeB tyS27 (SetAt.here _ _) (by rfl) (by rfl) (by simp) rfl (q 1) (q 6)) rfl cn))) ?_
  refine gh [(1, _)] [(1001, some _)] hB rfl rfl (by rfl) ?_
  obtain ⟨r1, hr1, h⟩ := bindS h
  refine sr (c (lb hN 27 _ _ tyS27 (At.here _) (q 1)) rfl (cg (OpJ.callFn hB fnOk11 (invoice_Price_ac (api_Tariff.mk (50000 : Int) (100 : Int) (20 : Int)) (130 : Int) r1 hr1) [] (by kernel_rfl) (L rfl) (by kernel_rfl) (OpdL.cons (q 8) (OpdL.cons (Opd.int .i64 (130)) OpdL.nil))) rfl (c (mv hN (q 9)) rfl (c (OpJ.extract (by rfl) rfl (L rfl) (q 7)) rfl (c (OpJ.extract (by rfl) rfl (L rfl) (q 7)) rfl (c (OpJ.assign (L rfl) (q 10)) rfl (c (OpJ.assign (L rfl) (q 11)) rfl cn))))))) ?_
  refine gh [(1, _), (2, _), (3, _)] [(1001, some _)] hB rfl rfl (by rfl) ?_
  obtain ⟨r2, hr2, h⟩ := bindS h
  refine sr (c (OpJ.build (places := [(0, 1), (1, 1), (2, 1), (3, 1), (4, 3), (7, 3)]) ⟨Try.underlying68, fun w => by kernel_rfl⟩ tyZS68 (Opds.cons (Opd.int .i64 (3)) Opds.nil) (by kernel_rfl) (r := (.st [(i6 (3 : Int)), (i6 0), (i6 0), .nils, (.d (.st [(.bool false), (.int .u64 0), (.int .u64 0)])), (.d (.st [(.bool false), (.int .u64 0), (.int .u64 0)]))])) (by rfl) (L rfl)) rfl (c (OpJ.buildSlice Try.underlying22 tyS68 tyZD68 (by rfl) (by decide) (by decide) (Opds.cons (Opd.co (Co.st (CoL.cons (Co.d _) (CoL.cons (Co.d _) (CoL.cons (Co.d _) (CoL.cons (Co.nils 6) (CoL.cons (Co.d _) (CoL.cons (Co.d _) CoL.nil))))))) (q 13)) Opds.nil) (by kernel_rfl) (es := ([(.st [(.int .i64 (3 : Int)), (.int .i64 0), (.int .i64 0), (.list 6 (([] : List (List Int)).map e_A6eIu8)), (.st [(.bool false), (.int .u64 0), (.int .u64 0)]), (.st [(.bool false), (.int .u64 0), (.int .u64 0)])])] : List D)) (by rfl) (by rfl) (by kernel_rfl) (by simp) (L rfl)) rfl (c (OpJ.coe (v := (.st [(i6 (5 : Int)), (.d (.str ([] : List UInt8))), (.d (.str ([] : List UInt8))), (i6 0), (i6 0), (qe_api_Port_10 ([(api_Port.mk (3 : Int) (0 : Int) (0 : Int) ([] : List (List Int)) (api_Addr.mk false (0 : Int) (0 : Int)) (api_Addr.mk false (0 : Int) (0 : Int)))] : List api_Port))])) (y := (.st [(.int .i64 (5 : Int)), (.str ([] : List UInt8)), (.str ([] : List UInt8)), (.int .i64 0), (.int .i64 0), (.list 10 (([(api_Port.mk (3 : Int) (0 : Int) (0 : Int) ([] : List (List Int)) (api_Addr.mk false (0 : Int) (0 : Int)) (api_Addr.mk false (0 : Int) (0 : Int)))] : List api_Port).map e_api_Port))])) (Co.st (CoL.cons (Co.d _) (CoL.cons (Co.d _) (CoL.cons (Co.d _) (CoL.cons (Co.d _) (CoL.cons (Co.d _) (CoL.cons (Co.d _) CoL.nil))))))) rfl (OpJ.build (places := [(0, 1), (1, 1), (2, 1), (3, 1), (4, 1), (5, 1)]) ⟨Try.underlying24, fun w => by kernel_rfl⟩ tyZS24 (Opds.cons (Opd.int .i64 (5)) (Opds.cons (q 14) Opds.nil)) (by kernel_rfl) (r := (.st [(i6 (5 : Int)), (.d (.str ([] : List UInt8))), (.d (.str ([] : List UInt8))), (i6 0), (i6 0), (qe_api_Port_10 ([(api_Port.mk (3 : Int) (0 : Int) (0 : Int) ([] : List (List Int)) (api_Addr.mk false (0 : Int) (0 : Int)) (api_Addr.mk false (0 : Int) (0 : Int)))] : List api_Port))])) (by rfl) (L rfl))) rfl (c (lb hN 27 _ _ tyS27 (At.here _) (q 1)) rfl (c (OpJ.buildSlice Try.underlying28 tyS3 tyZD3 (by rfl) (by decide) (by decide) (Opds.cons (Opd.int .i64 (0)) Opds.nil) (by kernel_rfl) (es := ([(.int .i64 0)] : List D)) (by rfl) (by rfl) (by kernel_rfl) (by simp) (L rfl)) rfl (c (OpJ.buildSlice Try.underlying28 tyS3 tyZD3 (by rfl) (by decide) (by decide) (Opds.cons (Opd.int .i64 (0)) Opds.nil) (by kernel_rfl) (es := ([(.int .i64 0)] : List D)) (by rfl) (by rfl) (by kernel_rfl) (by simp) (L rfl)) rfl (c (OpJ.coe (v := (.st [(i6 (3 : Int)), (i6 1), (qI_1 ([(0 : Int)] : List Int)), (qI_1 ([(0 : Int)] : List Int))])) (y := (.st [(.int .i64 (3 : Int)), (.int .i64 1), (.list 1 (([(0 : Int)] : List Int).map (eI .i64))), (.list 1 (([(0 : Int)] : List Int).map (eI .i64)))])) (Co.st (CoL.cons (Co.d _) (CoL.cons (Co.d _) (CoL.cons (Co.d _) (CoL.cons (Co.d _) CoL.nil))))) rfl (OpJ.build (places := [(0, 1), (1, 1), (2, 1), (3, 1)]) ⟨Try.underlying31, fun w => by kernel_rfl⟩ tyZS31 (Opds.cons (Opd.int .i64 (3)) (Opds.cons (Opd.int .i64 (1)) (Opds.cons (q 17) (Opds.cons (q 18) Opds.nil)))) (by kernel_rfl) (r := (.st [(i6 (3 : Int)), (i6 1), (qI_1 ([(0 : Int)] : List Int)), (qI_1 ([(0 : Int)] : List Int))])) (by rfl) (L rfl))) rfl (c (OpJ.buildSlice Try.underlying25 tyS31 tyZD31 (by rfl) (by decide) (by decide) (Opds.cons (q 19) Opds.nil) (by kernel_rfl) (es := ([(.st [(.int .i64 (3 : Int)), (.int .i64 1), (.list 1 (([(0 : Int)] : List Int).map (eI .i64))), (.list 1 (([(0 : Int)] : List Int).map (eI .i64)))])] : List D)) (by rfl) (by rfl) (by kernel_rfl) (by simp) (L rfl)) rfl (cg (OpJ.callFn hB fnOk13 (invoice_Make_ac (api_Member.mk (5 : Int) ([] : List UInt8) ([] : List UInt8) (0 : Int) (0 : Int) ([(api_Port.mk (3 : Int) (0 : Int) (0 : Int) ([] : List (List Int)) (api_Addr.mk false (0 : Int) (0 : Int)) (api_Addr.mk false (0 : Int) (0 : Int)))] : List api_Port)) (1 : Int) (api_Tariff.mk (50000 : Int) (100 : Int) (20 : Int)) ([(api_Series.mk (3 : Int) (1 : Int) ([(0 : Int)] : List Int) ([(0 : Int)] : List Int))] : List api_Series) r2 hr2) [] (by kernel_rfl) (L rfl) (by kernel_rfl) (OpdL.cons (q 15) (OpdL.cons (Opd.int .i64 (1)) (OpdL.cons (q 16) (OpdL.cons (q 20) OpdL.nil))))) rfl (c (mv hN (q 21)) rfl (c (OpJ.extract (by rfl) rfl (L rfl) (q 12)) rfl (c (OpJ.extract (by rfl) rfl (L rfl) (q 12)) rfl (cg (OpJ.alloc hB tyZ45 (nm := 1004) (by decide) (L rfl)) rfl (cg (OpJ.storeB tyS45 (SetAt.here _ _) (by rfl) (by rfl) (by simp) rfl (q 4) (q 22)) rfl (c (OpJ.assign (L rfl) (q 23)) rfl cn))))))))))))))) ?_
  refine gh [(2, _), (3, _), (4, _), (5, _)] [(1004, some _)] hB rfl rfl (by rfl) ?_
  refine sr (c (mv hN (q 3)) rfl (c (OpJ.eqlI (L rfl) (q 24) (Opd.int .i64 (0))) rfl (c (mv hN (q 25)) rfl (c (oq hN 26 (mv hN (q 5)) (OptL.keep (by rfl) OptL.nil) (GuardV.plain _)) rfl (c (oq hN 26 (OpJ.eqlI (L rfl) (q 27) (Opd.int .i64 (0))) (OptL.opt OptL.nil) (GuardV.plain _)) rfl (c (OpJ.pickAnd rfl (L rfl) (q 26) (q 28)) rfl (c (mv hN (q 29)) rfl (c (oq hN 30 (mv hN (q 2)) (OptL.keep (by rfl) OptL.nil) (GuardV.plain _)) rfl (c (oq hN 30 (OpJ.eqlI (L rfl) (q 31) (Opd.int .i64 (50600))) (OptL.opt OptL.nil) (GuardV.plain _)) rfl (c (OpJ.pickAnd rfl (L rfl) (q 30) (q 32)) rfl (c (mv hN (q 33)) rfl (c (oq hN 34 (ov (.ptr 1004 4 [4]) (fp hN Try.underlying45 4 tyS3 _ (q 4))) (OptL.keep (by rfl) OptL.nil) (GuardV.plain _)) rfl (c (oq hN 34 (lb hN 45 _ _ tyS3 (ad _) (q 35)) (OptL.opt OptL.nil) (GuardV.plain _)) rfl (c (oq hN 34 (OpJ.eqlI (L rfl) (q 36) (Opd.int .i64 (50000))) (OptL.opt OptL.nil) (GuardV.plain _)) rfl (c (OpJ.pickAnd rfl (L rfl) (q 34) (q 37)) rfl (c (mv hN (q 38)) rfl (c (oq hN 39 (ov (.ptr 1004 3 [3]) (fp hN Try.underlying45 3 tyS43 _ (q 4))) (OptL.keep (by rfl) OptL.nil) (GuardV.plain _)) rfl (c (oq hN 39 (lb hN 45 _ _ tyS43 (ad _) (q 40)) (OptL.opt OptL.nil) (GuardV.plain _)) rfl (c (oq hN 39 (OpJ.val (v' := (i6 (r2.1.fLines.length : Int))) (by simp) (OpJ.lenD Try.underlying43 (L rfl) (q 41))) (OptL.opt OptL.nil) (GuardV.plain _)) rfl (c (oq hN 39 (OpJ.eqlI (L rfl) (q 42) (Opd.int .i64 (1))) (OptL.opt OptL.nil) (GuardV.plain _)) rfl (c (OpJ.pickAnd rfl (L rfl) (q 39) (q 43)) rfl (c (OpJ.assign (L rfl) (q 44)) rfl cn)))))))))))))))))))))) ?_
  refine gh [(0, _)] [] hB rfl rfl (by rfl) ?_
  refine AWp.ret ?_
  obtain rfl := Option.some.inj h
  exact ⟨.inl rfl, _, _, (kp [(0, _)] [] hB rfl rfl (by rfl)), [(bo (((((r1.2 == (0 : Int)) && (r2.2 == (0 : Int))) && (r1.1 == (50600 : Int))) && (r2.1.fTotal == (50000 : Int))) && ((r2.1.fLines.length : Int) == (1 : Int))))], (Res.tmp (by rfl) (by rfl) Res.nil), rfl, by rfl, by rfl, by rfl⟩

noncomputable def exchangepointmill_New (a0 : (List Int)) : Option (exchangepointmill_Deck) :=
  some (exchangepointmill_Deck.mk a0 (0 : Int))
set_option maxHeartbeats 4000000 in
set_option maxRecDepth 100000 in
theorem exchangepointmill_New_ac (a0 : (List Int)) (r : exchangepointmill_Deck) (h : exchangepointmill_New a0 = some r) : AC Try.prog 9 [(.d (.list 1 (a0.map (eI .i64))))] [] (.ptr 1005 0 []) [(1005, some (.box 72 (.d (e_exchangepointmill_Deck r))))] := by
  refine AC.of_code2 Try.func9 rfl rfl (Nat.le_of_ble_eq_true (by rfl)) fun B hB hN => ?_
  delta exchangepointmill_New at h
  refine sr (c (OpJ.assign (v := .junk) (ltN hN rfl) (Opd.junk _)) rfl cn) ?_
  refine gh [(0, _)] [] hB rfl rfl (by rfl) ?_
  refine sr (c (mv hN (q 0)) rfl (c (OpJ.coe (v := (.st [(qI_1 a0), (i6 0)])) (y := (.st [(.list 1 (a0.map (eI .i64))), (.int .i64 0)])) (Co.st (CoL.cons (Co.d _) (CoL.cons (Co.d _) CoL.nil))) rfl (OpJ.build (places := [(0, 1), (1, 1)]) ⟨Try.underlying72, fun w => by kernel_rfl⟩ tyZS72 (Opds.cons (q 3) Opds.nil) (by kernel_rfl) (r := (.st [(qI_1 a0), (i6 0)])) (by rfl) (ltN hN rfl))) rfl (cg (OpJ.box hB (nm := 1005) (by decide) (by simp) rfl (ltN hN rfl) (q 4)) rfl (c (OpJ.assign (ltN hN rfl) (q 5)) rfl cn)))) ?_
  refine gh [(2, _)] [(1005, some _)] hB rfl rfl (by rfl) ?_
  refine AWp.ret ?_
  obtain rfl := Option.some.inj h
  exact ⟨.inl rfl, _, _, (kp [(2, _)] [(1005, some _)] hB rfl rfl (by rfl)), [(.ptr 1005 0 [])], (Res.tmp (by rfl) (by rfl) Res.nil), rfl, by rfl, by rfl, by rfl⟩

noncomputable def exchangepointmill_Mod (a0 : Int) (a1 : Int) : Option (Int) :=
  chk (decide (a1 ≠ 0)) <|
  jn (fun m3 : Int =>
  some m3) (fun j4 =>
  (if (decide ((Int.tmod a0 a1) < (0 : Int))) = true then
  j4 (w64 ((Int.tmod a0 a1) + a1))
  else
  j4 (Int.tmod a0 a1)))
set_option maxHeartbeats 4000000 in
set_option maxRecDepth 100000 in
theorem exchangepointmill_Mod_ac (a0 : Int) (a1 : Int) (r : Int) (h : exchangepointmill_Mod a0 a1 = some r) : AC Try.prog 10 [(.d (.int .i64 a0)), (.d (.int .i64 a1))] [] (.d (.int .i64 r)) [] := by
  refine AC.of_code2 Try.func10 rfl rfl (Nat.le_of_ble_eq_true (by rfl)) fun B hB hN => ?_
  delta exchangepointmill_Mod at h
  refine sr (c (OpJ.assign (ltN hN rfl) (Opd.int .i64 (0))) rfl cn) ?_
  refine gh [(0, _), (1, _)] [] hB rfl rfl (by rfl) ?_
  obtain ⟨hc1, h⟩ := chk_some h
  refine sr (c (mv hN (q 0)) rfl (c (mv hN (q 1)) rfl (c (OpJ.rem (ltN hN rfl) (q 6) (q 7) (of_decide_eq_true hc1)) rfl (c (OpJ.assign (ltN hN rfl) (q 8)) rfl cn)))) ?_
  refine gh [(1, _), (5, _)] [] hB rfl rfl (by rfl) ?_
  refine AWp.seq ?_
  refine sr (c (mv hN (q 5)) rfl (c (OpJ.lss (ltN hN rfl) (q 9) (Opd.int .i64 (0))) rfl cn)) ?_
  refine gh [(1, _), (5, _), (10, _)] [] hB rfl rfl (by rfl) ?_
  refine AWp.cut h (fun m3 : Int => ([(5, (i6 m3))] : EL)) (fun m3 : Int => ([] : OL)) (fun m3 h E' O' hmat => ?_) (fun j4 hjj4 h => ?_)
  · refine seqQ_n ?_
    refine AWp.ghost hmat ?_
    refine sr (c (mv hN (q 5)) rfl (c (OpJ.assign (ltN hN rfl) (q 14)) rfl cn)) ?_
    refine gh [(4, _)] [] hB rfl rfl (by rfl) ?_
    refine AWp.ret ?_
    obtain rfl := Option.some.inj h
    exact ⟨.inl rfl, _, _, (kp [(4, _)] [] hB rfl rfl (by rfl)), [(i6 m3)], (Res.tmp (by rfl) (by rfl) Res.nil), rfl, by rfl, by rfl, by rfl⟩
  · refine AWp.cond rfl (fun hg5 => ?_) (fun hg5 => ?_)
    · replace h := ite_t hg5 h
      refine rg (c (mv hN (q 5)) rfl (c (mv hN (q 1)) rfl (c (add6 (ltN hN rfl) (q 11) (q 12)) rfl (c (OpJ.assign (ltN hN rfl) (q 13)) rfl cn)))) ?_
      exact hjj4 _ h _ _ (Mat.trans (mp [] [(5, (i6 (w64 ((Int.tmod a0 a1) + a1))))] [] hB) (mp [] _ _ hB))
    · replace h := ite_f hg5 h
      refine AWp.skip ?_
      exact hjj4 _ h _ _ (mp [] _ _ hB)

noncomputable def exchangepointmill_Deck_Next (a0 : exchangepointmill_Deck) (a1 : Int) : Option (Int × exchangepointmill_Deck) :=
  (if (decide ((a0.fL.length : Int) ≤ a0.fAt)) = true then
  some ((0 : Int), a0)
  else
  (idx a0.fL (w64 ((w64 (a0.fAt + (1 : Int))) - (1 : Int)))).bind fun x2 =>
  (exchangepointmill_Mod x2 a1).bind fun r3 =>
  some (r3, (exchangepointmill_Deck.mk a0.fL (w64 (a0.fAt + (1 : Int))))))
set_option maxHeartbeats 4000000 in
set_option maxRecDepth 100000 in
theorem exchangepointmill_Deck_Next_ac (a0 : exchangepointmill_Deck) (a1 : Int) (r : Int × exchangepointmill_Deck) (h : exchangepointmill_Deck_Next a0 a1 = some r) : AC Try.prog 17 [(.ptr 0 0 []), (.d (.int .i64 a1))] [(0, (.box 72 (.d (e_exchangepointmill_Deck a0))))] (.d (.int .i64 r.1)) [(0, some (.box 72 (.d (e_exchangepointmill_Deck r.2))))] := by
  refine AC.of_code2 Try.func17 rfl rfl (Nat.le_of_ble_eq_true (by rfl)) fun B hB hN => ?_
  have L {d : Nat} (h : Nat.blt d Try.f17.ntmps = true) : d < B.N := ltN hN h
  delta exchangepointmill_Deck_Next at h
  refine sr (c (OpJ.assign (L rfl) (Opd.int .i64 (0))) rfl cn) ?_
  refine gh [(0, _), (1, _)] [(0, some _)] hB rfl rfl (by rfl) ?_
  refine AWp.seq ?_
  refine sd (c (mv hN (q 0)) rfl (c (OpJ.nilP (L rfl) (q 5)) rfl (c (ov (.ptr 0 1 [1]) (fp hN Try.underlying72 1 tyS3 _ (q 6))) rfl (c (lb hN 72 _ _ tyS3 (ad _) (q 7)) rfl (c (mv hN (q 0)) rfl (c (OpJ.nilP (L rfl) (q 9)) rfl (c (ov (.ptr 0 0 [0]) (fp hN Try.underlying72 0 tyS28 _ (q 10))) rfl (c (lb hN 72 _ _ tyS28 (ad _) (q 11)) rfl (c (OpJ.val (v' := (i6 (a0.fL.length : Int))) (by simp) (OpJ.lenD Try.underlying28 (L rfl) (q 12))) rfl (c (OpJ.geq (L rfl) (q 8) (q 13)) rfl cn)))))))))) (by kernel_rfl) (by kernel_rfl) ?_
  refine gh [(0, _), (1, _), (14, _)] [(0, some _)] hB rfl rfl (by rfl) ?_
  refine AWp.cond rfl (fun hg1 => ?_) (fun hg1 => ?_)
  · replace h := ite_t hg1 h
    refine sr (c (OpJ.assign (L rfl) (Opd.int .i64 (0))) rfl cn) ?_
    refine gh [(4, _)] [(0, some _)] hB rfl rfl (by rfl) ?_
    refine AWp.ret ?_
    refine seqQ_r ?_
    obtain rfl := Option.some.inj h
    exact ⟨.inl rfl, _, _, (kp [(4, _)] [(0, some _)] hB rfl rfl (by rfl)), [(i6 0)], (Res.tmp (by rfl) (by rfl) Res.nil), rfl, by rfl, by rfl, by rfl⟩
  · replace h := ite_f hg1 h
    refine AWp.skip ?_
    refine seqQ_n ?_
    refine sr (c (mv hN (q 0)) rfl (c (OpJ.nilP (L rfl) (q 15)) rfl (c (ov (.ptr 0 1 [1]) (fp hN Try.underlying72 1 tyS3 _ (q 16))) rfl (c (lb hN 72 _ _ tyS3 (ad _) (q 17)) rfl (c (add6 (L rfl) (q 18) (Opd.int .i64 (1))) rfl (c (OpJ.nilP (L rfl) (q 15)) rfl (c (ov (.ptr 0 1 [1]) (fp hN Try.underlying72 1 tyS3 _ (q 20))) rfl (cg (OpJ.storeB tyS3 (SetAt.dst1 (by rfl) (by rfl) (SetAt.here _ _) (by rfl) (by rfl) (by first | rfl | omega)) (by rfl) (by rfl) (by simp) rfl (q 21) (q 19)) rfl cn)))))))) ?_
    refine gh [(0, _), (1, _)] [(0, some _)] hB rfl rfl (by rfl) ?_
    obtain ⟨x2, hx2, h⟩ := bindS h
    obtain ⟨r3, hr3, h⟩ := bindS h
    refine sd (c (mv hN (q 0)) rfl (c (OpJ.nilP (L rfl) (q 22)) rfl (c (ov (.ptr 0 0 [0]) (fp hN Try.underlying72 0 tyS28 _ (q 23))) rfl (c (lb hN 72 _ _ tyS28 (ad _) (q 24)) rfl (c (mv hN (q 0)) rfl (c (OpJ.nilP (L rfl) (q 26)) rfl (c (ov (.ptr 0 1 [1]) (fp hN Try.underlying72 1 tyS3 _ (q 27))) rfl (c (lb hN 72 _ _ tyS3 (ad _) (q 28)) rfl (c (sub6 (L rfl) (q 29) (Opd.int .i64 (1))) rfl (c (OpJ.indexD Try.underlying28 tyS3 (idx_some hx2).1 (get_map (eI .i64) (idx_some hx2).2) (L rfl) (q 25) (q 30)) rfl (c (OpJ.loadD tyS3 (by rfl) (by rfl) (L rfl) (q 31)) rfl (c (mv hN (q 1)) rfl (cg (OpJ.callFn hB fnOk10 (exchangepointmill_Mod_ac x2 a1 r3 hr3) [] (by kernel_rfl) (L rfl) (by kernel_rfl) (OpdL.cons (q 32) (OpdL.cons (q 33) OpdL.nil))) rfl (c (OpJ.assign (L rfl) (q 34)) rfl cn)))))))))))))) (by kernel_rfl) (by kernel_rfl) ?_
    refine gh [(4, _)] [(0, some _)] hB rfl rfl (by rfl) ?_
    refine AWp.ret ?_
    obtain rfl := Option.some.inj h
    exact ⟨.inl rfl, _, _, (kp [(4, _)] [(0, some _)] hB rfl rfl (by rfl)), [(i6 r3)], (Res.tmp (by rfl) (by rfl) Res.nil), rfl, by rfl, by rfl, by rfl⟩


end Go.Proofs.Ytimcphncaffenaa
