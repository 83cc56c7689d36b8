/- Printed by gen.py: the Go functions as plain functions, and that the code does what they say. -/
import Derived.Test.YtgcilleccigmdaaGreatDoorChecked
import Derived.Test.YtgcilleccigmdaaGreatDoorVcYB
import Derived.Test.YtgcilleccigmdaaGreatDoorVcZ
import Derived.KernelRfl
import Derived.Test.YtgcilleccigmdaaGreatDoorVcMD
import Derived.Test.YtgcilleccigmdaaGreatDoorVcMQ
import Derived.Test.YtgcilleccigmdaaGreatDoorVcSG
import Derived.Test.YtgcilleccigmdaaGreatDoorExt
import Derived.Test.YtgcilleccigmdaaGreatDoorVcGl
import Derived.Test.YtgcilleccigmdaaGreatDoorVcSO
import Derived.Test.YtgcilleccigmdaaGreatDoorVcWS
namespace Go.Proofs.YtgcilleccigmdaaGreatDoor
open Go Go.Vc
open Tryz
set_option maxHeartbeats 4000000
set_option maxRecDepth 100000
structure api_Addr where
 fV6 : Bool
 fHi : Int
 fLo : Int
def e_api_Addr (x : api_Addr) : D := .st [(.bool x.fV6), (.int .u64 x.fHi), (.int .u64 x.fLo)]
structure api_Range where
 fFrom : api_Addr
 fTo : api_Addr
def e_api_Range (x : api_Range) : D := .st [(e_api_Addr x.fFrom), (e_api_Addr x.fTo)]
def e_LeapiRange (x : (List api_Range)) : D := (.list 6 (x.map e_api_Range))
structure api_Span where
 fFrom : Int
 fTo : Int
def e_api_Span (x : api_Span) : D := .st [(.int .i64 x.fFrom), (.int .i64 x.fTo)]
def e_LeapiSpan (x : (List api_Span)) : D := (.list 2 (x.map e_api_Span))
structure api_Resources where
 fAddrs : (List api_Range)
 fASNs : (List api_Span)
def e_api_Resources (x : api_Resources) : D := .st [(.list 6 (x.fAddrs.map e_api_Range)), (.list 2 (x.fASNs.map e_api_Span))]
structure api_Addr_ where
 ffrom : api_Addr
 fto : api_Addr
def e_api_Addr_ (x : api_Addr_) : D := .st [(e_api_Addr x.ffrom), (e_api_Addr x.fto)]
structure resource_part_int_ where
 ffrom : Int
 fto : Int
def e_resource_part_int_ (x : resource_part_int_) : D := .st [(.int .i64 x.ffrom), (.int .i64 x.fto)]
def e_LeapiAddr (x : (List api_Addr_)) : D := (.list 6 (x.map e_api_Addr_))
def e_Leresourcepartint (x : (List resource_part_int_)) : D := (.list 2 (x.map e_resource_part_int_))
structure resource_set where
 faddrs : (List api_Addr_)
 fasns : (List resource_part_int_)
def e_resource_set (x : resource_set) : D := .st [(.list 6 (x.faddrs.map e_api_Addr_)), (.list 2 (x.fasns.map e_resource_part_int_))]
structure api_Prefix where
 fAddr : api_Addr
 fLen : Int
def e_api_Prefix (x : api_Prefix) : D := .st [(e_api_Addr x.fAddr), (.int .i64 x.fLen)]
def e_LeIi64 (x : (List Int)) : D := (.list 1 (x.map (eI .i64)))
structure exchangepointmake_Deck where
 fL : (List Int)
 fAt : Int
def e_exchangepointmake_Deck (x : exchangepointmake_Deck) : D := .st [(.list 1 (x.fL.map (eI .i64))), (.int .i64 x.fAt)]
def e_A2eapiResources (x : (List api_Resources)) : D := (.arr 2 2 (x.map e_api_Resources))
@[reducible] noncomputable def qe_api_Range_6 (x : List api_Range) : V := .d (.list 6 (x.map e_api_Range))
@[reducible] noncomputable def qe_api_Span_2 (x : List api_Span) : V := .d (.list 2 (x.map e_api_Span))
@[reducible] noncomputable def we_api_Addr__99_6 (x : List api_Addr_) : Ob := .row 99 6 (x.map e_api_Addr_)
@[reducible] noncomputable def qe_api_Addr__6 (x : List api_Addr_) : V := .d (.list 6 (x.map e_api_Addr_))
@[reducible] noncomputable def qI_1 (x : List Int) : V := .d (.list 1 (x.map (eI .i64)))
@[reducible] noncomputable def qe_api_Prefix_4 (x : List api_Prefix) : V := .d (.list 4 (x.map e_api_Prefix))
@[reducible] noncomputable def we_api_Prefix_56_4 (x : List api_Prefix) : Ob := .row 56 4 (x.map e_api_Prefix)
@[reducible] noncomputable def we_api_Range_46_6 (x : List api_Range) : Ob := .row 46 6 (x.map e_api_Range)
@[reducible] noncomputable def we_api_Span_62_2 (x : List api_Span) : Ob := .row 62 2 (x.map e_api_Span)
theorem tyS25 : TyS Tryz.prog 25 2 true := ⟨by kernel_rfl, by kernel_rfl⟩
theorem tyS22 : TyS Tryz.prog 22 1 false := ⟨by kernel_rfl, by kernel_rfl⟩
theorem tyS23 : TyS Tryz.prog 23 1 false := ⟨by kernel_rfl, by kernel_rfl⟩
theorem fnOk5 : FnOk Tryz.prog 5 := ⟨by kernel_rfl⟩
theorem tyZS42 : TyZ Tryz.prog 42 (.st [(.d (.bool false)), (.d (.int .u64 (0 : Int))), (.d (.int .u64 (0 : Int)))]) := ⟨by kernel_rfl, fun w => by kernel_rfl⟩
theorem tyZS46 : TyZ Tryz.prog 46 (.st [(.d (.st [(.bool false), (.int .u64 (0 : Int)), (.int .u64 (0 : Int))])), (.d (.st [(.bool false), (.int .u64 (0 : Int)), (.int .u64 (0 : Int))]))]) := ⟨by kernel_rfl, fun w => by kernel_rfl⟩
theorem tyS46 : TyS Tryz.prog 46 6 true := ⟨by kernel_rfl, by kernel_rfl⟩
theorem tyZD46 : TyZ Tryz.prog 46 (.d (.st [(.st [(.bool false), (.int .u64 (0 : Int)), (.int .u64 (0 : Int))]), (.st [(.bool false), (.int .u64 (0 : Int)), (.int .u64 (0 : Int))])])) := ⟨by kernel_rfl, fun w => by kernel_rfl⟩
theorem tyZS25 : TyZ Tryz.prog 25 (.st [.nils, .nils]) := ⟨by kernel_rfl, fun w => by kernel_rfl⟩
theorem tyZ46 : TyZ Tryz.prog 46 (.d (.st [(.st [(.bool false), (.int .u64 (0 : Int)), (.int .u64 (0 : Int))]), (.st [(.bool false), (.int .u64 (0 : Int)), (.int .u64 (0 : Int))])])) := ⟨by kernel_rfl, fun w => by kernel_rfl⟩
theorem tyS42 : TyS Tryz.prog 42 3 true := ⟨by kernel_rfl, by kernel_rfl⟩
theorem tyS4 : TyS Tryz.prog 4 1 false := ⟨by kernel_rfl, by kernel_rfl⟩
theorem tyS40 : TyS Tryz.prog 40 1 false := ⟨by kernel_rfl, by kernel_rfl⟩
theorem fnOk42 : FnOk Tryz.prog 42 := ⟨by kernel_rfl⟩
theorem tyS62 : TyS Tryz.prog 62 2 true := ⟨by kernel_rfl, by kernel_rfl⟩
theorem tyS3 : TyS Tryz.prog 3 1 false := ⟨by kernel_rfl, by kernel_rfl⟩
theorem fnOk45 : FnOk Tryz.prog 45 := ⟨by kernel_rfl⟩
theorem fnOk44 : FnOk Tryz.prog 44 := ⟨by kernel_rfl⟩
theorem fnOk67 : FnOk Tryz.prog 67 := ⟨by kernel_rfl⟩
theorem fnOk43 : FnOk Tryz.prog 43 := ⟨by kernel_rfl⟩
theorem tyZ69 : TyZ Tryz.prog 69 (.st [.nils, .nils]) := ⟨by kernel_rfl, fun w => by kernel_rfl⟩
theorem tyS66 : TyS Tryz.prog 66 1 false := ⟨by kernel_rfl, by kernel_rfl⟩
theorem tyZS99 : TyZ Tryz.prog 99 (.st [(.d (.st [(.bool false), (.int .u64 (0 : Int)), (.int .u64 (0 : Int))])), (.d (.st [(.bool false), (.int .u64 (0 : Int)), (.int .u64 (0 : Int))]))]) := ⟨by kernel_rfl, fun w => by kernel_rfl⟩
theorem tyS99 : TyS Tryz.prog 99 6 true := ⟨by kernel_rfl, by kernel_rfl⟩
theorem tyZD99 : TyZ Tryz.prog 99 (.d (.st [(.st [(.bool false), (.int .u64 (0 : Int)), (.int .u64 (0 : Int))]), (.st [(.bool false), (.int .u64 (0 : Int)), (.int .u64 (0 : Int))])])) := ⟨by kernel_rfl, fun w => by kernel_rfl⟩
theorem tyE99 : TyE Tryz.prog 99 6 48 := ⟨by kernel_rfl, by decide⟩
theorem tyZ62 : TyZ Tryz.prog 62 (.d (.st [(.int .i64 (0 : Int)), (.int .i64 (0 : Int))])) := ⟨by kernel_rfl, fun w => by kernel_rfl⟩
theorem tyS67 : TyS Tryz.prog 67 1 false := ⟨by kernel_rfl, by kernel_rfl⟩
theorem tyZS101 : TyZ Tryz.prog 101 (.st [(.d (.int .i64 (0 : Int))), (.d (.int .i64 (0 : Int)))]) := ⟨by kernel_rfl, fun w => by kernel_rfl⟩
theorem tyS101 : TyS Tryz.prog 101 2 true := ⟨by kernel_rfl, by kernel_rfl⟩
theorem tyZD101 : TyZ Tryz.prog 101 (.d (.st [(.int .i64 (0 : Int)), (.int .i64 (0 : Int))])) := ⟨by kernel_rfl, fun w => by kernel_rfl⟩
theorem tyE101 : TyE Tryz.prog 101 2 16 := ⟨by kernel_rfl, by decide⟩
theorem tyS69 : TyS Tryz.prog 69 2 true := ⟨by kernel_rfl, by kernel_rfl⟩
theorem fnOk29 : FnOk Tryz.prog 29 := ⟨by kernel_rfl⟩
theorem tyS73 : TyS Tryz.prog 73 3 true := ⟨by kernel_rfl, by kernel_rfl⟩
theorem tyZ99 : TyZ Tryz.prog 99 (.d (.st [(.st [(.bool false), (.int .u64 (0 : Int)), (.int .u64 (0 : Int))]), (.st [(.bool false), (.int .u64 (0 : Int)), (.int .u64 (0 : Int))])])) := ⟨by kernel_rfl, fun w => by kernel_rfl⟩
theorem tyS71 : TyS Tryz.prog 71 1 false := ⟨by kernel_rfl, by kernel_rfl⟩
theorem fnOk72 : FnOk Tryz.prog 72 := ⟨by kernel_rfl⟩
theorem fnOk85 : FnOk Tryz.prog 85 := ⟨by kernel_rfl⟩
theorem fnOk71 : FnOk Tryz.prog 71 := ⟨by kernel_rfl⟩
theorem fnOk86 : FnOk Tryz.prog 86 := ⟨by kernel_rfl⟩
theorem fnOk73 : FnOk Tryz.prog 73 := ⟨by kernel_rfl⟩
theorem tyZD3 : TyZ Tryz.prog 3 (.d (.int .i64 (0 : Int))) := ⟨by kernel_rfl, fun w => by kernel_rfl⟩
theorem fnOk70 : FnOk Tryz.prog 70 := ⟨by kernel_rfl⟩
theorem fnOk50 : FnOk Tryz.prog 50 := ⟨by kernel_rfl⟩
theorem tyS48 : TyS Tryz.prog 48 1 false := ⟨by kernel_rfl, by kernel_rfl⟩
theorem tyZ42 : TyZ Tryz.prog 42 (.d (.st [(.bool false), (.int .u64 (0 : Int)), (.int .u64 (0 : Int))])) := ⟨by kernel_rfl, fun w => by kernel_rfl⟩
theorem fnOk52 : FnOk Tryz.prog 52 := ⟨by kernel_rfl⟩
theorem fnOk46 : FnOk Tryz.prog 46 := ⟨by kernel_rfl⟩
theorem tyS77 : TyS Tryz.prog 77 3 true := ⟨by kernel_rfl, by kernel_rfl⟩
theorem tyZ101 : TyZ Tryz.prog 101 (.d (.st [(.int .i64 (0 : Int)), (.int .i64 (0 : Int))])) := ⟨by kernel_rfl, fun w => by kernel_rfl⟩
theorem tyS50 : TyS Tryz.prog 50 1 false := ⟨by kernel_rfl, by kernel_rfl⟩
theorem tyS75 : TyS Tryz.prog 75 1 false := ⟨by kernel_rfl, by kernel_rfl⟩
theorem fnOk134 : FnOk Tryz.prog 134 := ⟨by kernel_rfl⟩
theorem fnOk47 : FnOk Tryz.prog 47 := ⟨by kernel_rfl⟩
theorem fnOk19 : FnOk Tryz.prog 19 := ⟨by kernel_rfl⟩
theorem tyZ56 : TyZ Tryz.prog 56 (.d (.st [(.st [(.bool false), (.int .u64 (0 : Int)), (.int .u64 (0 : Int))]), (.int .i64 (0 : Int))])) := ⟨by kernel_rfl, fun w => by kernel_rfl⟩
theorem tyZS56 : TyZ Tryz.prog 56 (.st [(.d (.st [(.bool false), (.int .u64 (0 : Int)), (.int .u64 (0 : Int))])), (.d (.int .i64 (0 : Int)))]) := ⟨by kernel_rfl, fun w => by kernel_rfl⟩
theorem tyS56 : TyS Tryz.prog 56 4 true := ⟨by kernel_rfl, by kernel_rfl⟩
theorem fnOk77 : FnOk Tryz.prog 77 := ⟨by kernel_rfl⟩
theorem fnOk76 : FnOk Tryz.prog 76 := ⟨by kernel_rfl⟩
theorem fnOk87 : FnOk Tryz.prog 87 := ⟨by kernel_rfl⟩
theorem fnOk74 : FnOk Tryz.prog 74 := ⟨by kernel_rfl⟩
theorem held42 : Program.stoodInHeld Tryz.prog 42 = false := by kernel_rfl
theorem eqg42 : Program.eqGuardType Tryz.prog (Program.depth Tryz.prog) 42 = false := by kernel_rfl
theorem fnOk75 : FnOk Tryz.prog 75 := ⟨by kernel_rfl⟩
theorem fnOk53 : FnOk Tryz.prog 53 := ⟨by kernel_rfl⟩
theorem fnOk51 : FnOk Tryz.prog 51 := ⟨by kernel_rfl⟩
theorem tyZD56 : TyZ Tryz.prog 56 (.d (.st [(.st [(.bool false), (.int .u64 (0 : Int)), (.int .u64 (0 : Int))]), (.int .i64 (0 : Int))])) := ⟨by kernel_rfl, fun w => by kernel_rfl⟩
theorem tyE56 : TyE Tryz.prog 56 4 32 := ⟨by kernel_rfl, by decide⟩
theorem fnOk25 : FnOk Tryz.prog 25 := ⟨by kernel_rfl⟩
theorem fnOk6 : FnOk Tryz.prog 6 := ⟨by kernel_rfl⟩
theorem tyZS58 : TyZ Tryz.prog 58 (.st [.nils, (.d (.int .i64 (0 : Int)))]) := ⟨by kernel_rfl, fun w => by kernel_rfl⟩
theorem fnOk7 : FnOk Tryz.prog 7 := ⟨by kernel_rfl⟩
theorem tyZ25 : TyZ Tryz.prog 25 (.st [.nils, .nils]) := ⟨by kernel_rfl, fun w => by kernel_rfl⟩
theorem tyS26 : TyS Tryz.prog 26 1 false := ⟨by kernel_rfl, by kernel_rfl⟩
theorem fnOk23 : FnOk Tryz.prog 23 := ⟨by kernel_rfl⟩
theorem fnOk26 : FnOk Tryz.prog 26 := ⟨by kernel_rfl⟩
theorem tyZD40 : TyZ Tryz.prog 40 (.d (.int .u64 (0 : Int))) := ⟨by kernel_rfl, fun w => by kernel_rfl⟩
theorem fnOk20 : FnOk Tryz.prog 20 := ⟨by kernel_rfl⟩
theorem fnOk63 : FnOk Tryz.prog 63 := ⟨by kernel_rfl⟩
theorem fnOk78 : FnOk Tryz.prog 78 := ⟨by kernel_rfl⟩
theorem tyS5 : TyS Tryz.prog 5 1 false := ⟨by kernel_rfl, by kernel_rfl⟩
theorem tyZD5 : TyZ Tryz.prog 5 (.d (.int .u8 (0 : Int))) := ⟨by kernel_rfl, fun w => by kernel_rfl⟩
theorem tyE5 : TyE Tryz.prog 5 1 1 := ⟨by kernel_rfl, by decide⟩
theorem fnOk79 : FnOk Tryz.prog 79 := ⟨by kernel_rfl⟩
theorem fnOk80 : FnOk Tryz.prog 80 := ⟨by kernel_rfl⟩
theorem fnOk54 : FnOk Tryz.prog 54 := ⟨by kernel_rfl⟩
theorem fnOk27 : FnOk Tryz.prog 27 := ⟨by kernel_rfl⟩
theorem tyZS62 : TyZ Tryz.prog 62 (.st [(.d (.int .i64 (0 : Int))), (.d (.int .i64 (0 : Int)))]) := ⟨by kernel_rfl, fun w => by kernel_rfl⟩
theorem tyZD62 : TyZ Tryz.prog 62 (.d (.st [(.int .i64 (0 : Int)), (.int .i64 (0 : Int))])) := ⟨by kernel_rfl, fun w => by kernel_rfl⟩
theorem tyE62 : TyE Tryz.prog 62 2 16 := ⟨by kernel_rfl, by decide⟩
theorem held56 : Program.stoodInHeld Tryz.prog 56 = false := by kernel_rfl
theorem eqg56 : Program.eqGuardType Tryz.prog (Program.depth Tryz.prog) 56 = false := by kernel_rfl
theorem fnOk55 : FnOk Tryz.prog 55 := ⟨by kernel_rfl⟩
theorem fnOk56 : FnOk Tryz.prog 56 := ⟨by kernel_rfl⟩
theorem tyE46 : TyE Tryz.prog 46 6 48 := ⟨by kernel_rfl, by decide⟩
theorem fnOk40 : FnOk Tryz.prog 40 := ⟨by kernel_rfl⟩
theorem fnOk21 : FnOk Tryz.prog 21 := ⟨by kernel_rfl⟩
theorem fnOk35 : FnOk Tryz.prog 35 := ⟨by kernel_rfl⟩
theorem fnOk36 : FnOk Tryz.prog 36 := ⟨by kernel_rfl⟩
theorem fnOk34 : FnOk Tryz.prog 34 := ⟨by kernel_rfl⟩
theorem fnOk28 : FnOk Tryz.prog 28 := ⟨by kernel_rfl⟩
theorem fnOk8 : FnOk Tryz.prog 8 := ⟨by kernel_rfl⟩
theorem tyZ32 : TyZ Tryz.prog 32 (.d (.arr 2 2 ((List.replicate 2 (api_Resources.mk ([] : List api_Range) ([] : List api_Span))).map e_api_Resources))) := ⟨by kernel_rfl, fun w => by kernel_rfl⟩
theorem fnOk9 : FnOk Tryz.prog 9 := ⟨by kernel_rfl⟩
theorem tyS32 : TyS Tryz.prog 32 4 true := ⟨by kernel_rfl, by kernel_rfl⟩
theorem tyZD32 : TyZ Tryz.prog 32 (.d (.arr 2 2 ((List.replicate 2 (api_Resources.mk ([] : List api_Range) ([] : List api_Span))).map e_api_Resources))) := ⟨by kernel_rfl, fun w => by kernel_rfl⟩
theorem fnOk57 : FnOk Tryz.prog 57 := ⟨by kernel_rfl⟩
theorem fnOk59 : FnOk Tryz.prog 59 := ⟨by kernel_rfl⟩
theorem fnOk58 : FnOk Tryz.prog 58 := ⟨by kernel_rfl⟩
theorem fnOk30 : FnOk Tryz.prog 30 := ⟨by kernel_rfl⟩
theorem fnOk60 : FnOk Tryz.prog 60 := ⟨by kernel_rfl⟩
theorem fnOk62 : FnOk Tryz.prog 62 := ⟨by kernel_rfl⟩
theorem fnOk61 : FnOk Tryz.prog 61 := ⟨by kernel_rfl⟩
theorem fnOk31 : FnOk Tryz.prog 31 := ⟨by kernel_rfl⟩
theorem tyZS69 : TyZ Tryz.prog 69 (.st [.nils, .nils]) := ⟨by kernel_rfl, fun w => by kernel_rfl⟩
theorem fnOk32 : FnOk Tryz.prog 32 := ⟨by kernel_rfl⟩
theorem fnOk10 : FnOk Tryz.prog 10 := ⟨by kernel_rfl⟩
theorem fnOk33 : FnOk Tryz.prog 33 := ⟨by kernel_rfl⟩
theorem fnOk11 : FnOk Tryz.prog 11 := ⟨by kernel_rfl⟩
theorem fnOk133 : FnOk Tryz.prog 133 := ⟨by kernel_rfl⟩
theorem fnOk64 : FnOk Tryz.prog 64 := ⟨by kernel_rfl⟩
theorem fnOk135 : FnOk Tryz.prog 135 := ⟨by kernel_rfl⟩
theorem fnOk65 : FnOk Tryz.prog 65 := ⟨by kernel_rfl⟩
theorem fnOk37 : FnOk Tryz.prog 37 := ⟨by kernel_rfl⟩
theorem fnOk12 : FnOk Tryz.prog 12 := ⟨by kernel_rfl⟩
theorem fnOk38 : FnOk Tryz.prog 38 := ⟨by kernel_rfl⟩
theorem fnOk39 : FnOk Tryz.prog 39 := ⟨by kernel_rfl⟩
theorem fnOk13 : FnOk Tryz.prog 13 := ⟨by kernel_rfl⟩
theorem fnOk14 : FnOk Tryz.prog 14 := ⟨by kernel_rfl⟩
theorem tyZD4 : TyZ Tryz.prog 4 (.d (.bool false)) := ⟨by kernel_rfl, fun w => by kernel_rfl⟩
theorem fnOk66 : FnOk Tryz.prog 66 := ⟨by kernel_rfl⟩
theorem fnOk41 : FnOk Tryz.prog 41 := ⟨by kernel_rfl⟩
theorem fnOk15 : FnOk Tryz.prog 15 := ⟨by kernel_rfl⟩
theorem held46 : Program.stoodInHeld Tryz.prog 46 = false := by kernel_rfl
theorem eqg46 : Program.eqGuardType Tryz.prog (Program.depth Tryz.prog) 46 = false := by kernel_rfl
theorem held62 : Program.stoodInHeld Tryz.prog 62 = false := by kernel_rfl
theorem eqg62 : Program.eqGuardType Tryz.prog (Program.depth Tryz.prog) 62 = false := by kernel_rfl
theorem fnOk16 : FnOk Tryz.prog 16 := ⟨by kernel_rfl⟩
theorem fnOk17 : FnOk Tryz.prog 17 := ⟨by kernel_rfl⟩
theorem fnOk18 : FnOk Tryz.prog 18 := ⟨by kernel_rfl⟩
noncomputable def exchangepointlaw21_light (a0 : api_Resources) : Option (Bool) :=
 some ((decide ((a0.fAddrs.length : Int) ≤ (40 : Int))) && (decide ((a0.fASNs.length : Int) ≤ (40 : Int))))
theorem exchangepointlaw21_light_ac (a0 : api_Resources) (r : Bool) (h : exchangepointlaw21_light a0 = some r) : AC Tryz.prog 5 [(.d (e_api_Resources a0))] [] (.d (.bool r)) [] := by
 refine AC.of_code2 Tryz.func5 rfl rfl (Nat.le_of_ble_eq_true (by rfl)) fun B hB hN => ?_
 delta exchangepointlaw21_light at h
 refine sr (cg (OpJ.box hB (nm := 1001) (by decide) (by simp) rfl (ltN hN rfl) (q 0)) rfl (c (OpJ.assign (ltN hN rfl) (Opd.bool false)) rfl cn)) ?_
 refine sr (c (fo 1001 0 [0] hN underlying25 0 tyS22 (q 1)) rfl (c (la hN 25 tyS22 (q 3)) rfl (c (OpJ.val (v' := (i6 (a0.fAddrs.length : Int))) (by simp) (OpJ.lenD underlying22 (ltN hN rfl) (q 4))) rfl (c (OpJ.leq (ltN hN rfl) (q 5) (Opd.int .i64 (40))) rfl (c (mv hN (q 6)) rfl (c (oq hN 7 (fo 1001 1 [1] hN underlying25 1 tyS23 (q 1)) (OptL.keep (by rfl) OptL.nil) (GuardV.plain _)) rfl (c (oq hN 7 (la hN 25 tyS23 (q 8)) (OptL.opt OptL.nil) (GuardV.plain _)) rfl (c (oq hN 7 (OpJ.val (v' := (i6 (a0.fASNs.length : Int))) (by simp) (OpJ.lenD underlying23 (ltN hN rfl) (q 9))) (OptL.opt OptL.nil) (GuardV.plain _)) rfl (c (oq hN 7 (OpJ.leq (ltN hN rfl) (q 10) (Opd.int .i64 (40))) (OptL.opt OptL.nil) (GuardV.plain _)) rfl (c (OpJ.pickAnd rfl (ltN hN rfl) (q 7) (q 11)) rfl (c (OpJ.assign (ltN hN rfl) (q 12)) rfl cn))))))))))) ?_
 apply AWp.ret
 obtain rfl := Option.some.inj h
 exact ⟨.inl rfl, _, _, (kp [(2, _)] [] hB rfl rfl (by rfl)), [(bo ((decide ((a0.fAddrs.length : Int) ≤ (40 : Int))) && (decide ((a0.fASNs.length : Int) ≤ (40 : Int)))))], (Res.tmp (by rfl) (by rfl) Res.nil), rfl, by rfl, by rfl, by rfl⟩
noncomputable def addr_Valid (a0 : api_Addr) : Option (Bool) :=
 jn (fun m2 : Bool =>
 some m2) (fun j3 =>
 (if a0.fV6 = true then
 j3 true
 else
 j3 ((a0.fHi == (0 : Int)) && (decide (a0.fLo < (4294967296 : Int))))))
theorem addr_Valid_ac (a0 : api_Addr) (r : Bool) (h : addr_Valid a0 = some r) : AC Tryz.prog 42 [(.d (e_api_Addr a0))] [] (.d (.bool r)) [] := by
 refine AC.of_code2 Tryz.func42 rfl rfl (Nat.le_of_ble_eq_true (by rfl)) fun B hB hN => ?_
 have L {d : Nat} (h : Nat.blt d Tryz.f42.ntmps = true) : d < B.N := ltN hN h
 delta addr_Valid at h
 refine sr (cg (OpJ.box hB (nm := 1001) (by decide) (by simp) rfl (L rfl) (q 0)) rfl (c (OpJ.assign (L rfl) (Opd.bool false)) rfl cn)) ?_
 apply AWp.seq
 refine AWp.cut h (fun m2 : Bool => ([(2, (bo m2))] : EL)) (fun m2 : Bool => ([] : OL)) (fun m2 h E' O' hmat => ?_) (fun j3 hjj3 h => ?_)
 ·apply seqQ_n
  refine AWp.ghost hmat ?_
  apply AWp.ret
  obtain rfl := Option.some.inj h
  exact ⟨.inl rfl, _, _, (kp [(2, _)] [] hB rfl rfl (by rfl)), [(bo m2)], (Res.tmp (by rfl) (by rfl) Res.nil), rfl, by rfl, by rfl, by rfl⟩
 ·rcases Bool.eq_false_or_eq_true a0.fV6 with hg4 | hg4
  ·replace h := ite_t hg4 h
   refine rg (c (fo 1001 0 [0] hN underlying42 0 tyS4 (q 1)) rfl (c (la hN 42 tyS4 (q 3)) rfl (c (OpJ.val (v' := .d (.bool true)) (by rw [hg4] <;> rfl) (mv hN (q 4))) rfl (cg (sU 5 (L rfl)) rfl (cg (sU 5 (L rfl)) rfl (cg (sU 5 (L rfl)) rfl (cg (sU 5 (L rfl)) rfl (cg (sV 9 (L rfl)) rfl (cg (sV 9 (L rfl)) rfl (cg (sV 9 (L rfl)) rfl (cg (sU 5 (L rfl)) rfl (c (OpJ.pickT (L rfl) (q 5) (Opd.bool true)) rfl (c (OpJ.assign (L rfl) (q 14)) rfl cn))))))))))))) ?_
   exact hjj3 _ h _ _ (mp [] _ _ hB)
  ·replace h := ite_f hg4 h
   refine rg (c (fo 1001 0 [0] hN underlying42 0 tyS4 (q 1)) rfl (c (la hN 42 tyS4 (q 3)) rfl (c (OpJ.val (v' := .d (.bool false)) (by rw [hg4] <;> rfl) (mv hN (q 4))) rfl (c (gd 5 (fo 1001 1 [1] hN underlying42 1 tyS40 (q 1))) rfl (c (gd 5 (la hN 42 tyS40 (q 6))) rfl (c (gd 5 (OpJ.eqlI (L rfl) (q 7) (Opd.int .u64 (0)))) rfl (c (gd 5 (mv hN (q 8))) rfl (c (oq hN 9 (fo 1001 2 [2] hN underlying42 2 tyS40 (q 1)) (OptL.keep (by rfl) OptL.nil) (GuardV.plain _)) rfl (c (oq hN 9 (la hN 42 tyS40 (q 10)) (OptL.opt OptL.nil) (GuardV.plain _)) rfl (c (oq hN 9 (OpJ.lss (L rfl) (q 11) (Opd.int .u64 (4294967296))) (OptL.opt OptL.nil) (GuardV.plain _)) rfl (c (gd 5 (OpJ.pickAnd rfl (L rfl) (q 9) (q 12))) rfl (c (OpJ.pickF (L rfl) (q 5) (q 13)) rfl (c (OpJ.assign (L rfl) (q 14)) rfl cn))))))))))))) ?_
   exact hjj3 _ h _ _ (mp [] _ _ hB)
noncomputable def resource_span (a0 : api_Span) : Option (Bool) :=
 some (((decide ((0 : Int) ≤ a0.fFrom)) && (decide (a0.fFrom ≤ a0.fTo))) && (decide (a0.fTo ≤ (4294967295 : Int))))
theorem resource_span_ac (a0 : api_Span) (r : Bool) (h : resource_span a0 = some r) : AC Tryz.prog 45 [(.d (e_api_Span a0))] [] (.d (.bool r)) [] := by
 refine AC.of_code2 Tryz.func45 rfl rfl (Nat.le_of_ble_eq_true (by rfl)) fun B hB hN => ?_
 delta resource_span at h
 refine sr (cg (OpJ.box hB (nm := 1001) (by decide) (by simp) rfl (ltN hN rfl) (q 0)) rfl (c (OpJ.assign (ltN hN rfl) (Opd.bool false)) rfl cn)) ?_
 refine sr (c (fo 1001 0 [0] hN underlying62 0 tyS3 (q 1)) rfl (c (la hN 62 tyS3 (q 3)) rfl (c (OpJ.geq (ltN hN rfl) (q 4) (Opd.int .i64 (0))) rfl (c (mv hN (q 5)) rfl (c (oq hN 6 (fo 1001 0 [0] hN underlying62 0 tyS3 (q 1)) (OptL.keep (by rfl) OptL.nil) (GuardV.plain _)) rfl (c (oq hN 6 (la hN 62 tyS3 (q 7)) (OptL.opt OptL.nil) (GuardV.plain _)) rfl (c (oq hN 6 (fo 1001 1 [1] hN underlying62 1 tyS3 (q 1)) (OptL.keep (by rfl) OptL.nil) (GuardV.plain _)) rfl (c (oq hN 6 (la hN 62 tyS3 (q 9)) (OptL.opt OptL.nil) (GuardV.plain _)) rfl (c (oq hN 6 (OpJ.leq (ltN hN rfl) (q 8) (q 10)) (OptL.opt (OptL.opt OptL.nil)) (GuardV.plain _)) rfl (c (OpJ.pickAnd rfl (ltN hN rfl) (q 6) (q 11)) rfl (c (mv hN (q 12)) rfl (c (oq hN 13 (fo 1001 1 [1] hN underlying62 1 tyS3 (q 1)) (OptL.keep (by rfl) OptL.nil) (GuardV.plain _)) rfl (c (oq hN 13 (la hN 62 tyS3 (q 14)) (OptL.opt OptL.nil) (GuardV.plain _)) rfl (c (oq hN 13 (OpJ.leq (ltN hN rfl) (q 15) (Opd.int .i64 (4294967295))) (OptL.opt OptL.nil) (GuardV.plain _)) rfl (c (OpJ.pickAnd rfl (ltN hN rfl) (q 13) (q 16)) rfl (c (OpJ.assign (ltN hN rfl) (q 17)) rfl cn)))))))))))))))) ?_
 apply AWp.ret
 obtain rfl := Option.some.inj h
 exact ⟨.inl rfl, _, _, (kp [(2, _)] [] hB rfl rfl (by rfl)), [(bo (((decide ((0 : Int) ≤ a0.fFrom)) && (decide (a0.fFrom ≤ a0.fTo))) && (decide (a0.fTo ≤ (4294967295 : Int)))))], (Res.tmp (by rfl) (by rfl) Res.nil), rfl, by rfl, by rfl, by rfl⟩
noncomputable def resource_Valid_1 (a0 : api_Span) : Option (Bool) :=
 (resource_span a0).bind fun r1 =>
 some (!r1)
theorem resource_Valid_1_ac (a0 : api_Span) (r : Bool) (h : resource_Valid_1 a0 = some r) : AC Tryz.prog 44 [(.d (e_api_Span a0))] [] (.d (.bool r)) [] := by
 refine AC.of_code2 Tryz.func44 rfl rfl (Nat.le_of_ble_eq_true (by rfl)) fun B hB hN => ?_
 delta resource_Valid_1 at h
 refine sr (cg (OpJ.box hB (nm := 1001) (by decide) (by simp) rfl (ltN hN rfl) (q 0)) rfl (c (OpJ.assign (ltN hN rfl) (Opd.bool false)) rfl cn)) ?_
 obtain ⟨r1, hr1, h⟩ := bindS h
 refine sr (c (lb hN 62 _ _ tyS62 (At.here _) (q 1)) rfl (cg (OpJ.callFn hB fnOk45 (resource_span_ac a0 r1 hr1) [] (by kernel_rfl) (ltN hN rfl) (by kernel_rfl) (OpdL.cons (q 3) OpdL.nil)) rfl (c (OpJ.not (ltN hN rfl) (q 4)) rfl (c (OpJ.assign (ltN hN rfl) (q 5)) rfl cn)))) ?_
 apply AWp.ret
 obtain rfl := Option.some.inj h
 exact ⟨.inl rfl, _, _, (kp [(2, _)] [] hB rfl rfl (by rfl)), [(bo (!r1))], (Res.tmp (by rfl) (by rfl) Res.nil), rfl, by rfl, by rfl, by rfl⟩
noncomputable def slices_IndexFunc_L0 (a0 : (List api_Span)) (s1 : Int) : Option (((Int) ⊕ (Unit)) ⊕ (Int)) :=
 (if (decide (s1 < (a0.length : Int))) = true then
 (idx a0 s1).bind fun x13 =>
 (resource_Valid_1 x13).bind fun r14 =>
 (if r14 = true then
 some (.inl (.inl s1))
 else
 some (.inr (w64 (s1 + (1 : Int)))))
 else
 some (.inl (.inr ())))
noncomputable def slices_IndexFunc (a0 : (List api_Span)) : Option (Int) :=
 (loop (slices_IndexFunc_L0 a0) (0 : Int)).bind fun x16 => match x16 with
 | (.inl p10) =>
  some p10
 | (.inr _) =>
  some (-1 : Int)
theorem slices_IndexFunc_ac (a0 : (List api_Span)) (r : Int) (h : slices_IndexFunc a0 = some r) : AC Tryz.prog 67 [(.d (.list 2 (a0.map e_api_Span))), (.func 44 [])] [] (.d (.int .i64 r)) [] := by
 refine AC.of_code2 Tryz.func67 rfl rfl (Nat.le_of_ble_eq_true (by rfl)) fun B hB hN => ?_
 delta slices_IndexFunc at h
 refine sr (c (OpJ.assign (ltN hN rfl) (Opd.int .i64 (0))) rfl cn) ?_
 apply AWp.seq
 refine sr (c (mv hN (q 0)) rfl (c (OpJ.val (v' := (i6 (a0.length : Int))) (by simp) (OpJ.lenD underlying23 (ltN hN rfl) (q 6))) rfl (c (mv hN (Opd.int .i64 (0))) rfl cn))) ?_
 apply AWp.block
 obtain ⟨x16, hx17, h⟩ := bindS h
 refine lg (slices_IndexFunc_L0 a0) (fun s1 : Int => ([(0, (qe_api_Span_2 a0)), (1, (.func 44 [])), (7, (i6 (a0.length : Int))), (8, (i6 s1))] : EL)) (fun s1 : Int => ([] : OL)) (fun (x : (Int) ⊕ (Unit)) e E' O' => match x with | (.inl p10) => e = .ret ∧ Mat B E' O' ([(4, (i6 p10))] : EL) ([] : OL) | (.inr _p) => e = .exit 0 ∧ Mat B E' O' ([] : EL) ([] : OL)) hx17 (mp [] _ _ hB) (fun s1 y h => ?_) (fun e E' O' hR => ?_)
 ·unfold slices_IndexFunc_L0 at h
  refine sr (c (OpJ.lss (ltN hN rfl) (q 8) (q 7)) rfl cn) ?_
  apply AWp.seq
  refine AWp.cond rfl (fun hg12 => ?_) (fun hg12 => ?_)
  ·replace h := ite_t hg12 h
   apply AWp.skip
   apply seqQ_n
   apply AWp.seq
   apply AWp.block
   refine sr (c (mv hN (q 8)) rfl (c (OpJ.assign (ltN hN rfl) (q 10)) rfl cn)) ?_
   obtain ⟨x13, hx13, h⟩ := bindS h
   obtain ⟨r14, hr14, h⟩ := bindS h
   refine sr (c (mv hN (q 1)) rfl (c (mv hN (q 0)) rfl (c (mv hN (q 5)) rfl (c (OpJ.indexD underlying23 tyS62 (idx_some hx13).1 (get_map e_api_Span (idx_some hx13).2) (ltN hN rfl) (q 12) (q 13)) rfl (c (OpJ.loadD tyS62 (by rfl) (by rfl) (ltN hN rfl) (q 14)) rfl (cg (OpJ.callVal (args := [(.d (e_api_Span x13))]) (caps := []) hB fnOk44 [] (resource_Valid_1_ac x13 r14 hr14) (by kernel_rfl) (ltN hN rfl) (by kernel_rfl) (by kernel_rfl) (OpdL.cons (q 15) OpdL.nil)) rfl cn)))))) ?_
   refine AWp.cond rfl (fun hg15 => ?_) (fun hg15 => ?_)
   ·replace h := ite_t hg15 h
    refine sr (c (mv hN (q 5)) rfl (c (OpJ.assign (ltN hN rfl) (q 17)) rfl cn)) ?_
    apply AWp.ret
    apply blkQ_r
    apply seqQ_r
    obtain rfl := Option.some.inj h
    exact ⟨(fun hc => by cases hc), rfl, (mp [] _ _ hB)⟩
   ·replace h := ite_f hg15 h
    apply AWp.skip
    apply blkQ_n
    apply seqQ_n
    refine rg (c (add6 (ltN hN rfl) (q 8) (Opd.int .i64 (1))) rfl (c (mv hN (q 18)) rfl cn)) ?_
    obtain rfl := Option.some.inj h
    exact ⟨rfl, (mp [] _ _ hB)⟩
  ·replace h := ite_f hg12 h
   apply AWp.exit
   apply seqQ_e
   obtain rfl := Option.some.inj h
   exact ⟨(fun hc => by cases hc), rfl, (mp [] _ _ hB)⟩
 ·rcases x16 with p10 | _
  ·obtain ⟨rfl, hmat⟩ := hR
   apply blkQ_r
   apply seqQ_r
   obtain rfl := Option.some.inj h
   exact ⟨.inl rfl, _, _, (Mat.trans hmat (mp [] [(4, (i6 p10))] [] hB)), [(i6 p10)], (Res.tmp (by rfl) (by rfl) Res.nil), rfl, by rfl, by rfl, by rfl⟩
  ·obtain ⟨rfl, hmat⟩ := hR
   apply blkQ_hit
   apply seqQ_n
   refine AWp.ghost hmat ?_
   refine sr (c (OpJ.assign (ltN hN rfl) (Opd.int .i64 (-1))) rfl cn) ?_
   apply AWp.ret
   obtain rfl := Option.some.inj h
   exact ⟨.inl rfl, _, _, (kp [(4, _)] [] hB rfl rfl (by rfl)), [(i6 (-1 : Int))], (Res.tmp (by rfl) (by rfl) Res.nil), rfl, by rfl, by rfl, by rfl⟩
noncomputable def slices_ContainsFunc (a0 : (List api_Span)) : Option (Bool) :=
 (slices_IndexFunc a0).bind fun r1 =>
 some (decide ((0 : Int) ≤ r1))
theorem slices_ContainsFunc_ac (a0 : (List api_Span)) (r : Bool) (h : slices_ContainsFunc a0 = some r) : AC Tryz.prog 43 [(.d (.list 2 (a0.map e_api_Span))), (.func 44 [])] [] (.d (.bool r)) [] := by
 refine AC.of_code2 Tryz.func43 rfl rfl (Nat.le_of_ble_eq_true (by rfl)) fun B hB hN => ?_
 delta slices_ContainsFunc at h
 refine sr (c (OpJ.assign (ltN hN rfl) (Opd.bool false)) rfl cn) ?_
 obtain ⟨r1, hr1, h⟩ := bindS h
 refine sr (c (mv hN (q 0)) rfl (c (mv hN (q 1)) rfl (cg (OpJ.callFn hB fnOk67 (slices_IndexFunc_ac a0 r1 hr1) [] (by kernel_rfl) (ltN hN rfl) (by kernel_rfl) (OpdL.cons (q 5) (OpdL.cons (q 6) OpdL.nil))) rfl (c (OpJ.geq (ltN hN rfl) (q 7) (Opd.int .i64 (0))) rfl (c (OpJ.assign (ltN hN rfl) (q 8)) rfl cn))))) ?_
 apply AWp.ret
 obtain rfl := Option.some.inj h
 exact ⟨.inl rfl, _, _, (kp [(4, _)] [] hB rfl rfl (by rfl)), [(bo (decide ((0 : Int) ≤ r1)))], (Res.tmp (by rfl) (by rfl) Res.nil), rfl, by rfl, by rfl, by rfl⟩
noncomputable def resource_of_L0 (a0 : api_Resources) (s1 : Int × (List api_Addr_)) : Option ((((List api_Addr_))) ⊕ (Int × (List api_Addr_))) :=
 (if (decide (s1.1 < (a0.fAddrs.length : Int))) = true then
 (idx a0.fAddrs s1.1).bind fun x10 =>
 chk (decide ((s1.2 ++ ([(api_Addr_.mk x10.fFrom x10.fTo)] : List api_Addr_)).length ≤ LIM)) <|
 some (.inr ((w64 (s1.1 + (1 : Int))), (s1.2 ++ ([(api_Addr_.mk x10.fFrom x10.fTo)] : List api_Addr_))))
 else
 some (.inl s1.2))
noncomputable def resource_of_L1 (a0 : api_Resources) (s14 : Int × (List resource_part_int_)) : Option ((((List resource_part_int_))) ⊕ (Int × (List resource_part_int_))) :=
 (if (decide (s14.1 < (a0.fASNs.length : Int))) = true then
 (idx a0.fASNs s14.1).bind fun x23 =>
 chk (decide ((s14.2 ++ ([(resource_part_int_.mk x23.fFrom x23.fTo)] : List resource_part_int_)).length ≤ LIM)) <|
 some (.inr ((w64 (s14.1 + (1 : Int))), (s14.2 ++ ([(resource_part_int_.mk x23.fFrom x23.fTo)] : List resource_part_int_))))
 else
 some (.inl s14.2))
noncomputable def resource_of (a0 : api_Resources) : Option (resource_set) :=
 (loop (resource_of_L0 a0) ((0 : Int), ([] : List api_Addr_))).bind fun p8 =>
 (loop (resource_of_L1 a0) ((0 : Int), ([] : List resource_part_int_))).bind fun p21 =>
 some (resource_set.mk p8 p21)
theorem resource_of_ac (a0 : api_Resources) (r : resource_set) (h : resource_of a0 = some r) : AC Tryz.prog 29 [(.d (e_api_Resources a0))] [] (.d (e_resource_set r)) [] := by
 refine AC.of_code2 Tryz.func29 rfl rfl (Nat.le_of_ble_eq_true (by rfl)) fun B hB hN => ?_
 have L {d : Nat} (h : Nat.blt d Tryz.f29.ntmps = true) : d < B.N := ltN hN h
 delta resource_of at h
 refine sr (cg (OpJ.box hB (nm := 1001) (by decide) (by simp) rfl (L rfl) (q 0)) rfl (cg (OpJ.alloc hB tyZ69 (nm := 1002) (by decide) (L rfl)) rfl cn)) ?_
 refine sr (cg (OpJ.alloc hB tyZ69 (nm := 1003) (by decide) (L rfl)) rfl cn) ?_
 apply AWp.seq
 refine sr (c (fo 1001 0 [0] hN underlying25 0 tyS22 (q 1)) rfl (c (la hN 25 tyS22 (q 8)) rfl (c (OpJ.val (v' := (i6 (a0.fAddrs.length : Int))) (by simp) (OpJ.lenD underlying22 (L rfl) (q 9))) rfl (c (mv hN (Opd.int .i64 (0))) rfl cn)))) ?_
 apply AWp.block
 obtain ⟨p8, hx13, h⟩ := bindS h
 refine lg (resource_of_L0 a0) (fun s1 : Int × (List api_Addr_) => ([(1, (pt 1001)), (2, (pt 1002)), (3, (pt 1003)), (9, (qe_api_Range_6 a0.fAddrs)), (10, (i6 (a0.fAddrs.length : Int))), (11, (i6 s1.1))] : EL)) (fun s1 : Int × (List api_Addr_) => ([(1001, bd 25 (e_api_Resources a0)), (1002, some (.box 69 (.st [.nils, .nils]))), (1003, some (.box 69 (.st [(.sref 13030 6 0 s1.2.length), .nils]))), (13030, some (we_api_Addr__99_6 s1.2))] : OL)) (fun (p8 : ((List api_Addr_))) e E' O' => e = .exit 0 ∧ Mat B E' O' ([(1, (pt 1001)), (2, (pt 1002)), (3, (pt 1003))] : EL) ([(1001, bd 25 (e_api_Resources a0)), (1002, some (.box 69 (.st [.nils, .nils]))), (1003, some (.box 69 (.st [(.sref 13030 6 0 p8.length), .nils]))), (13030, some (we_api_Addr__99_6 p8))] : OL)) hx13 (Mat.trans (Mat.beginP (n := 13030) (e := 99) (sz := 6) (Ts := []) (Bs := [(1003, some (.box 69 (.st [(.sref 13030 6 0 0), .nils])))]) hB (by decide) (by rfl) (by decide) TwT.nil (TwB.cons (x := (.st [.nils, .nils])) (by rfl) (Tw.st (TwL.cons (Tw.leaf ⟨rfl, rfl⟩) (TwL.cons (Tw.same _) TwL.nil))) TwB.nil)) (mp [] _ _ hB)) (fun s1 y h => ?_) (fun e E' O' hR => ?_)
 ·unfold resource_of_L0 at h
  refine sr (c (OpJ.lss (L rfl) (q 11) (q 10)) rfl cn) ?_
  apply AWp.seq
  refine AWp.cond rfl (fun hg9 => ?_) (fun hg9 => ?_)
  ·replace h := ite_t hg9 h
   apply AWp.skip
   apply seqQ_n
   apply AWp.seq
   apply AWp.block
   obtain ⟨x10, hx10, h⟩ := bindS h
   refine sr (c (OpJ.indexD underlying22 tyS46 (idx_some hx10).1 (get_map e_api_Range (idx_some hx10).2) (L rfl) (q 9) (q 11)) rfl (c (OpJ.loadD tyS46 (by rfl) (by rfl) (L rfl) (q 13)) rfl (cg (OpJ.alloc hB tyZ46 (nm := 1005) (by decide) (L rfl)) rfl (cg (sB tyS46 (q 5) (q 14)) rfl cn)))) ?_
   obtain ⟨hc11, h⟩ := chk_some h
   refine rg (c (fo 1003 0 [0] hN underlying69 0 tyS66 (q 3)) rfl (c (lb hN 69 _ (.sref 13030 6 0 s1.2.length) tyS66 (At.st1 (f := (.sref 13030 6 0 s1.2.length)) (by rfl) (by rfl) (At.here _) (by first | rfl | omega)) (q 15)) rfl (c (fo 1005 0 [0] hN underlying46 0 tyS42 (q 5)) rfl (c (la hN 46 tyS42 (q 17)) rfl (c (fo 1005 3 [1] hN underlying46 3 tyS42 (q 5)) rfl (c (la hN 46 tyS42 (q 19)) rfl (c (OpJ.coe (v := (.st [(.d (e_api_Addr x10.fFrom)), (.d (e_api_Addr x10.fTo))])) (y := (.st [(e_api_Addr x10.fFrom), (e_api_Addr x10.fTo)])) (Co.st (CoL.cons (Co.d _) (CoL.cons (Co.d _) CoL.nil))) rfl (OpJ.build (places := [(0, 3), (3, 3)]) ⟨underlying99, fun w => by kernel_rfl⟩ tyZS99 (Opds.cons (q 18) (Opds.cons (q 20) Opds.nil)) (by kernel_rfl) (r := (.st [(.d (e_api_Addr x10.fFrom)), (.d (e_api_Addr x10.fTo))])) (by rfl) (L rfl))) rfl (c (OpJ.buildSlice underlying66 tyS99 tyZD99 (by rfl) (by decide) (by decide) (Opds.cons (q 21) Opds.nil) (by kernel_rfl) (es := ([(.st [(e_api_Addr x10.fFrom), (e_api_Addr x10.fTo)])] : List D)) (by rfl) (by rfl) (by kernel_rfl) (by simp) (L rfl)) rfl (cg (apd hB underlying66 tyE99 1023 e_api_Addr_ s1.2 ([(api_Addr_.mk x10.fFrom x10.fTo)] : List api_Addr_) hc11 (L rfl) (q 16) (q 22)) rfl (c (fo 1003 0 [0] hN underlying69 0 tyS66 (q 3)) rfl (cg (OpJ.storeB (c' := (.st [(.sref 1023 6 0 ((s1.2 ++ ([(api_Addr_.mk x10.fFrom x10.fTo)] : List api_Addr_)).length)), .nils])) tyS66 (SetAt.st1 (f := (.sref 13030 6 0 s1.2.length)) (by rfl) (by rfl) (SetAt.here _ _) (by rfl) (by rfl) (by first | rfl | omega)) (by rfl) (by rfl) (by simp) rfl (q 24) (q 23)) rfl cn))))))))))) ?_
   apply blkQ_n
   apply seqQ_n
   refine rg (c (add6 (L rfl) (q 11) (Opd.int .i64 (1))) rfl (c (mv hN (q 25)) rfl cn)) ?_
   obtain rfl := Option.some.inj h
   exact ⟨rfl, (mp [(13030, 1023)] _ _ hB)⟩
  ·replace h := ite_f hg9 h
   apply AWp.exit
   apply seqQ_e
   obtain rfl := Option.some.inj h
   exact ⟨(fun hc => by cases hc), rfl, (mp [] _ _ hB)⟩
 ·obtain ⟨rfl, hmat⟩ := hR
  apply blkQ_hit
  apply seqQ_n
  refine AWp.ghost hmat ?_
  apply AWp.seq
  refine sr (c (fo 1001 1 [1] hN underlying25 1 tyS23 (q 1)) rfl (c (la hN 25 tyS23 (q 26)) rfl (c (OpJ.val (v' := (i6 (a0.fASNs.length : Int))) (by simp) (OpJ.lenD underlying23 (L rfl) (q 27))) rfl (c (mv hN (Opd.int .i64 (0))) rfl cn)))) ?_
  apply AWp.block
  obtain ⟨p21, hx26, h⟩ := bindS h
  refine lg (resource_of_L1 a0) (fun s14 : Int × (List resource_part_int_) => ([(2, (pt 1002)), (3, (pt 1003)), (27, (qe_api_Span_2 a0.fASNs)), (28, (i6 (a0.fASNs.length : Int))), (29, (i6 s14.1))] : EL)) (fun s14 : Int × (List resource_part_int_) => ([(1002, some (.box 69 (.st [.nils, .nils]))), (1003, some (.box 69 (.st [(.sref 13030 6 0 p8.length), (.sref 13031 2 0 s14.2.length)]))), (13030, some (we_api_Addr__99_6 p8)), (13031, some (.row 101 2 (s14.2.map e_resource_part_int_)))] : OL)) (fun (p21 : ((List resource_part_int_))) e E' O' => e = .exit 2 ∧ Mat B E' O' ([(2, (pt 1002)), (3, (pt 1003))] : EL) ([(1002, some (.box 69 (.st [.nils, .nils]))), (1003, some (.box 69 (.st [(.sref 13030 6 0 p8.length), (.sref 13031 2 0 p21.length)]))), (13030, some (we_api_Addr__99_6 p8)), (13031, some (.row 101 2 (p21.map e_resource_part_int_)))] : OL)) hx26 (Mat.trans (Mat.beginP (n := 13031) (e := 101) (sz := 2) (Ts := []) (Bs := [(1003, some (.box 69 (.st [(.sref 13030 6 0 p8.length), (.sref 13031 2 0 0)])))]) hB (by decide) (by rfl) (by decide) TwT.nil (TwB.cons (x := (.st [(.sref 13030 6 0 p8.length), .nils])) (by rfl) (Tw.st (TwL.cons (Tw.same _) (TwL.cons (Tw.leaf ⟨rfl, rfl⟩) TwL.nil))) TwB.nil)) (mp [] _ _ hB)) (fun s14 y h => ?_) (fun e E' O' hR => ?_)
  ·unfold resource_of_L1 at h
   refine sr (c (OpJ.lss (L rfl) (q 29) (q 28)) rfl cn) ?_
   apply AWp.seq
   refine AWp.cond rfl (fun hg22 => ?_) (fun hg22 => ?_)
   ·replace h := ite_t hg22 h
    apply AWp.skip
    apply seqQ_n
    apply AWp.seq
    apply AWp.block
    obtain ⟨x23, hx23, h⟩ := bindS h
    refine sr (c (OpJ.indexD underlying23 tyS62 (idx_some hx23).1 (get_map e_api_Span (idx_some hx23).2) (L rfl) (q 27) (q 29)) rfl (c (OpJ.loadD tyS62 (by rfl) (by rfl) (L rfl) (q 31)) rfl (cg (OpJ.alloc hB tyZ62 (nm := 1007) (by decide) (L rfl)) rfl (cg (sB tyS62 (q 7) (q 32)) rfl cn)))) ?_
    obtain ⟨hc24, h⟩ := chk_some h
    refine rg (c (fo 1003 1 [1] hN underlying69 1 tyS67 (q 3)) rfl (c (lb hN 69 _ (.sref 13031 2 0 s14.2.length) tyS67 (At.st1 (f := (.sref 13031 2 0 s14.2.length)) (by rfl) (by rfl) (At.here _) (by first | rfl | omega)) (q 33)) rfl (c (fo 1007 0 [0] hN underlying62 0 tyS3 (q 7)) rfl (c (la hN 62 tyS3 (q 35)) rfl (c (fo 1007 1 [1] hN underlying62 1 tyS3 (q 7)) rfl (c (la hN 62 tyS3 (q 37)) rfl (c (OpJ.coe (v := (.st [(i6 x23.fFrom), (i6 x23.fTo)])) (y := (.st [(.int .i64 x23.fFrom), (.int .i64 x23.fTo)])) (Co.st (CoL.cons (Co.d _) (CoL.cons (Co.d _) CoL.nil))) rfl (OpJ.build (places := [(0, 1), (1, 1)]) ⟨underlying101, fun w => by kernel_rfl⟩ tyZS101 (Opds.cons (q 36) (Opds.cons (q 38) Opds.nil)) (by kernel_rfl) (r := (.st [(i6 x23.fFrom), (i6 x23.fTo)])) (by rfl) (L rfl))) rfl (c (OpJ.buildSlice underlying67 tyS101 tyZD101 (by rfl) (by decide) (by decide) (Opds.cons (q 39) Opds.nil) (by kernel_rfl) (es := ([(.st [(.int .i64 x23.fFrom), (.int .i64 x23.fTo)])] : List D)) (by rfl) (by rfl) (by kernel_rfl) (by simp) (L rfl)) rfl (cg (apd hB underlying67 tyE101 1041 e_resource_part_int_ s14.2 ([(resource_part_int_.mk x23.fFrom x23.fTo)] : List resource_part_int_) hc24 (L rfl) (q 34) (q 40)) rfl (c (fo 1003 1 [1] hN underlying69 1 tyS67 (q 3)) rfl (cg (OpJ.storeB (c' := (.st [(.sref 13030 6 0 p8.length), (.sref 1041 2 0 ((s14.2 ++ ([(resource_part_int_.mk x23.fFrom x23.fTo)] : List resource_part_int_)).length))])) tyS67 (SetAt.st1 (f := (.sref 13031 2 0 s14.2.length)) (by rfl) (by rfl) (SetAt.here _ _) (by rfl) (by rfl) (by first | rfl | omega)) (by rfl) (by rfl) (by simp) rfl (q 42) (q 41)) rfl cn))))))))))) ?_
    apply blkQ_n
    apply seqQ_n
    refine rg (c (add6 (L rfl) (q 29) (Opd.int .i64 (1))) rfl (c (mv hN (q 43)) rfl cn)) ?_
    obtain rfl := Option.some.inj h
    exact ⟨rfl, (mp [(13031, 1041)] _ _ hB)⟩
   ·replace h := ite_f hg22 h
    apply AWp.exit
    apply seqQ_e
    obtain rfl := Option.some.inj h
    exact ⟨(fun hc => by cases hc), rfl, (mp [] _ _ hB)⟩
  ·obtain ⟨rfl, hmat⟩ := hR
   apply blkQ_hit
   apply seqQ_n
   refine AWp.ghost hmat ?_
   refine sr (c (lb hN 69 _ _ tyS69 (At.here _) (q 3)) rfl (cg (sB tyS69 (q 2) (q 44)) rfl cn)) ?_
   apply AWp.ret
   obtain rfl := Option.some.inj h
   exact ⟨.inl rfl, _, _, (Mat.trans (Mat.freezeP (n := 13030) (e := 99) (sz := 6) (es := p8.map e_api_Addr_) (Ts := []) (Bs := [(1002, some (.box 69 (.st [(qe_api_Addr__6 p8), (.sref 13031 2 0 p21.length)])))]) (by rfl) TwT.nil (TwB.cons (x := (.st [(.sref 13030 6 0 p8.length), (.sref 13031 2 0 p21.length)])) (by rfl) (Tw.st (TwL.cons (FrzL.all (by first | rfl | (simp; done) | (simp; omega) | omega)) (TwL.cons (Tw.same _) TwL.nil))) TwB.nil)) (Mat.trans (Mat.freezeP (n := 13031) (e := 101) (sz := 2) (es := p21.map e_resource_part_int_) (Ts := []) (Bs := [(1002, some (.box 69 (.st [(qe_api_Addr__6 p8), (.d (.list 2 (p21.map e_resource_part_int_)))])))]) (by rfl) TwT.nil (TwB.cons (x := (.st [(qe_api_Addr__6 p8), (.sref 13031 2 0 p21.length)])) (by rfl) (Tw.st (TwL.cons (Tw.same _) (TwL.cons (FrzL.all (by first | rfl | (simp; done) | (simp; omega) | omega)) TwL.nil))) TwB.nil)) (Mat.trans (Mat.coeP (Ts := []) (Bs := [(1002, bd 69 (.st [(.list 6 (p8.map e_api_Addr_)), (.list 2 (p21.map e_resource_part_int_))]))]) TwT.nil (TwB.cons (x := (.st [(qe_api_Addr__6 p8), (.d (.list 2 (p21.map e_resource_part_int_)))])) (by rfl) (Tw.leaf ⟨_, (Co.st (CoL.cons (Co.d _) (CoL.cons (Co.d _) CoL.nil))), rfl⟩) TwB.nil)) (mp [] [(2, (pt 1002))] [(1002, bd 69 (.st [(.list 6 (p8.map e_api_Addr_)), (.list 2 (p21.map e_resource_part_int_))]))] hB)))), [(.d (.st [(.list 6 (p8.map e_api_Addr_)), (.list 2 (p21.map e_resource_part_int_))]))], (Res.cell (c := (.d (.st [(.list 6 (p8.map e_api_Addr_)), (.list 2 (p21.map e_resource_part_int_))]))) (by rfl) (by rfl) tyS69 (by rfl) (by rfl) (by rfl) Res.nil), rfl, by rfl, by rfl, by rfl⟩
noncomputable def addr_family (a0 : api_Addr) : Option (Int) :=
 (if a0.fV6 = true then
 some (1 : Int)
 else
 some (0 : Int))
theorem addr_family_ac (a0 : api_Addr) (r : Int) (h : addr_family a0 = some r) : AC Tryz.prog 72 [(.d (e_api_Addr a0))] [] (.d (.int .i64 r)) [] := by
 refine AC.of_code2 Tryz.func72 rfl rfl (Nat.le_of_ble_eq_true (by rfl)) fun B hB hN => ?_
 delta addr_family at h
 refine sr (cg (OpJ.box hB (nm := 1001) (by decide) (by simp) rfl (ltN hN rfl) (q 0)) rfl (c (OpJ.assign (ltN hN rfl) (Opd.int .i64 (0))) rfl cn)) ?_
 apply AWp.seq
 refine sr (c (fo 1001 0 [0] hN underlying42 0 tyS4 (q 1)) rfl (c (la hN 42 tyS4 (q 3)) rfl cn)) ?_
 refine AWp.cond rfl (fun hg1 => ?_) (fun hg1 => ?_)
 ·replace h := ite_t hg1 h
  refine sr (c (OpJ.assign (ltN hN rfl) (Opd.int .i64 (1))) rfl cn) ?_
  apply AWp.ret
  apply seqQ_r
  obtain rfl := Option.some.inj h
  exact ⟨.inl rfl, _, _, (kp [(2, _)] [] hB rfl rfl (by rfl)), [(i6 1)], (Res.tmp (by rfl) (by rfl) Res.nil), rfl, by rfl, by rfl, by rfl⟩
 ·replace h := ite_f hg1 h
  apply AWp.skip
  apply seqQ_n
  refine sr (c (OpJ.assign (ltN hN rfl) (Opd.int .i64 (0))) rfl cn) ?_
  apply AWp.ret
  obtain rfl := Option.some.inj h
  exact ⟨.inl rfl, _, _, (kp [(2, _)] [] hB rfl rfl (by rfl)), [(i6 0)], (Res.tmp (by rfl) (by rfl) Res.nil), rfl, by rfl, by rfl, by rfl⟩
noncomputable def cmp_isNaN (a0 : Int) : Option (Bool) :=
 some (a0 != a0)
theorem cmp_isNaN_ac (a0 : Int) (r : Bool) (h : cmp_isNaN a0 = some r) : AC Tryz.prog 85 [(.d (.int .i64 a0))] [] (.d (.bool r)) [] := by
 refine AC.of_code2 Tryz.func85 rfl rfl (Nat.le_of_ble_eq_true (by rfl)) fun B hB hN => ?_
 delta cmp_isNaN at h
 refine sr (c (OpJ.assign (ltN hN rfl) (Opd.bool false)) rfl cn) ?_
 refine sr (c (mv hN (q 0)) rfl (c (mv hN (q 0)) rfl (c (OpJ.neqI (ltN hN rfl) (q 3) (q 4)) rfl (c (OpJ.assign (ltN hN rfl) (q 5)) rfl cn)))) ?_
 apply AWp.ret
 obtain rfl := Option.some.inj h
 exact ⟨.inl rfl, _, _, (kp [(2, _)] [] hB rfl rfl (by rfl)), [(bo (a0 != a0))], (Res.tmp (by rfl) (by rfl) Res.nil), rfl, by rfl, by rfl, by rfl⟩
noncomputable def cmp_Compare (a0 : Int) (a1 : Int) : Option (Int) :=
 (cmp_isNaN a0).bind fun r1 =>
 (cmp_isNaN a1).bind fun r2 =>
 (if r1 = true then
 (if r2 = true then
 some (0 : Int)
 else
 some (-1 : Int))
 else
 (if r2 = true then
 some (1 : Int)
 else
 (if (decide (a0 < a1)) = true then
 some (-1 : Int)
 else
 (if (decide (a1 < a0)) = true then
 some (1 : Int)
 else
 some (0 : Int)))))
theorem cmp_Compare_ac (a0 : Int) (a1 : Int) (r : Int) (h : cmp_Compare a0 a1 = some r) : AC Tryz.prog 71 [(.d (.int .i64 a0)), (.d (.int .i64 a1))] [] (.d (.int .i64 r)) [] := by
 refine AC.of_code2 Tryz.func71 rfl rfl (Nat.le_of_ble_eq_true (by rfl)) fun B hB hN => ?_
 have L {d : Nat} (h : Nat.blt d Tryz.f71.ntmps = true) : d < B.N := ltN hN h
 delta cmp_Compare at h
 refine sr (c (OpJ.assign (L rfl) (Opd.int .i64 (0))) rfl cn) ?_
 obtain ⟨r1, hr1, h⟩ := bindS h
 refine sr (c (mv hN (q 0)) rfl (cg (cf hB fnOk85 (cmp_isNaN_ac a0 r1 hr1) (L rfl) (OpdL.cons (q 7) OpdL.nil)) rfl (c (OpJ.assign (L rfl) (q 8)) rfl cn))) ?_
 obtain ⟨r2, hr2, h⟩ := bindS h
 refine sr (c (mv hN (q 1)) rfl (cg (cf hB fnOk85 (cmp_isNaN_ac a1 r2 hr2) (L rfl) (OpdL.cons (q 9) OpdL.nil)) rfl (c (OpJ.assign (L rfl) (q 10)) rfl cn))) ?_
 apply AWp.seq
 refine sr (c (mv hN (q 5)) rfl cn) ?_
 refine AWp.cond rfl (fun hg3 => ?_) (fun hg3 => ?_)
 ·replace h := ite_t hg3 h
  apply AWp.seq
  refine sr (c (mv hN (q 6)) rfl cn) ?_
  refine AWp.cond rfl (fun hg4 => ?_) (fun hg4 => ?_)
  ·replace h := ite_t hg4 h
   refine sr (c (OpJ.assign (L rfl) (Opd.int .i64 (0))) rfl cn) ?_
   apply AWp.ret
   apply seqQ_r
   apply seqQ_r
   obtain rfl := Option.some.inj h
   exact ⟨.inl rfl, _, _, (kp [(4, _)] [] hB rfl rfl (by rfl)), [(i6 0)], (Res.tmp (by rfl) (by rfl) Res.nil), rfl, by rfl, by rfl, by rfl⟩
  ·replace h := ite_f hg4 h
   apply AWp.skip
   apply seqQ_n
   refine sr (c (OpJ.assign (L rfl) (Opd.int .i64 (-1))) rfl cn) ?_
   apply AWp.ret
   apply seqQ_r
   obtain rfl := Option.some.inj h
   exact ⟨.inl rfl, _, _, (kp [(4, _)] [] hB rfl rfl (by rfl)), [(i6 (-1 : Int))], (Res.tmp (by rfl) (by rfl) Res.nil), rfl, by rfl, by rfl, by rfl⟩
 ·replace h := ite_f hg3 h
  apply AWp.skip
  apply seqQ_n
  apply AWp.seq
  refine sr (c (mv hN (q 6)) rfl cn) ?_
  refine AWp.cond rfl (fun hg5 => ?_) (fun hg5 => ?_)
  ·replace h := ite_t hg5 h
   refine sr (c (OpJ.assign (L rfl) (Opd.int .i64 (1))) rfl cn) ?_
   apply AWp.ret
   apply seqQ_r
   obtain rfl := Option.some.inj h
   exact ⟨.inl rfl, _, _, (kp [(4, _)] [] hB rfl rfl (by rfl)), [(i6 1)], (Res.tmp (by rfl) (by rfl) Res.nil), rfl, by rfl, by rfl, by rfl⟩
  ·replace h := ite_f hg5 h
   apply AWp.skip
   apply seqQ_n
   apply AWp.seq
   refine sr (c (mv hN (q 0)) rfl (c (mv hN (q 1)) rfl (c (OpJ.lss (L rfl) (q 14) (q 15)) rfl cn))) ?_
   refine AWp.cond rfl (fun hg6 => ?_) (fun hg6 => ?_)
   ·replace h := ite_t hg6 h
    refine sr (c (OpJ.assign (L rfl) (Opd.int .i64 (-1))) rfl cn) ?_
    apply AWp.ret
    apply seqQ_r
    obtain rfl := Option.some.inj h
    exact ⟨.inl rfl, _, _, (kp [(4, _)] [] hB rfl rfl (by rfl)), [(i6 (-1 : Int))], (Res.tmp (by rfl) (by rfl) Res.nil), rfl, by rfl, by rfl, by rfl⟩
   ·replace h := ite_f hg6 h
    apply AWp.skip
    apply seqQ_n
    apply AWp.seq
    refine sr (c (mv hN (q 0)) rfl (c (mv hN (q 1)) rfl (c (OpJ.gtr (L rfl) (q 17) (q 18)) rfl cn))) ?_
    refine AWp.cond rfl (fun hg7 => ?_) (fun hg7 => ?_)
    ·replace h := ite_t hg7 h
     refine sr (c (OpJ.assign (L rfl) (Opd.int .i64 (1))) rfl cn) ?_
     apply AWp.ret
     apply seqQ_r
     obtain rfl := Option.some.inj h
     exact ⟨.inl rfl, _, _, (kp [(4, _)] [] hB rfl rfl (by rfl)), [(i6 1)], (Res.tmp (by rfl) (by rfl) Res.nil), rfl, by rfl, by rfl, by rfl⟩
    ·replace h := ite_f hg7 h
     apply AWp.skip
     apply seqQ_n
     refine sr (c (OpJ.assign (L rfl) (Opd.int .i64 (0))) rfl cn) ?_
     apply AWp.ret
     obtain rfl := Option.some.inj h
     exact ⟨.inl rfl, _, _, (kp [(4, _)] [] hB rfl rfl (by rfl)), [(i6 0)], (Res.tmp (by rfl) (by rfl) Res.nil), rfl, by rfl, by rfl, by rfl⟩
noncomputable def cmp_isNaN_2 (a0 : Int) : Option (Bool) :=
 some (a0 != a0)
theorem cmp_isNaN_2_ac (a0 : Int) (r : Bool) (h : cmp_isNaN_2 a0 = some r) : AC Tryz.prog 86 [(.d (.int .u64 a0))] [] (.d (.bool r)) [] := by
 refine AC.of_code2 Tryz.func86 rfl rfl (Nat.le_of_ble_eq_true (by rfl)) fun B hB hN => ?_
 delta cmp_isNaN_2 at h
 refine sr (c (OpJ.assign (ltN hN rfl) (Opd.bool false)) rfl cn) ?_
 refine sr (c (mv hN (q 0)) rfl (c (mv hN (q 0)) rfl (c (OpJ.neqI (ltN hN rfl) (q 3) (q 4)) rfl (c (OpJ.assign (ltN hN rfl) (q 5)) rfl cn)))) ?_
 apply AWp.ret
 obtain rfl := Option.some.inj h
 exact ⟨.inl rfl, _, _, (kp [(2, _)] [] hB rfl rfl (by rfl)), [(bo (a0 != a0))], (Res.tmp (by rfl) (by rfl) Res.nil), rfl, by rfl, by rfl, by rfl⟩
noncomputable def cmp_Compare_2 (a0 : Int) (a1 : Int) : Option (Int) :=
 (cmp_isNaN_2 a0).bind fun r1 =>
 (cmp_isNaN_2 a1).bind fun r2 =>
 (if r1 = true then
 (if r2 = true then
 some (0 : Int)
 else
 some (-1 : Int))
 else
 (if r2 = true then
 some (1 : Int)
 else
 (if (decide (a0 < a1)) = true then
 some (-1 : Int)
 else
 (if (decide (a1 < a0)) = true then
 some (1 : Int)
 else
 some (0 : Int)))))
theorem cmp_Compare_2_ac (a0 : Int) (a1 : Int) (r : Int) (h : cmp_Compare_2 a0 a1 = some r) : AC Tryz.prog 73 [(.d (.int .u64 a0)), (.d (.int .u64 a1))] [] (.d (.int .i64 r)) [] := by
 refine AC.of_code2 Tryz.func73 rfl rfl (Nat.le_of_ble_eq_true (by rfl)) fun B hB hN => ?_
 have L {d : Nat} (h : Nat.blt d Tryz.f73.ntmps = true) : d < B.N := ltN hN h
 delta cmp_Compare_2 at h
 refine sr (c (OpJ.assign (L rfl) (Opd.int .i64 (0))) rfl cn) ?_
 obtain ⟨r1, hr1, h⟩ := bindS h
 refine sr (c (mv hN (q 0)) rfl (cg (cf hB fnOk86 (cmp_isNaN_2_ac a0 r1 hr1) (L rfl) (OpdL.cons (q 7) OpdL.nil)) rfl (c (OpJ.assign (L rfl) (q 8)) rfl cn))) ?_
 obtain ⟨r2, hr2, h⟩ := bindS h
 refine sr (c (mv hN (q 1)) rfl (cg (cf hB fnOk86 (cmp_isNaN_2_ac a1 r2 hr2) (L rfl) (OpdL.cons (q 9) OpdL.nil)) rfl (c (OpJ.assign (L rfl) (q 10)) rfl cn))) ?_
 apply AWp.seq
 refine sr (c (mv hN (q 5)) rfl cn) ?_
 refine AWp.cond rfl (fun hg3 => ?_) (fun hg3 => ?_)
 ·replace h := ite_t hg3 h
  apply AWp.seq
  refine sr (c (mv hN (q 6)) rfl cn) ?_
  refine AWp.cond rfl (fun hg4 => ?_) (fun hg4 => ?_)
  ·replace h := ite_t hg4 h
   refine sr (c (OpJ.assign (L rfl) (Opd.int .i64 (0))) rfl cn) ?_
   apply AWp.ret
   apply seqQ_r
   apply seqQ_r
   obtain rfl := Option.some.inj h
   exact ⟨.inl rfl, _, _, (kp [(4, _)] [] hB rfl rfl (by rfl)), [(i6 0)], (Res.tmp (by rfl) (by rfl) Res.nil), rfl, by rfl, by rfl, by rfl⟩
  ·replace h := ite_f hg4 h
   apply AWp.skip
   apply seqQ_n
   refine sr (c (OpJ.assign (L rfl) (Opd.int .i64 (-1))) rfl cn) ?_
   apply AWp.ret
   apply seqQ_r
   obtain rfl := Option.some.inj h
   exact ⟨.inl rfl, _, _, (kp [(4, _)] [] hB rfl rfl (by rfl)), [(i6 (-1 : Int))], (Res.tmp (by rfl) (by rfl) Res.nil), rfl, by rfl, by rfl, by rfl⟩
 ·replace h := ite_f hg3 h
  apply AWp.skip
  apply seqQ_n
  apply AWp.seq
  refine sr (c (mv hN (q 6)) rfl cn) ?_
  refine AWp.cond rfl (fun hg5 => ?_) (fun hg5 => ?_)
  ·replace h := ite_t hg5 h
   refine sr (c (OpJ.assign (L rfl) (Opd.int .i64 (1))) rfl cn) ?_
   apply AWp.ret
   apply seqQ_r
   obtain rfl := Option.some.inj h
   exact ⟨.inl rfl, _, _, (kp [(4, _)] [] hB rfl rfl (by rfl)), [(i6 1)], (Res.tmp (by rfl) (by rfl) Res.nil), rfl, by rfl, by rfl, by rfl⟩
  ·replace h := ite_f hg5 h
   apply AWp.skip
   apply seqQ_n
   apply AWp.seq
   refine sr (c (mv hN (q 0)) rfl (c (mv hN (q 1)) rfl (c (OpJ.lss (L rfl) (q 14) (q 15)) rfl cn))) ?_
   refine AWp.cond rfl (fun hg6 => ?_) (fun hg6 => ?_)
   ·replace h := ite_t hg6 h
    refine sr (c (OpJ.assign (L rfl) (Opd.int .i64 (-1))) rfl cn) ?_
    apply AWp.ret
    apply seqQ_r
    obtain rfl := Option.some.inj h
    exact ⟨.inl rfl, _, _, (kp [(4, _)] [] hB rfl rfl (by rfl)), [(i6 (-1 : Int))], (Res.tmp (by rfl) (by rfl) Res.nil), rfl, by rfl, by rfl, by rfl⟩
   ·replace h := ite_f hg6 h
    apply AWp.skip
    apply seqQ_n
    apply AWp.seq
    refine sr (c (mv hN (q 0)) rfl (c (mv hN (q 1)) rfl (c (OpJ.gtr (L rfl) (q 17) (q 18)) rfl cn))) ?_
    refine AWp.cond rfl (fun hg7 => ?_) (fun hg7 => ?_)
    ·replace h := ite_t hg7 h
     refine sr (c (OpJ.assign (L rfl) (Opd.int .i64 (1))) rfl cn) ?_
     apply AWp.ret
     apply seqQ_r
     obtain rfl := Option.some.inj h
     exact ⟨.inl rfl, _, _, (kp [(4, _)] [] hB rfl rfl (by rfl)), [(i6 1)], (Res.tmp (by rfl) (by rfl) Res.nil), rfl, by rfl, by rfl, by rfl⟩
    ·replace h := ite_f hg7 h
     apply AWp.skip
     apply seqQ_n
     refine sr (c (OpJ.assign (L rfl) (Opd.int .i64 (0))) rfl cn) ?_
     apply AWp.ret
     obtain rfl := Option.some.inj h
     exact ⟨.inl rfl, _, _, (kp [(4, _)] [] hB rfl rfl (by rfl)), [(i6 0)], (Res.tmp (by rfl) (by rfl) Res.nil), rfl, by rfl, by rfl, by rfl⟩
noncomputable def cmp_Or_L0 (a0 : (List Int)) (s1 : Int) : Option (((Int) ⊕ (Unit)) ⊕ (Int)) :=
 (if (decide (s1 < (a0.length : Int))) = true then
 (idx a0 s1).bind fun x11 =>
 (if (x11 != (0 : Int)) = true then
 some (.inl (.inl x11))
 else
 some (.inr (w64 (s1 + (1 : Int)))))
 else
 some (.inl (.inr ())))
noncomputable def cmp_Or (a0 : (List Int)) : Option (Int) :=
 (loop (cmp_Or_L0 a0) (0 : Int)).bind fun x13 => match x13 with
 | (.inl p8) =>
  some p8
 | (.inr _) =>
  some (0 : Int)
theorem cmp_Or_ac (a0 : (List Int)) (r : Int) (h : cmp_Or a0 = some r) : AC Tryz.prog 70 [(.d (.list 1 (a0.map (eI .i64))))] [] (.d (.int .i64 r)) [] := by
 refine AC.of_code2 Tryz.func70 rfl rfl (Nat.le_of_ble_eq_true (by rfl)) fun B hB hN => ?_
 delta cmp_Or at h
 refine sr (c (OpJ.assign (ltN hN rfl) (Opd.int .i64 (0))) rfl cn) ?_
 refine sr (c (OpJ.assign (ltN hN rfl) (Opd.int .i64 (0))) rfl cn) ?_
 apply AWp.seq
 refine sr (c (mv hN (q 0)) rfl (c (OpJ.val (v' := (i6 (a0.length : Int))) (by simp) (OpJ.lenD underlying26 (ltN hN rfl) (q 6))) rfl (c (mv hN (Opd.int .i64 (0))) rfl cn))) ?_
 apply AWp.block
 obtain ⟨x13, hx14, h⟩ := bindS h
 refine lg (cmp_Or_L0 a0) (fun s1 : Int => ([(3, (i6 0)), (6, (qI_1 a0)), (7, (i6 (a0.length : Int))), (8, (i6 s1))] : EL)) (fun s1 : Int => ([] : OL)) (fun (x : (Int) ⊕ (Unit)) e E' O' => match x with | (.inl p8) => e = .ret ∧ Mat B E' O' ([(2, (i6 p8))] : EL) ([] : OL) | (.inr _p) => e = .exit 0 ∧ Mat B E' O' ([(3, (i6 0))] : EL) ([] : OL)) hx14 (mp [] _ _ hB) (fun s1 y h => ?_) (fun e E' O' hR => ?_)
 ·unfold cmp_Or_L0 at h
  refine sr (c (OpJ.lss (ltN hN rfl) (q 8) (q 7)) rfl cn) ?_
  apply AWp.seq
  refine AWp.cond rfl (fun hg10 => ?_) (fun hg10 => ?_)
  ·replace h := ite_t hg10 h
   apply AWp.skip
   apply seqQ_n
   apply AWp.seq
   apply AWp.block
   obtain ⟨x11, hx11, h⟩ := bindS h
   refine sr (c (OpJ.indexD underlying26 tyS3 (idx_some hx11).1 (get_map (eI .i64) (idx_some hx11).2) (ltN hN rfl) (q 6) (q 8)) rfl (c (OpJ.loadD tyS3 (by rfl) (by rfl) (ltN hN rfl) (q 10)) rfl (c (OpJ.assign (ltN hN rfl) (q 11)) rfl cn))) ?_
   refine sr (c (mv hN (q 5)) rfl (c (mv hN (q 3)) rfl (c (OpJ.neqI (ltN hN rfl) (q 12) (q 13)) rfl cn))) ?_
   refine AWp.cond rfl (fun hg12 => ?_) (fun hg12 => ?_)
   ·replace h := ite_t hg12 h
    refine sr (c (mv hN (q 5)) rfl (c (OpJ.assign (ltN hN rfl) (q 15)) rfl cn)) ?_
    apply AWp.ret
    apply blkQ_r
    apply seqQ_r
    obtain rfl := Option.some.inj h
    exact ⟨(fun hc => by cases hc), rfl, (mp [] _ _ hB)⟩
   ·replace h := ite_f hg12 h
    apply AWp.skip
    apply blkQ_n
    apply seqQ_n
    refine rg (c (add6 (ltN hN rfl) (q 8) (Opd.int .i64 (1))) rfl (c (mv hN (q 16)) rfl cn)) ?_
    obtain rfl := Option.some.inj h
    exact ⟨rfl, (mp [] _ _ hB)⟩
  ·replace h := ite_f hg10 h
   apply AWp.exit
   apply seqQ_e
   obtain rfl := Option.some.inj h
   exact ⟨(fun hc => by cases hc), rfl, (mp [] _ _ hB)⟩
 ·rcases x13 with p8 | _
  ·obtain ⟨rfl, hmat⟩ := hR
   apply blkQ_r
   apply seqQ_r
   obtain rfl := Option.some.inj h
   exact ⟨.inl rfl, _, _, (Mat.trans hmat (mp [] [(2, (i6 p8))] [] hB)), [(i6 p8)], (Res.tmp (by rfl) (by rfl) Res.nil), rfl, by rfl, by rfl, by rfl⟩
  ·obtain ⟨rfl, hmat⟩ := hR
   apply blkQ_hit
   apply seqQ_n
   refine AWp.ghost hmat ?_
   refine sr (c (mv hN (q 3)) rfl (c (OpJ.assign (ltN hN rfl) (q 17)) rfl cn)) ?_
   apply AWp.ret
   obtain rfl := Option.some.inj h
   exact ⟨.inl rfl, _, _, (kp [(2, _)] [] hB rfl rfl (by rfl)), [(i6 0)], (Res.tmp (by rfl) (by rfl) Res.nil), rfl, by rfl, by rfl, by rfl⟩
noncomputable def addr_Cmp (a0 : api_Addr) (a1 : api_Addr) : Option (Int) :=
 (addr_family a0).bind fun r1 =>
 (addr_family a1).bind fun r2 =>
 (cmp_Compare r1 r2).bind fun r3 =>
 (cmp_Compare_2 a0.fHi a1.fHi).bind fun r4 =>
 (cmp_Compare_2 a0.fLo a1.fLo).bind fun r5 =>
 (cmp_Or ([r3, r4, r5] : List Int)).bind fun r6 =>
 some r6
theorem addr_Cmp_ac (a0 : api_Addr) (a1 : api_Addr) (r : Int) (h : addr_Cmp a0 a1 = some r) : AC Tryz.prog 50 [(.d (e_api_Addr a0)), (.d (e_api_Addr a1))] [] (.d (.int .i64 r)) [] := by
 refine AC.of_code2 Tryz.func50 rfl rfl (Nat.le_of_ble_eq_true (by rfl)) fun B hB hN => ?_
 delta addr_Cmp at h
 refine sr (cg (OpJ.box hB (nm := 1002) (by decide) (by simp) rfl (ltN hN rfl) (q 0)) rfl (cg (OpJ.box hB (nm := 1003) (by decide) (by simp) rfl (ltN hN rfl) (q 1)) rfl (c (OpJ.assign (ltN hN rfl) (Opd.int .i64 (0))) rfl cn))) ?_
 obtain ⟨r1, hr1, h⟩ := bindS h
 obtain ⟨r2, hr2, h⟩ := bindS h
 obtain ⟨r3, hr3, h⟩ := bindS h
 obtain ⟨r4, hr4, h⟩ := bindS h
 obtain ⟨r5, hr5, h⟩ := bindS h
 obtain ⟨r6, hr6, h⟩ := bindS h
 refine sd (c (lb hN 42 _ _ tyS42 (At.here _) (q 2)) rfl (cg (OpJ.callFn hB fnOk72 (addr_family_ac a0 r1 hr1) [] (by kernel_rfl) (ltN hN rfl) (by kernel_rfl) (OpdL.cons (q 5) OpdL.nil)) rfl (c (lb hN 42 _ _ tyS42 (At.here _) (q 3)) rfl (cg (OpJ.callFn hB fnOk72 (addr_family_ac a1 r2 hr2) [] (by kernel_rfl) (ltN hN rfl) (by kernel_rfl) (OpdL.cons (q 7) OpdL.nil)) rfl (cg (OpJ.callFn hB fnOk71 (cmp_Compare_ac r1 r2 r3 hr3) [] (by kernel_rfl) (ltN hN rfl) (by kernel_rfl) (OpdL.cons (q 6) (OpdL.cons (q 8) OpdL.nil))) rfl (c (fo 1002 1 [1] hN underlying42 1 tyS40 (q 2)) rfl (c (la hN 42 tyS40 (q 10)) rfl (c (fo 1003 1 [1] hN underlying42 1 tyS40 (q 3)) rfl (c (la hN 42 tyS40 (q 12)) rfl (cg (OpJ.callFn hB fnOk73 (cmp_Compare_2_ac a0.fHi a1.fHi r4 hr4) [] (by kernel_rfl) (ltN hN rfl) (by kernel_rfl) (OpdL.cons (q 11) (OpdL.cons (q 13) OpdL.nil))) rfl (c (fo 1002 2 [2] hN underlying42 2 tyS40 (q 2)) rfl (c (la hN 42 tyS40 (q 15)) rfl (c (fo 1003 2 [2] hN underlying42 2 tyS40 (q 3)) rfl (c (la hN 42 tyS40 (q 17)) rfl (cg (OpJ.callFn hB fnOk73 (cmp_Compare_2_ac a0.fLo a1.fLo r5 hr5) [] (by kernel_rfl) (ltN hN rfl) (by kernel_rfl) (OpdL.cons (q 16) (OpdL.cons (q 18) OpdL.nil))) rfl (c (OpJ.buildSlice underlying26 tyS3 tyZD3 (by rfl) (by decide) (by decide) (Opds.cons (q 9) (Opds.cons (q 14) (Opds.cons (q 19) Opds.nil))) (by kernel_rfl) (es := ([(.int .i64 r3), (.int .i64 r4), (.int .i64 r5)] : List D)) (by rfl) (by rfl) (by kernel_rfl) (by simp) (ltN hN rfl)) rfl (cg (OpJ.callFn hB fnOk70 (cmp_Or_ac ([r3, r4, r5] : List Int) r6 hr6) [] (by kernel_rfl) (ltN hN rfl) (by kernel_rfl) (OpdL.cons (q 20) OpdL.nil)) rfl (c (OpJ.assign (ltN hN rfl) (q 21)) rfl cn)))))))))))))))))) (by kernel_rfl) (by kernel_rfl) ?_
 apply AWp.ret
 obtain rfl := Option.some.inj h
 exact ⟨.inl rfl, _, _, (kp [(4, _)] [] hB rfl rfl (by rfl)), [(i6 r6)], (Res.tmp (by rfl) (by rfl) Res.nil), rfl, by rfl, by rfl, by rfl⟩
noncomputable def addr_Next (a0 : api_Addr) : Option (api_Addr × Bool) :=
 jn (fun m2 : Int =>
 jn (fun m6 : Bool =>
 (if m6 = true then
 some ((api_Addr.mk false (0 : Int) (0 : Int)), false)
 else
 some ((api_Addr.mk a0.fV6 m2 (IntKind.u64.wrap (a0.fLo + (1 : Int)))), true))) (fun j7 =>
 (if ((a0.fV6 && (m2 == (0 : Int))) && ((IntKind.u64.wrap (a0.fLo + (1 : Int))) == (0 : Int))) = true then
 j7 true
 else
 (addr_Valid (api_Addr.mk a0.fV6 m2 (IntKind.u64.wrap (a0.fLo + (1 : Int))))).bind fun r10 =>
 j7 (!r10)))) (fun j3 =>
 (if (a0.fV6 && ((IntKind.u64.wrap (a0.fLo + (1 : Int))) == (0 : Int))) = true then
 j3 (IntKind.u64.wrap (a0.fHi + (1 : Int)))
 else
 j3 a0.fHi))
theorem addr_Next_ac (a0 : api_Addr) (r : api_Addr × Bool) (h : addr_Next a0 = some r) : AC Tryz.prog 52 [(.d (e_api_Addr a0))] [] (.tup [(.d (e_api_Addr r.1)), (.d (.bool r.2))]) [] := by
 refine AC.of_code2 Tryz.func52 rfl rfl (Nat.le_of_ble_eq_true (by rfl)) fun B hB hN => ?_
 have L {d : Nat} (h : Nat.blt d Tryz.f52.ntmps = true) : d < B.N := ltN hN h
 delta addr_Next at h
 refine sr (cg (OpJ.box hB (nm := 1001) (by decide) (by simp) rfl (L rfl) (q 0)) rfl (cg (OpJ.alloc hB tyZ42 (nm := 1002) (by decide) (L rfl)) rfl (c (OpJ.assign (L rfl) (Opd.bool false)) rfl cn))) ?_
 refine sr (c (fo 1001 2 [2] hN underlying42 2 tyS40 (q 1)) rfl (c (la hN 42 tyS40 (q 4)) rfl (c (OpJ.add (L rfl) (q 5) (Opd.int .u64 (1))) rfl (c (fo 1001 2 [2] hN underlying42 2 tyS40 (q 1)) rfl (cg (OpJ.storeB tyS40 (SetAt.dst1 (by rfl) (by rfl) (SetAt.here _ _) (by rfl) (by rfl) (by first | rfl | omega)) (by rfl) (by rfl) (by simp) rfl (q 7) (q 6)) rfl cn))))) ?_
 apply AWp.seq
 refine sr (c (fo 1001 0 [0] hN underlying42 0 tyS4 (q 1)) rfl (c (la hN 42 tyS4 (q 8)) rfl (c (mv hN (q 9)) rfl (c (oq hN 10 (fo 1001 2 [2] hN underlying42 2 tyS40 (q 1)) (OptL.keep (by rfl) OptL.nil) (GuardV.plain _)) rfl (c (oq hN 10 (la hN 42 tyS40 (q 11)) (OptL.opt OptL.nil) (GuardV.plain _)) rfl (c (oq hN 10 (OpJ.eqlI (L rfl) (q 12) (Opd.int .u64 (0))) (OptL.opt OptL.nil) (GuardV.plain _)) rfl (c (OpJ.pickAnd rfl (L rfl) (q 10) (q 13)) rfl cn))))))) ?_
 refine gh [(1, _), (2, _), (14, _)] [(1001, some _), (1002, some _)] hB rfl rfl (by rfl) ?_
 refine AWp.cut h (fun m2 : Int => ([(1, (pt 1001)), (2, (pt 1002))] : EL)) (fun m2 : Int => ([(1001, some (.box 42 (.d (.st [(.bool a0.fV6), (.int .u64 m2), (.int .u64 (IntKind.u64.wrap (a0.fLo + (1 : Int))))])))), (1002, bd 42 (.st [(.bool false), (.int .u64 0), (.int .u64 0)]))] : OL)) (fun m2 h E' O' hmat => ?_) (fun j3 hjj3 h => ?_)
 ·apply seqQ_n
  refine AWp.ghost hmat ?_
  apply AWp.seq
  apply AWp.seq
  refine AWp.cut h (fun m6 : Bool => ([(1, (pt 1001)), (2, (pt 1002)), (35, (bo m6))] : EL)) (fun m6 : Bool => ([(1001, some (.box 42 (.d (.st [(.bool a0.fV6), (.int .u64 m2), (.int .u64 (IntKind.u64.wrap (a0.fLo + (1 : Int))))])))), (1002, bd 42 (.st [(.bool false), (.int .u64 0), (.int .u64 0)]))] : OL)) (fun m6 h E' O' hmat => ?_) (fun j7 hjj7 h => ?_)
  ·apply seqQ_n
   refine AWp.ghost hmat ?_
   refine AWp.cond rfl (fun hg8 => ?_) (fun hg8 => ?_)
   ·replace h := ite_t hg8 h
    refine sr (c (OpJ.coe (v := (.st [(bo false), (.d (.int .u64 0)), (.d (.int .u64 0))])) (y := (.st [(.bool false), (.int .u64 0), (.int .u64 0)])) (Co.st (CoL.cons (Co.d _) (CoL.cons (Co.d _) (CoL.cons (Co.d _) CoL.nil)))) rfl (OpJ.build (places := [(0, 1), (1, 1), (2, 1)]) ⟨underlying42, fun w => by kernel_rfl⟩ tyZS42 Opds.nil (by kernel_rfl) (r := (.st [(bo false), (.d (.int .u64 0)), (.d (.int .u64 0))])) (by rfl) (L rfl))) rfl (cg (sB tyS42 (q 2) (q 36)) rfl (c (OpJ.assign (L rfl) (Opd.bool false)) rfl cn))) ?_
    apply AWp.ret
    apply seqQ_r
    obtain rfl := Option.some.inj h
    exact ⟨.inl rfl, _, _, (kp [(2, _), (3, _)] [(1002, some _)] hB rfl rfl (by rfl)), [(.d (.st [(.bool false), (.int .u64 0), (.int .u64 0)])), (bo false)], (Res.cell (c := (.d (.st [(.bool false), (.int .u64 0), (.int .u64 0)]))) (by rfl) (by rfl) tyS42 (by rfl) (by rfl) (by rfl) (Res.tmp (by rfl) (by rfl) Res.nil)), rfl, by rfl, by rfl, by rfl⟩
   ·replace h := ite_f hg8 h
    apply AWp.skip
    apply seqQ_n
    refine sr (c (lb hN 42 _ _ tyS42 (At.here _) (q 1)) rfl (cg (sB tyS42 (q 2) (q 37)) rfl (c (OpJ.assign (L rfl) (Opd.bool true)) rfl cn))) ?_
    apply AWp.ret
    obtain rfl := Option.some.inj h
    exact ⟨.inl rfl, _, _, (kp [(2, _), (3, _)] [(1002, some _)] hB rfl rfl (by rfl)), [(.d (.st [(.bool a0.fV6), (.int .u64 m2), (.int .u64 (IntKind.u64.wrap (a0.fLo + (1 : Int))))])), (bo true)], (Res.cell (c := (.d (.st [(.bool a0.fV6), (.int .u64 m2), (.int .u64 (IntKind.u64.wrap (a0.fLo + (1 : Int))))]))) (by rfl) (by rfl) tyS42 (by rfl) (by rfl) (by rfl) (Res.tmp (by rfl) (by rfl) Res.nil)), rfl, by rfl, by rfl, by rfl⟩
  ·rcases Bool.eq_false_or_eq_true ((a0.fV6 && (m2 == (0 : Int))) && ((IntKind.u64.wrap (a0.fLo + (1 : Int))) == (0 : Int))) with hg9 | hg9
   ·replace h := ite_t hg9 h
    refine rg (c (fo 1001 0 [0] hN underlying42 0 tyS4 (q 1)) rfl (c (la hN 42 tyS4 (q 19)) rfl (c (mv hN (q 20)) rfl (c (oq hN 21 (fo 1001 1 [1] hN underlying42 1 tyS40 (q 1)) (OptL.keep (by rfl) OptL.nil) (GuardV.plain _)) rfl (c (oq hN 21 (la hN 42 tyS40 (q 22)) (OptL.opt OptL.nil) (GuardV.plain _)) rfl (c (oq hN 21 (OpJ.eqlI (L rfl) (q 23) (Opd.int .u64 (0))) (OptL.opt OptL.nil) (GuardV.plain _)) rfl (c (OpJ.pickAnd rfl (L rfl) (q 21) (q 24)) rfl (c (mv hN (q 25)) rfl (c (oq hN 26 (fo 1001 2 [2] hN underlying42 2 tyS40 (q 1)) (OptL.keep (by rfl) OptL.nil) (GuardV.plain _)) rfl (c (oq hN 26 (la hN 42 tyS40 (q 27)) (OptL.opt OptL.nil) (GuardV.plain _)) rfl (c (oq hN 26 (OpJ.eqlI (L rfl) (q 28) (Opd.int .u64 (0))) (OptL.opt OptL.nil) (GuardV.plain _)) rfl (c (OpJ.pickAnd rfl (L rfl) (q 26) (q 29)) rfl (c (OpJ.val (v' := .d (.bool true)) (by rw [hg9] <;> rfl) (mv hN (q 30))) rfl (cg (sU 31 (L rfl)) rfl (cg (sU 31 (L rfl)) rfl (cg (sU 31 (L rfl)) rfl (c (OpJ.pickT (L rfl) (q 31) (Opd.bool true)) rfl cn))))))))))))))))) ?_
    exact hjj7 _ h _ _ (mp [] _ _ hB)
   ·replace h := ite_f hg9 h
    obtain ⟨r10, hr10, h⟩ := bindS h
    refine rg (c (fo 1001 0 [0] hN underlying42 0 tyS4 (q 1)) rfl (c (la hN 42 tyS4 (q 19)) rfl (c (mv hN (q 20)) rfl (c (oq hN 21 (fo 1001 1 [1] hN underlying42 1 tyS40 (q 1)) (OptL.keep (by rfl) OptL.nil) (GuardV.plain _)) rfl (c (oq hN 21 (la hN 42 tyS40 (q 22)) (OptL.opt OptL.nil) (GuardV.plain _)) rfl (c (oq hN 21 (OpJ.eqlI (L rfl) (q 23) (Opd.int .u64 (0))) (OptL.opt OptL.nil) (GuardV.plain _)) rfl (c (OpJ.pickAnd rfl (L rfl) (q 21) (q 24)) rfl (c (mv hN (q 25)) rfl (c (oq hN 26 (fo 1001 2 [2] hN underlying42 2 tyS40 (q 1)) (OptL.keep (by rfl) OptL.nil) (GuardV.plain _)) rfl (c (oq hN 26 (la hN 42 tyS40 (q 27)) (OptL.opt OptL.nil) (GuardV.plain _)) rfl (c (oq hN 26 (OpJ.eqlI (L rfl) (q 28) (Opd.int .u64 (0))) (OptL.opt OptL.nil) (GuardV.plain _)) rfl (c (OpJ.pickAnd rfl (L rfl) (q 26) (q 29)) rfl (c (OpJ.val (v' := .d (.bool false)) (by rw [hg9] <;> rfl) (mv hN (q 30))) rfl (c (gd 31 (lb hN 42 _ _ tyS42 (At.here _) (q 1))) rfl (cg (gd 31 (OpJ.callFn hB fnOk42 (addr_Valid_ac (api_Addr.mk a0.fV6 m2 (IntKind.u64.wrap (a0.fLo + (1 : Int)))) r10 hr10) [] (by kernel_rfl) (L rfl) (by kernel_rfl) (OpdL.cons (q 32) OpdL.nil))) rfl (c (gd 31 (OpJ.not (L rfl) (q 33))) rfl (c (OpJ.pickF (L rfl) (q 31) (q 34)) rfl cn))))))))))))))))) ?_
    exact hjj7 _ h _ _ (mp [] _ _ hB)
 ·refine AWp.cond rfl (fun hg11 => ?_) (fun hg11 => ?_)
  ·replace h := ite_t hg11 h
   refine rg (c (fo 1001 1 [1] hN underlying42 1 tyS40 (q 1)) rfl (c (la hN 42 tyS40 (q 15)) rfl (c (OpJ.add (L rfl) (q 16) (Opd.int .u64 (1))) rfl (c (fo 1001 1 [1] hN underlying42 1 tyS40 (q 1)) rfl (cg (OpJ.storeB tyS40 (SetAt.dst1 (by rfl) (by rfl) (SetAt.here _ _) (by rfl) (by rfl) (by first | rfl | omega)) (by rfl) (by rfl) (by simp) rfl (q 18) (q 17)) rfl cn))))) ?_
   exact hjj3 _ h _ _ (mp [] _ _ hB)
  ·replace h := ite_f hg11 h
   apply AWp.skip
   exact hjj3 _ h _ _ (mp [] _ _ hB)
noncomputable def resource_order_valid_L0 (a0 : (List api_Addr_)) (s1 : Int) : Option (((Unit) ⊕ (Unit)) ⊕ (Int)) :=
 (if (decide (s1 < (a0.length : Int))) = true then
 jn (fun _ : Unit =>
 some (.inr (w64 (s1 + (1 : Int))))) (fun j117 =>
 (idx a0 s1).bind fun x118 =>
 (addr_Cmp x118.ffrom x118.fto).bind fun r119 =>
 (if (decide ((0 : Int) < r119)) = true then
 some (.inl (.inl ()))
 else
 (if (s1 == (0 : Int)) = true then
 j117 ()
 else
 (idx a0 (w64 (s1 - (1 : Int)))).bind fun x122 =>
 (addr_Next x122.fto).bind fun r123 =>
 jn (fun m131 : Bool =>
 (if m131 = true then
 some (.inl (.inl ()))
 else
 j117 ())) (fun j132 =>
 (idx a0 (w64 (s1 - (1 : Int)))).bind fun x134 =>
 (addr_Cmp x134.fto x118.ffrom).bind fun r135 =>
 (if (decide ((0 : Int) ≤ r135)) = true then
 j132 true
 else
 (if r123.2 = true then
 (addr_Cmp r123.1 x118.ffrom).bind fun r138 =>
 j132 (r138 == (0 : Int))
 else
 j132 false))))))
 else
 some (.inl (.inr ())))
noncomputable def resource_order_valid (a0 : (List api_Addr_)) : Option (Bool) :=
 (loop (resource_order_valid_L0 a0) (0 : Int)).bind fun x139 => match x139 with
 | (.inl _) =>
  some false
 | (.inr _) =>
  some true
theorem resource_order_valid_ac (a0 : (List api_Addr_)) (r : Bool) (h : resource_order_valid a0 = some r) : AC Tryz.prog 46 [(.st [(.func 50 []), (.func 52 []), (.func 133 [])]), (.d (.list 6 (a0.map e_api_Addr_)))] [] (.d (.bool r)) [] := by
 refine AC.of_code2 Tryz.func46 rfl rfl (Nat.le_of_ble_eq_true (by rfl)) fun B hB hN => ?_
 have L {d : Nat} (h : Nat.blt d Tryz.f46.ntmps = true) : d < B.N := ltN hN h
 delta resource_order_valid at h
 refine sr (cg (OpJ.box hB (nm := 1002) (by decide) (by simp) rfl (L rfl) (q 0)) rfl (c (OpJ.assign (L rfl) (Opd.bool false)) rfl cn)) ?_
 apply AWp.seq
 refine sr (c (mv hN (q 1)) rfl (c (OpJ.val (v' := (i6 (a0.length : Int))) (by simp) (OpJ.lenD underlying66 (L rfl) (q 9))) rfl (c (mv hN (Opd.int .i64 (0))) rfl cn))) ?_
 apply AWp.block
 obtain ⟨x139, hx140, h⟩ := bindS h
 refine lg (resource_order_valid_L0 a0) (fun s1 : Int => ([(1, (qe_api_Addr__6 a0)), (2, (pt 1002)), (9, (qe_api_Addr__6 a0)), (10, (i6 (a0.length : Int))), (11, (i6 s1))] : EL)) (fun s1 : Int => ([(1002, some (.box 73 (.st [(.func 50 []), (.func 52 []), (.func 133 [])])))] : OL)) (fun (x : (Unit) ⊕ (Unit)) e E' O' => match x with | (.inl _p) => e = .ret ∧ Mat B E' O' ([(4, (bo false))] : EL) ([] : OL) | (.inr _p) => e = .exit 0 ∧ Mat B E' O' ([] : EL) ([] : OL)) hx140 (mp [] _ _ hB) (fun s1 y h => ?_) (fun e E' O' hR => ?_)
 ·unfold resource_order_valid_L0 at h
  refine sr (c (OpJ.lss (L rfl) (q 11) (q 10)) rfl cn) ?_
  apply AWp.seq
  refine AWp.cond rfl (fun hg94 => ?_) (fun hg94 => ?_)
  ·replace h := ite_t hg94 h
   apply AWp.skip
   apply seqQ_n
   apply AWp.seq
   refine AWp.cut h (fun _ : Unit => ([(1, (qe_api_Addr__6 a0)), (2, (pt 1002)), (9, (qe_api_Addr__6 a0)), (10, (i6 (a0.length : Int))), (11, (i6 s1))] : EL)) (fun _ : Unit => ([(1002, some (.box 73 (.st [(.func 50 []), (.func 52 []), (.func 133 [])])))] : OL)) (fun _m h E' O' hmat => ?_) (fun j117 hjj117 h => ?_)
   ·apply seqQ_n
    refine AWp.ghost hmat ?_
    refine rg (c (add6 (L rfl) (q 11) (Opd.int .i64 (1))) rfl (c (mv hN (q 62)) rfl cn)) ?_
    obtain rfl := Option.some.inj h
    exact ⟨rfl, (mp [] _ _ hB)⟩
   ·apply AWp.block
    obtain ⟨x118, hx118, h⟩ := bindS h
    refine sr (c (mv hN (q 11)) rfl (c (OpJ.indexD underlying66 tyS99 (idx_some hx118).1 (get_map e_api_Addr_ (idx_some hx118).2) (L rfl) (q 9) (q 11)) rfl (c (OpJ.loadD tyS99 (by rfl) (by rfl) (L rfl) (q 14)) rfl (cg (OpJ.alloc hB tyZ99 (nm := 1006) (by decide) (L rfl)) rfl (c (OpJ.assign (L rfl) (q 13)) rfl (cg (sB tyS99 (q 6) (q 15)) rfl cn)))))) ?_
    apply AWp.seq
    obtain ⟨r119, hr119, h⟩ := bindS h
    refine sr (c (fo 1002 0 [0] hN underlying73 0 tyS71 (q 2)) rfl (c (lb hN 73 _ (.func 50 []) tyS71 (At.st1 (f := (.func 50 [])) (by rfl) (by rfl) (At.here _) (by first | rfl | omega)) (q 16)) rfl (c (fo 1006 0 [0] hN underlying99 0 tyS42 (q 6)) rfl (c (la hN 99 tyS42 (q 18)) rfl (c (fo 1006 3 [1] hN underlying99 3 tyS42 (q 6)) rfl (c (la hN 99 tyS42 (q 20)) rfl (cg (OpJ.callVal (args := [(.d (e_api_Addr x118.ffrom)), (.d (e_api_Addr x118.fto))]) (caps := []) hB fnOk50 [] (addr_Cmp_ac x118.ffrom x118.fto r119 hr119) (by kernel_rfl) (L rfl) (by kernel_rfl) (by kernel_rfl) (OpdL.cons (q 19) (OpdL.cons (q 21) OpdL.nil))) rfl (c (OpJ.gtr (L rfl) (q 22) (Opd.int .i64 (0))) rfl cn)))))))) ?_
    refine AWp.cond rfl (fun hg120 => ?_) (fun hg120 => ?_)
    ·replace h := ite_t hg120 h
     refine sr (c (OpJ.assign (L rfl) (Opd.bool false)) rfl cn) ?_
     apply AWp.ret
     apply seqQ_r
     apply blkQ_r
     apply seqQ_r
     obtain rfl := Option.some.inj h
     exact ⟨(fun hc => by cases hc), rfl, (mp [] _ _ hB)⟩
    ·replace h := ite_f hg120 h
     apply AWp.skip
     apply seqQ_n
     apply AWp.seq
     refine sr (c (mv hN (q 5)) rfl (c (OpJ.eqlI (L rfl) (q 24) (Opd.int .i64 (0))) rfl cn)) ?_
     refine AWp.cond rfl (fun hg121 => ?_) (fun hg121 => ?_)
     ·replace h := ite_t hg121 h
      apply AWp.exit
      apply seqQ_e
      apply blkQ_hit
      exact hjj117 _ h _ _ (mp [] _ _ hB)
     ·replace h := ite_f hg121 h
      apply AWp.skip
      apply seqQ_n
      obtain ⟨x122, hx122, h⟩ := bindS h
      obtain ⟨r123, hr123, h⟩ := bindS h
      refine sd (c (fo 1002 1 [1] hN underlying73 1 tyS48 (q 2)) rfl (c (lb hN 73 _ (.func 52 []) tyS48 (At.st1 (f := (.func 52 [])) (by rfl) (by rfl) (At.here _) (by first | rfl | omega)) (q 27)) rfl (c (mv hN (q 1)) rfl (c (mv hN (q 5)) rfl (c (sub6 (L rfl) (q 30) (Opd.int .i64 (1))) rfl (c (OpJ.indexD underlying66 tyS99 (idx_some hx122).1 (get_map e_api_Addr_ (idx_some hx122).2) (L rfl) (q 29) (q 31)) rfl (c (OpJ.fieldD underlying99 (by rfl) (o := 3) (by rfl) tyS42 (by decide) (by rfl) (by rfl) (L rfl) (q 32)) rfl (c (OpJ.loadD tyS42 (by rfl) (by rfl) (L rfl) (q 33)) rfl (cg (OpJ.callVal (args := [(.d (e_api_Addr x122.fto))]) (caps := []) hB fnOk52 [] (addr_Next_ac x122.fto r123 hr123) (by kernel_rfl) (L rfl) (by kernel_rfl) (by kernel_rfl) (OpdL.cons (q 34) OpdL.nil)) rfl (c (mv hN (q 35)) rfl (c (OpJ.extract (by rfl) rfl (L rfl) (q 26)) rfl (c (OpJ.extract (by rfl) rfl (L rfl) (q 26)) rfl (cg (OpJ.alloc hB tyZ42 (nm := 1007) (by decide) (L rfl)) rfl (cg (sB tyS42 (q 7) (q 36)) rfl (c (OpJ.assign (L rfl) (q 37)) rfl cn))))))))))))))) (by kernel_rfl) (by kernel_rfl) ?_
      apply AWp.seq
      refine AWp.cut h (fun m131 : Bool => ([(1, (qe_api_Addr__6 a0)), (2, (pt 1002)), (9, (qe_api_Addr__6 a0)), (10, (i6 (a0.length : Int))), (11, (i6 s1)), (61, (bo m131))] : EL)) (fun m131 : Bool => ([(1002, some (.box 73 (.st [(.func 50 []), (.func 52 []), (.func 133 [])])))] : OL)) (fun m131 h E' O' hmat => ?_) (fun j132 hjj132 h => ?_)
      ·apply seqQ_n
       refine AWp.ghost hmat ?_
       refine AWp.cond rfl (fun hg133 => ?_) (fun hg133 => ?_)
       ·replace h := ite_t hg133 h
        refine sr (c (OpJ.assign (L rfl) (Opd.bool false)) rfl cn) ?_
        apply AWp.ret
        apply blkQ_r
        apply seqQ_r
        obtain rfl := Option.some.inj h
        exact ⟨(fun hc => by cases hc), rfl, (mp [] _ _ hB)⟩
       ·replace h := ite_f hg133 h
        apply AWp.skip
        apply blkQ_n
        exact hjj117 _ h _ _ (mp [] _ _ hB)
      ·obtain ⟨x134, hx134, h⟩ := bindS h
       obtain ⟨r135, hr135, h⟩ := bindS h
       rcases Bool.eq_false_or_eq_true (decide ((0 : Int) ≤ r135)) with hg136 | hg136
       ·replace h := ite_t hg136 h
        refine dr (c (fo 1002 0 [0] hN underlying73 0 tyS71 (q 2)) rfl (c (lb hN 73 _ (.func 50 []) tyS71 (At.st1 (f := (.func 50 [])) (by rfl) (by rfl) (At.here _) (by first | rfl | omega)) (q 38)) rfl (c (mv hN (q 1)) rfl (c (mv hN (q 5)) rfl (c (sub6 (L rfl) (q 41) (Opd.int .i64 (1))) rfl (c (OpJ.indexD underlying66 tyS99 (idx_some hx134).1 (get_map e_api_Addr_ (idx_some hx134).2) (L rfl) (q 40) (q 42)) rfl (c (OpJ.fieldD underlying99 (by rfl) (o := 3) (by rfl) tyS42 (by decide) (by rfl) (by rfl) (L rfl) (q 43)) rfl (c (OpJ.loadD tyS42 (by rfl) (by rfl) (L rfl) (q 44)) rfl (c (fo 1006 0 [0] hN underlying99 0 tyS42 (q 6)) rfl (c (la hN 99 tyS42 (q 46)) rfl (cg (OpJ.callVal (args := [(.d (e_api_Addr x134.fto)), (.d (e_api_Addr x118.ffrom))]) (caps := []) hB fnOk50 [] (addr_Cmp_ac x134.fto x118.ffrom r135 hr135) (by kernel_rfl) (L rfl) (by kernel_rfl) (by kernel_rfl) (OpdL.cons (q 45) (OpdL.cons (q 47) OpdL.nil))) rfl (c (OpJ.geq (L rfl) (q 48) (Opd.int .i64 (0))) rfl (c (OpJ.val (v' := .d (.bool true)) (by rw [hg136] <;> rfl) (mv hN (q 49))) rfl (cg (sU 50 (L rfl)) rfl (cg (sU 50 (L rfl)) rfl (cg (sV 52 (L rfl)) rfl (cg (sV 52 (L rfl)) rfl (cg (sV 52 (L rfl)) rfl (cg (sV 52 (L rfl)) rfl (cg (sV 52 (L rfl)) rfl (cg (sV 52 (L rfl)) rfl (cg (sV 52 (L rfl)) rfl (cg (sU 50 (L rfl)) rfl (c (OpJ.pickT (L rfl) (q 50) (Opd.bool true)) rfl cn)))))))))))))))))))))))) (by kernel_rfl) (by kernel_rfl) ?_
        exact hjj132 _ h _ _ (mp [] _ _ hB)
       ·replace h := ite_f hg136 h
        rcases Bool.eq_false_or_eq_true r123.2 with hg137 | hg137
        ·replace h := ite_t hg137 h
         obtain ⟨r138, hr138, h⟩ := bindS h
         refine dr (c (fo 1002 0 [0] hN underlying73 0 tyS71 (q 2)) rfl (c (lb hN 73 _ (.func 50 []) tyS71 (At.st1 (f := (.func 50 [])) (by rfl) (by rfl) (At.here _) (by first | rfl | omega)) (q 38)) rfl (c (mv hN (q 1)) rfl (c (mv hN (q 5)) rfl (c (sub6 (L rfl) (q 41) (Opd.int .i64 (1))) rfl (c (OpJ.indexD underlying66 tyS99 (idx_some hx134).1 (get_map e_api_Addr_ (idx_some hx134).2) (L rfl) (q 40) (q 42)) rfl (c (OpJ.fieldD underlying99 (by rfl) (o := 3) (by rfl) tyS42 (by decide) (by rfl) (by rfl) (L rfl) (q 43)) rfl (c (OpJ.loadD tyS42 (by rfl) (by rfl) (L rfl) (q 44)) rfl (c (fo 1006 0 [0] hN underlying99 0 tyS42 (q 6)) rfl (c (la hN 99 tyS42 (q 46)) rfl (cg (OpJ.callVal (args := [(.d (e_api_Addr x134.fto)), (.d (e_api_Addr x118.ffrom))]) (caps := []) hB fnOk50 [] (addr_Cmp_ac x134.fto x118.ffrom r135 hr135) (by kernel_rfl) (L rfl) (by kernel_rfl) (by kernel_rfl) (OpdL.cons (q 45) (OpdL.cons (q 47) OpdL.nil))) rfl (c (OpJ.geq (L rfl) (q 48) (Opd.int .i64 (0))) rfl (c (OpJ.val (v' := .d (.bool false)) (by rw [hg136] <;> rfl) (mv hN (q 49))) rfl (c (gd 50 (mv hN (q 8))) rfl (c (gd 50 (OpJ.val (v' := .d (.bool true)) (by rw [hg137] <;> rfl) (mv hN (q 51)))) rfl (c (gd 52 (fo 1002 0 [0] hN underlying73 0 tyS71 (q 2))) rfl (c (gd 52 (lb hN 73 _ (.func 50 []) tyS71 (At.st1 (f := (.func 50 [])) (by rfl) (by rfl) (At.here _) (by first | rfl | omega)) (q 53))) rfl (c (gd 52 (lb hN 42 _ _ tyS42 (At.here _) (q 7))) rfl (c (gd 52 (fo 1006 0 [0] hN underlying99 0 tyS42 (q 6))) rfl (c (gd 52 (la hN 99 tyS42 (q 56))) rfl (cg (gd 52 (OpJ.callVal (args := [(.d (e_api_Addr r123.1)), (.d (e_api_Addr x118.ffrom))]) (caps := []) hB fnOk50 [] (addr_Cmp_ac r123.1 x118.ffrom r138 hr138) (by kernel_rfl) (L rfl) (by kernel_rfl) (by kernel_rfl) (OpdL.cons (q 55) (OpdL.cons (q 57) OpdL.nil)))) rfl (c (gd 52 (OpJ.eqlI (L rfl) (q 58) (Opd.int .i64 (0)))) rfl (c (gd 50 (OpJ.pickT (L rfl) (q 52) (q 59))) rfl (c (OpJ.pickF (L rfl) (q 50) (q 60)) rfl cn)))))))))))))))))))))))) (by kernel_rfl) (by kernel_rfl) ?_
         exact hjj132 _ h _ _ (mp [] _ _ hB)
        ·replace h := ite_f hg137 h
         refine dr (c (fo 1002 0 [0] hN underlying73 0 tyS71 (q 2)) rfl (c (lb hN 73 _ (.func 50 []) tyS71 (At.st1 (f := (.func 50 [])) (by rfl) (by rfl) (At.here _) (by first | rfl | omega)) (q 38)) rfl (c (mv hN (q 1)) rfl (c (mv hN (q 5)) rfl (c (sub6 (L rfl) (q 41) (Opd.int .i64 (1))) rfl (c (OpJ.indexD underlying66 tyS99 (idx_some hx134).1 (get_map e_api_Addr_ (idx_some hx134).2) (L rfl) (q 40) (q 42)) rfl (c (OpJ.fieldD underlying99 (by rfl) (o := 3) (by rfl) tyS42 (by decide) (by rfl) (by rfl) (L rfl) (q 43)) rfl (c (OpJ.loadD tyS42 (by rfl) (by rfl) (L rfl) (q 44)) rfl (c (fo 1006 0 [0] hN underlying99 0 tyS42 (q 6)) rfl (c (la hN 99 tyS42 (q 46)) rfl (cg (OpJ.callVal (args := [(.d (e_api_Addr x134.fto)), (.d (e_api_Addr x118.ffrom))]) (caps := []) hB fnOk50 [] (addr_Cmp_ac x134.fto x118.ffrom r135 hr135) (by kernel_rfl) (L rfl) (by kernel_rfl) (by kernel_rfl) (OpdL.cons (q 45) (OpdL.cons (q 47) OpdL.nil))) rfl (c (OpJ.geq (L rfl) (q 48) (Opd.int .i64 (0))) rfl (c (OpJ.val (v' := .d (.bool false)) (by rw [hg136] <;> rfl) (mv hN (q 49))) rfl (c (gd 50 (mv hN (q 8))) rfl (c (gd 50 (OpJ.val (v' := .d (.bool false)) (by rw [hg137] <;> rfl) (mv hN (q 51)))) rfl (cg (sU 52 (L rfl)) rfl (cg (sU 52 (L rfl)) rfl (cg (sU 52 (L rfl)) rfl (cg (sU 52 (L rfl)) rfl (cg (sU 52 (L rfl)) rfl (cg (sU 52 (L rfl)) rfl (cg (sU 52 (L rfl)) rfl (c (gd 50 (OpJ.pickF (L rfl) (q 52) (Opd.bool false))) rfl (c (OpJ.pickF (L rfl) (q 50) (q 60)) rfl cn)))))))))))))))))))))))) (by kernel_rfl) (by kernel_rfl) ?_
         exact hjj132 _ h _ _ (mp [] _ _ hB)
  ·replace h := ite_f hg94 h
   apply AWp.exit
   apply seqQ_e
   obtain rfl := Option.some.inj h
   exact ⟨(fun hc => by cases hc), rfl, (mp [] _ _ hB)⟩
 ·rcases x139 with _ | _
  ·obtain ⟨rfl, hmat⟩ := hR
   apply blkQ_r
   apply seqQ_r
   obtain rfl := Option.some.inj h
   exact ⟨.inl rfl, _, _, (Mat.trans hmat (mp [] [(4, (bo false))] [] hB)), [(bo false)], (Res.tmp (by rfl) (by rfl) Res.nil), rfl, by rfl, by rfl, by rfl⟩
  ·obtain ⟨rfl, hmat⟩ := hR
   apply blkQ_hit
   apply seqQ_n
   refine AWp.ghost hmat ?_
   refine sr (c (OpJ.assign (L rfl) (Opd.bool true)) rfl cn) ?_
   apply AWp.ret
   obtain rfl := Option.some.inj h
   exact ⟨.inl rfl, _, _, (kp [(4, _)] [] hB rfl rfl (by rfl)), [(bo true)], (Res.tmp (by rfl) (by rfl) Res.nil), rfl, by rfl, by rfl, by rfl⟩
noncomputable def resource_numbers_1 (a0 : Int) : Option (Int × Bool) :=
 some ((w64 (a0 + (1 : Int))), (decide (a0 < (4294967295 : Int))))
theorem resource_numbers_1_ac (a0 : Int) (r : Int × Bool) (h : resource_numbers_1 a0 = some r) : AC Tryz.prog 134 [(.d (.int .i64 a0))] [] (.tup [(.d (.int .i64 r.1)), (.d (.bool r.2))]) [] := by
 refine AC.of_code2 Tryz.func134 rfl rfl (Nat.le_of_ble_eq_true (by rfl)) fun B hB hN => ?_
 delta resource_numbers_1 at h
 refine sr (c (OpJ.assign (ltN hN rfl) (Opd.int .i64 (0))) rfl (c (OpJ.assign (ltN hN rfl) (Opd.bool false)) rfl cn)) ?_
 refine sr (c (mv hN (q 0)) rfl (c (add6 (ltN hN rfl) (q 4) (Opd.int .i64 (1))) rfl (c (mv hN (q 0)) rfl (c (OpJ.lss (ltN hN rfl) (q 6) (Opd.int .i64 (4294967295))) rfl (c (OpJ.assign (ltN hN rfl) (q 5)) rfl (c (OpJ.assign (ltN hN rfl) (q 7)) rfl cn)))))) ?_
 apply AWp.ret
 obtain rfl := Option.some.inj h
 exact ⟨.inl rfl, _, _, (kp [(2, _), (3, _)] [] hB rfl rfl (by rfl)), [(i6 (w64 (a0 + (1 : Int)))), (bo (decide (a0 < (4294967295 : Int))))], (Res.tmp (by rfl) (by rfl) (Res.tmp (by rfl) (by rfl) Res.nil)), rfl, by rfl, by rfl, by rfl⟩
noncomputable def resource_order_valid_2_L0 (a0 : (List resource_part_int_)) (s1 : Int) : Option (((Unit) ⊕ (Unit)) ⊕ (Int)) :=
 (if (decide (s1 < (a0.length : Int))) = true then
 jn (fun _ : Unit =>
 some (.inr (w64 (s1 + (1 : Int))))) (fun j117 =>
 (idx a0 s1).bind fun x118 =>
 (cmp_Compare x118.ffrom x118.fto).bind fun r119 =>
 (if (decide ((0 : Int) < r119)) = true then
 some (.inl (.inl ()))
 else
 (if (s1 == (0 : Int)) = true then
 j117 ()
 else
 (idx a0 (w64 (s1 - (1 : Int)))).bind fun x122 =>
 (resource_numbers_1 x122.fto).bind fun r123 =>
 jn (fun m131 : Bool =>
 (if m131 = true then
 some (.inl (.inl ()))
 else
 j117 ())) (fun j132 =>
 (idx a0 (w64 (s1 - (1 : Int)))).bind fun x134 =>
 (cmp_Compare x134.fto x118.ffrom).bind fun r135 =>
 (if (decide ((0 : Int) ≤ r135)) = true then
 j132 true
 else
 (if r123.2 = true then
 (cmp_Compare r123.1 x118.ffrom).bind fun r138 =>
 j132 (r138 == (0 : Int))
 else
 j132 false))))))
 else
 some (.inl (.inr ())))
noncomputable def resource_order_valid_2 (a0 : (List resource_part_int_)) : Option (Bool) :=
 (loop (resource_order_valid_2_L0 a0) (0 : Int)).bind fun x139 => match x139 with
 | (.inl _) =>
  some false
 | (.inr _) =>
  some true
theorem resource_order_valid_2_ac (a0 : (List resource_part_int_)) (r : Bool) (h : resource_order_valid_2 a0 = some r) : AC Tryz.prog 47 [(.st [(.func 71 []), (.func 134 []), (.func 135 [])]), (.d (.list 2 (a0.map e_resource_part_int_)))] [] (.d (.bool r)) [] := by
 refine AC.of_code2 Tryz.func47 rfl rfl (Nat.le_of_ble_eq_true (by rfl)) fun B hB hN => ?_
 have L {d : Nat} (h : Nat.blt d Tryz.f47.ntmps = true) : d < B.N := ltN hN h
 delta resource_order_valid_2 at h
 refine sr (cg (OpJ.box hB (nm := 1002) (by decide) (by simp) rfl (L rfl) (q 0)) rfl (c (OpJ.assign (L rfl) (Opd.bool false)) rfl cn)) ?_
 apply AWp.seq
 refine sr (c (mv hN (q 1)) rfl (c (OpJ.val (v' := (i6 (a0.length : Int))) (by simp) (OpJ.lenD underlying67 (L rfl) (q 9))) rfl (c (mv hN (Opd.int .i64 (0))) rfl cn))) ?_
 apply AWp.block
 obtain ⟨x139, hx140, h⟩ := bindS h
 refine lg (resource_order_valid_2_L0 a0) (fun s1 : Int => ([(1, (.d (.list 2 (a0.map e_resource_part_int_)))), (2, (pt 1002)), (9, (.d (.list 2 (a0.map e_resource_part_int_)))), (10, (i6 (a0.length : Int))), (11, (i6 s1))] : EL)) (fun s1 : Int => ([(1002, some (.box 77 (.st [(.func 71 []), (.func 134 []), (.func 135 [])])))] : OL)) (fun (x : (Unit) ⊕ (Unit)) e E' O' => match x with | (.inl _p) => e = .ret ∧ Mat B E' O' ([(4, (bo false))] : EL) ([] : OL) | (.inr _p) => e = .exit 0 ∧ Mat B E' O' ([] : EL) ([] : OL)) hx140 (mp [] _ _ hB) (fun s1 y h => ?_) (fun e E' O' hR => ?_)
 ·unfold resource_order_valid_2_L0 at h
  refine sr (c (OpJ.lss (L rfl) (q 11) (q 10)) rfl cn) ?_
  apply AWp.seq
  refine AWp.cond rfl (fun hg94 => ?_) (fun hg94 => ?_)
  ·replace h := ite_t hg94 h
   apply AWp.skip
   apply seqQ_n
   apply AWp.seq
   refine AWp.cut h (fun _ : Unit => ([(1, (.d (.list 2 (a0.map e_resource_part_int_)))), (2, (pt 1002)), (9, (.d (.list 2 (a0.map e_resource_part_int_)))), (10, (i6 (a0.length : Int))), (11, (i6 s1))] : EL)) (fun _ : Unit => ([(1002, some (.box 77 (.st [(.func 71 []), (.func 134 []), (.func 135 [])])))] : OL)) (fun _m h E' O' hmat => ?_) (fun j117 hjj117 h => ?_)
   ·apply seqQ_n
    refine AWp.ghost hmat ?_
    refine rg (c (add6 (L rfl) (q 11) (Opd.int .i64 (1))) rfl (c (mv hN (q 62)) rfl cn)) ?_
    obtain rfl := Option.some.inj h
    exact ⟨rfl, (mp [] _ _ hB)⟩
   ·apply AWp.block
    obtain ⟨x118, hx118, h⟩ := bindS h
    refine sr (c (mv hN (q 11)) rfl (c (OpJ.indexD underlying67 tyS101 (idx_some hx118).1 (get_map e_resource_part_int_ (idx_some hx118).2) (L rfl) (q 9) (q 11)) rfl (c (OpJ.loadD tyS101 (by rfl) (by rfl) (L rfl) (q 14)) rfl (cg (OpJ.alloc hB tyZ101 (nm := 1006) (by decide) (L rfl)) rfl (c (OpJ.assign (L rfl) (q 13)) rfl (cg (sB tyS101 (q 6) (q 15)) rfl cn)))))) ?_
    apply AWp.seq
    obtain ⟨r119, hr119, h⟩ := bindS h
    refine sr (c (fo 1002 0 [0] hN underlying77 0 tyS50 (q 2)) rfl (c (lb hN 77 _ (.func 71 []) tyS50 (At.st1 (f := (.func 71 [])) (by rfl) (by rfl) (At.here _) (by first | rfl | omega)) (q 16)) rfl (c (fo 1006 0 [0] hN underlying101 0 tyS3 (q 6)) rfl (c (la hN 101 tyS3 (q 18)) rfl (c (fo 1006 1 [1] hN underlying101 1 tyS3 (q 6)) rfl (c (la hN 101 tyS3 (q 20)) rfl (cg (OpJ.callVal (args := [(i6 x118.ffrom), (i6 x118.fto)]) (caps := []) hB fnOk71 [] (cmp_Compare_ac x118.ffrom x118.fto r119 hr119) (by kernel_rfl) (L rfl) (by kernel_rfl) (by kernel_rfl) (OpdL.cons (q 19) (OpdL.cons (q 21) OpdL.nil))) rfl (c (OpJ.gtr (L rfl) (q 22) (Opd.int .i64 (0))) rfl cn)))))))) ?_
    refine AWp.cond rfl (fun hg120 => ?_) (fun hg120 => ?_)
    ·replace h := ite_t hg120 h
     refine sr (c (OpJ.assign (L rfl) (Opd.bool false)) rfl cn) ?_
     apply AWp.ret
     apply seqQ_r
     apply blkQ_r
     apply seqQ_r
     obtain rfl := Option.some.inj h
     exact ⟨(fun hc => by cases hc), rfl, (mp [] _ _ hB)⟩
    ·replace h := ite_f hg120 h
     apply AWp.skip
     apply seqQ_n
     apply AWp.seq
     refine sr (c (mv hN (q 5)) rfl (c (OpJ.eqlI (L rfl) (q 24) (Opd.int .i64 (0))) rfl cn)) ?_
     refine AWp.cond rfl (fun hg121 => ?_) (fun hg121 => ?_)
     ·replace h := ite_t hg121 h
      apply AWp.exit
      apply seqQ_e
      apply blkQ_hit
      exact hjj117 _ h _ _ (mp [] _ _ hB)
     ·replace h := ite_f hg121 h
      apply AWp.skip
      apply seqQ_n
      obtain ⟨x122, hx122, h⟩ := bindS h
      obtain ⟨r123, hr123, h⟩ := bindS h
      refine sd (c (fo 1002 1 [1] hN underlying77 1 tyS75 (q 2)) rfl (c (lb hN 77 _ (.func 134 []) tyS75 (At.st1 (f := (.func 134 [])) (by rfl) (by rfl) (At.here _) (by first | rfl | omega)) (q 27)) rfl (c (mv hN (q 1)) rfl (c (mv hN (q 5)) rfl (c (sub6 (L rfl) (q 30) (Opd.int .i64 (1))) rfl (c (OpJ.indexD underlying67 tyS101 (idx_some hx122).1 (get_map e_resource_part_int_ (idx_some hx122).2) (L rfl) (q 29) (q 31)) rfl (c (OpJ.fieldD underlying101 (by rfl) (o := 1) (by rfl) tyS3 (by decide) (by rfl) (by rfl) (L rfl) (q 32)) rfl (c (OpJ.loadD tyS3 (by rfl) (by rfl) (L rfl) (q 33)) rfl (cg (OpJ.callVal (args := [(i6 x122.fto)]) (caps := []) hB fnOk134 [] (resource_numbers_1_ac x122.fto r123 hr123) (by kernel_rfl) (L rfl) (by kernel_rfl) (by kernel_rfl) (OpdL.cons (q 34) OpdL.nil)) rfl (c (mv hN (q 35)) rfl (c (OpJ.extract (by rfl) rfl (L rfl) (q 26)) rfl (c (OpJ.extract (by rfl) rfl (L rfl) (q 26)) rfl (c (OpJ.assign (L rfl) (q 36)) rfl (c (OpJ.assign (L rfl) (q 37)) rfl cn)))))))))))))) (by kernel_rfl) (by kernel_rfl) ?_
      apply AWp.seq
      refine AWp.cut h (fun m131 : Bool => ([(1, (.d (.list 2 (a0.map e_resource_part_int_)))), (2, (pt 1002)), (9, (.d (.list 2 (a0.map e_resource_part_int_)))), (10, (i6 (a0.length : Int))), (11, (i6 s1)), (61, (bo m131))] : EL)) (fun m131 : Bool => ([(1002, some (.box 77 (.st [(.func 71 []), (.func 134 []), (.func 135 [])])))] : OL)) (fun m131 h E' O' hmat => ?_) (fun j132 hjj132 h => ?_)
      ·apply seqQ_n
       refine AWp.ghost hmat ?_
       refine AWp.cond rfl (fun hg133 => ?_) (fun hg133 => ?_)
       ·replace h := ite_t hg133 h
        refine sr (c (OpJ.assign (L rfl) (Opd.bool false)) rfl cn) ?_
        apply AWp.ret
        apply blkQ_r
        apply seqQ_r
        obtain rfl := Option.some.inj h
        exact ⟨(fun hc => by cases hc), rfl, (mp [] _ _ hB)⟩
       ·replace h := ite_f hg133 h
        apply AWp.skip
        apply blkQ_n
        exact hjj117 _ h _ _ (mp [] _ _ hB)
      ·obtain ⟨x134, hx134, h⟩ := bindS h
       obtain ⟨r135, hr135, h⟩ := bindS h
       rcases Bool.eq_false_or_eq_true (decide ((0 : Int) ≤ r135)) with hg136 | hg136
       ·replace h := ite_t hg136 h
        refine dr (c (fo 1002 0 [0] hN underlying77 0 tyS50 (q 2)) rfl (c (lb hN 77 _ (.func 71 []) tyS50 (At.st1 (f := (.func 71 [])) (by rfl) (by rfl) (At.here _) (by first | rfl | omega)) (q 38)) rfl (c (mv hN (q 1)) rfl (c (mv hN (q 5)) rfl (c (sub6 (L rfl) (q 41) (Opd.int .i64 (1))) rfl (c (OpJ.indexD underlying67 tyS101 (idx_some hx134).1 (get_map e_resource_part_int_ (idx_some hx134).2) (L rfl) (q 40) (q 42)) rfl (c (OpJ.fieldD underlying101 (by rfl) (o := 1) (by rfl) tyS3 (by decide) (by rfl) (by rfl) (L rfl) (q 43)) rfl (c (OpJ.loadD tyS3 (by rfl) (by rfl) (L rfl) (q 44)) rfl (c (fo 1006 0 [0] hN underlying101 0 tyS3 (q 6)) rfl (c (la hN 101 tyS3 (q 46)) rfl (cg (OpJ.callVal (args := [(i6 x134.fto), (i6 x118.ffrom)]) (caps := []) hB fnOk71 [] (cmp_Compare_ac x134.fto x118.ffrom r135 hr135) (by kernel_rfl) (L rfl) (by kernel_rfl) (by kernel_rfl) (OpdL.cons (q 45) (OpdL.cons (q 47) OpdL.nil))) rfl (c (OpJ.geq (L rfl) (q 48) (Opd.int .i64 (0))) rfl (c (OpJ.val (v' := .d (.bool true)) (by rw [hg136] <;> rfl) (mv hN (q 49))) rfl (cg (sU 50 (L rfl)) rfl (cg (sU 50 (L rfl)) rfl (cg (sV 52 (L rfl)) rfl (cg (sV 52 (L rfl)) rfl (cg (sV 52 (L rfl)) rfl (cg (sV 52 (L rfl)) rfl (cg (sV 52 (L rfl)) rfl (cg (sV 52 (L rfl)) rfl (cg (sV 52 (L rfl)) rfl (cg (sU 50 (L rfl)) rfl (c (OpJ.pickT (L rfl) (q 50) (Opd.bool true)) rfl cn)))))))))))))))))))))))) (by kernel_rfl) (by kernel_rfl) ?_
        exact hjj132 _ h _ _ (mp [] _ _ hB)
       ·replace h := ite_f hg136 h
        rcases Bool.eq_false_or_eq_true r123.2 with hg137 | hg137
        ·replace h := ite_t hg137 h
         obtain ⟨r138, hr138, h⟩ := bindS h
         refine dr (c (fo 1002 0 [0] hN underlying77 0 tyS50 (q 2)) rfl (c (lb hN 77 _ (.func 71 []) tyS50 (At.st1 (f := (.func 71 [])) (by rfl) (by rfl) (At.here _) (by first | rfl | omega)) (q 38)) rfl (c (mv hN (q 1)) rfl (c (mv hN (q 5)) rfl (c (sub6 (L rfl) (q 41) (Opd.int .i64 (1))) rfl (c (OpJ.indexD underlying67 tyS101 (idx_some hx134).1 (get_map e_resource_part_int_ (idx_some hx134).2) (L rfl) (q 40) (q 42)) rfl (c (OpJ.fieldD underlying101 (by rfl) (o := 1) (by rfl) tyS3 (by decide) (by rfl) (by rfl) (L rfl) (q 43)) rfl (c (OpJ.loadD tyS3 (by rfl) (by rfl) (L rfl) (q 44)) rfl (c (fo 1006 0 [0] hN underlying101 0 tyS3 (q 6)) rfl (c (la hN 101 tyS3 (q 46)) rfl (cg (OpJ.callVal (args := [(i6 x134.fto), (i6 x118.ffrom)]) (caps := []) hB fnOk71 [] (cmp_Compare_ac x134.fto x118.ffrom r135 hr135) (by kernel_rfl) (L rfl) (by kernel_rfl) (by kernel_rfl) (OpdL.cons (q 45) (OpdL.cons (q 47) OpdL.nil))) rfl (c (OpJ.geq (L rfl) (q 48) (Opd.int .i64 (0))) rfl (c (OpJ.val (v' := .d (.bool false)) (by rw [hg136] <;> rfl) (mv hN (q 49))) rfl (c (gd 50 (mv hN (q 8))) rfl (c (gd 50 (OpJ.val (v' := .d (.bool true)) (by rw [hg137] <;> rfl) (mv hN (q 51)))) rfl (c (gd 52 (fo 1002 0 [0] hN underlying77 0 tyS50 (q 2))) rfl (c (gd 52 (lb hN 77 _ (.func 71 []) tyS50 (At.st1 (f := (.func 71 [])) (by rfl) (by rfl) (At.here _) (by first | rfl | omega)) (q 53))) rfl (c (gd 52 (mv hN (q 7))) rfl (c (gd 52 (fo 1006 0 [0] hN underlying101 0 tyS3 (q 6))) rfl (c (gd 52 (la hN 101 tyS3 (q 56))) rfl (cg (gd 52 (OpJ.callVal (args := [(i6 r123.1), (i6 x118.ffrom)]) (caps := []) hB fnOk71 [] (cmp_Compare_ac r123.1 x118.ffrom r138 hr138) (by kernel_rfl) (L rfl) (by kernel_rfl) (by kernel_rfl) (OpdL.cons (q 55) (OpdL.cons (q 57) OpdL.nil)))) rfl (c (gd 52 (OpJ.eqlI (L rfl) (q 58) (Opd.int .i64 (0)))) rfl (c (gd 50 (OpJ.pickT (L rfl) (q 52) (q 59))) rfl (c (OpJ.pickF (L rfl) (q 50) (q 60)) rfl cn)))))))))))))))))))))))) (by kernel_rfl) (by kernel_rfl) ?_
         exact hjj132 _ h _ _ (mp [] _ _ hB)
        ·replace h := ite_f hg137 h
         refine dr (c (fo 1002 0 [0] hN underlying77 0 tyS50 (q 2)) rfl (c (lb hN 77 _ (.func 71 []) tyS50 (At.st1 (f := (.func 71 [])) (by rfl) (by rfl) (At.here _) (by first | rfl | omega)) (q 38)) rfl (c (mv hN (q 1)) rfl (c (mv hN (q 5)) rfl (c (sub6 (L rfl) (q 41) (Opd.int .i64 (1))) rfl (c (OpJ.indexD underlying67 tyS101 (idx_some hx134).1 (get_map e_resource_part_int_ (idx_some hx134).2) (L rfl) (q 40) (q 42)) rfl (c (OpJ.fieldD underlying101 (by rfl) (o := 1) (by rfl) tyS3 (by decide) (by rfl) (by rfl) (L rfl) (q 43)) rfl (c (OpJ.loadD tyS3 (by rfl) (by rfl) (L rfl) (q 44)) rfl (c (fo 1006 0 [0] hN underlying101 0 tyS3 (q 6)) rfl (c (la hN 101 tyS3 (q 46)) rfl (cg (OpJ.callVal (args := [(i6 x134.fto), (i6 x118.ffrom)]) (caps := []) hB fnOk71 [] (cmp_Compare_ac x134.fto x118.ffrom r135 hr135) (by kernel_rfl) (L rfl) (by kernel_rfl) (by kernel_rfl) (OpdL.cons (q 45) (OpdL.cons (q 47) OpdL.nil))) rfl (c (OpJ.geq (L rfl) (q 48) (Opd.int .i64 (0))) rfl (c (OpJ.val (v' := .d (.bool false)) (by rw [hg136] <;> rfl) (mv hN (q 49))) rfl (c (gd 50 (mv hN (q 8))) rfl (c (gd 50 (OpJ.val (v' := .d (.bool false)) (by rw [hg137] <;> rfl) (mv hN (q 51)))) rfl (cg (sU 52 (L rfl)) rfl (cg (sU 52 (L rfl)) rfl (cg (sU 52 (L rfl)) rfl (cg (sU 52 (L rfl)) rfl (cg (sU 52 (L rfl)) rfl (cg (sU 52 (L rfl)) rfl (cg (sU 52 (L rfl)) rfl (c (gd 50 (OpJ.pickF (L rfl) (q 52) (Opd.bool false))) rfl (c (OpJ.pickF (L rfl) (q 50) (q 60)) rfl cn)))))))))))))))))))))))) (by kernel_rfl) (by kernel_rfl) ?_
         exact hjj132 _ h _ _ (mp [] _ _ hB)
  ·replace h := ite_f hg94 h
   apply AWp.exit
   apply seqQ_e
   obtain rfl := Option.some.inj h
   exact ⟨(fun hc => by cases hc), rfl, (mp [] _ _ hB)⟩
 ·rcases x139 with _ | _
  ·obtain ⟨rfl, hmat⟩ := hR
   apply blkQ_r
   apply seqQ_r
   obtain rfl := Option.some.inj h
   exact ⟨.inl rfl, _, _, (Mat.trans hmat (mp [] [(4, (bo false))] [] hB)), [(bo false)], (Res.tmp (by rfl) (by rfl) Res.nil), rfl, by rfl, by rfl, by rfl⟩
  ·obtain ⟨rfl, hmat⟩ := hR
   apply blkQ_hit
   apply seqQ_n
   refine AWp.ghost hmat ?_
   refine sr (c (OpJ.assign (L rfl) (Opd.bool true)) rfl cn) ?_
   apply AWp.ret
   obtain rfl := Option.some.inj h
   exact ⟨.inl rfl, _, _, (kp [(4, _)] [] hB rfl rfl (by rfl)), [(bo true)], (Res.tmp (by rfl) (by rfl) Res.nil), rfl, by rfl, by rfl, by rfl⟩
noncomputable def resource_Valid_L0 (a0 : api_Resources) (s1 : Int) : Option (((Unit) ⊕ (Unit)) ⊕ (Int)) :=
 (if (decide (s1 < (a0.fAddrs.length : Int))) = true then
 (idx a0.fAddrs s1).bind fun x29 =>
 jn (fun m34 : Bool =>
 (if m34 = true then
 some (.inl (.inl ()))
 else
 some (.inr (w64 (s1 + (1 : Int)))))) (fun j35 =>
 (addr_Valid x29.fFrom).bind fun r37 =>
 (if (!r37) = true then
 j35 true
 else
 (addr_Valid x29.fTo).bind fun r39 =>
 j35 ((!r39) || (x29.fFrom.fV6 != x29.fTo.fV6))))
 else
 some (.inl (.inr ())))
noncomputable def resource_Valid (a0 : api_Resources) : Option (Bool) :=
 (loop (resource_Valid_L0 a0) (0 : Int)).bind fun x40 => match x40 with
 | (.inl _) =>
  some false
 | (.inr _) =>
  (slices_ContainsFunc a0.fASNs).bind fun r42 =>
  (if r42 = true then
  some false
  else
  (resource_of a0).bind fun r44 =>
  jn (fun m49 : Bool =>
  some m49) (fun j50 =>
  (if ((decide ((a0.fAddrs.length : Int) ≤ (256 : Int))) && (decide ((a0.fASNs.length : Int) ≤ (256 : Int)))) = true then
  (resource_order_valid r44.faddrs).bind fun r52 =>
  (if r52 = true then
  (resource_order_valid_2 r44.fasns).bind fun r54 =>
  j50 r54
  else
  j50 false)
  else
  j50 false)))
theorem resource_Valid_ac (a0 : api_Resources) (r : Bool) (h : resource_Valid a0 = some r) : AC Tryz.prog 19 [(.d (e_api_Resources a0))] [(500, (.know (globF 0 [50, 52, 133]))), (501, (.know (globF 1 [71, 134, 135])))] (.d (.bool r)) [(500, some (.know (globF 0 [50, 52, 133]))), (501, some (.know (globF 1 [71, 134, 135])))] := by
 refine AC.of_code2 Tryz.func19 rfl rfl (Nat.le_of_ble_eq_true (by rfl)) fun B hB hN => ?_
 have L {d : Nat} (h : Nat.blt d Tryz.f19.ntmps = true) : d < B.N := ltN hN h
 delta resource_Valid at h
 refine sr (cg (OpJ.box hB (nm := 1001) (by decide) (by simp) rfl (L rfl) (q 0)) rfl (c (OpJ.assign (L rfl) (Opd.bool false)) rfl cn)) ?_
 apply AWp.seq
 refine sr (c (fo 1001 0 [0] hN underlying25 0 tyS22 (q 1)) rfl (c (la hN 25 tyS22 (q 6)) rfl (c (OpJ.val (v' := (i6 (a0.fAddrs.length : Int))) (by simp) (OpJ.lenD underlying22 (L rfl) (q 7))) rfl (c (mv hN (Opd.int .i64 (0))) rfl cn)))) ?_
 apply AWp.block
 obtain ⟨x40, hx41, h⟩ := bindS h
 refine lg (resource_Valid_L0 a0) (fun s1 : Int => ([(1, (pt 1001)), (7, (qe_api_Range_6 a0.fAddrs)), (8, (i6 (a0.fAddrs.length : Int))), (9, (i6 s1))] : EL)) (fun s1 : Int => ([(500, some (.know (globF 0 [50, 52, 133]))), (501, some (.know (globF 1 [71, 134, 135]))), (1001, bd 25 (e_api_Resources a0))] : OL)) (fun (x : (Unit) ⊕ (Unit)) e E' O' => match x with | (.inl _p) => e = .ret ∧ Mat B E' O' ([(2, (bo false))] : EL) ([(500, some (.know (globF 0 [50, 52, 133]))), (501, some (.know (globF 1 [71, 134, 135])))] : OL) | (.inr _p) => e = .exit 0 ∧ Mat B E' O' ([(1, (pt 1001))] : EL) ([(500, some (.know (globF 0 [50, 52, 133]))), (501, some (.know (globF 1 [71, 134, 135]))), (1001, bd 25 (e_api_Resources a0))] : OL)) hx41 (mp [] _ _ hB) (fun s1 y h => ?_) (fun e E' O' hR => ?_)
 ·unfold resource_Valid_L0 at h
  refine sr (c (OpJ.lss (L rfl) (q 9) (q 8)) rfl cn) ?_
  apply AWp.seq
  refine AWp.cond rfl (fun hg28 => ?_) (fun hg28 => ?_)
  ·replace h := ite_t hg28 h
   apply AWp.skip
   apply seqQ_n
   apply AWp.seq
   apply AWp.block
   obtain ⟨x29, hx29, h⟩ := bindS h
   refine sr (c (OpJ.indexD underlying22 tyS46 (idx_some hx29).1 (get_map e_api_Range (idx_some hx29).2) (L rfl) (q 7) (q 9)) rfl (c (OpJ.loadD tyS46 (by rfl) (by rfl) (L rfl) (q 11)) rfl (cg (OpJ.alloc hB tyZ46 (nm := 1004) (by decide) (L rfl)) rfl (cg (sB tyS46 (q 4) (q 12)) rfl cn)))) ?_
   apply AWp.seq
   refine AWp.cut h (fun m34 : Bool => ([(1, (pt 1001)), (7, (qe_api_Range_6 a0.fAddrs)), (8, (i6 (a0.fAddrs.length : Int))), (9, (i6 s1)), (31, (bo m34))] : EL)) (fun m34 : Bool => ([(500, some (.know (globF 0 [50, 52, 133]))), (501, some (.know (globF 1 [71, 134, 135]))), (1001, bd 25 (e_api_Resources a0))] : OL)) (fun m34 h E' O' hmat => ?_) (fun j35 hjj35 h => ?_)
   ·apply seqQ_n
    refine AWp.ghost hmat ?_
    refine AWp.cond rfl (fun hg36 => ?_) (fun hg36 => ?_)
    ·replace h := ite_t hg36 h
     refine sr (c (OpJ.assign (L rfl) (Opd.bool false)) rfl cn) ?_
     apply AWp.ret
     apply blkQ_r
     apply seqQ_r
     obtain rfl := Option.some.inj h
     exact ⟨(fun hc => by cases hc), rfl, (mp [] _ _ hB)⟩
    ·replace h := ite_f hg36 h
     apply AWp.skip
     apply blkQ_n
     apply seqQ_n
     refine rg (c (add6 (L rfl) (q 9) (Opd.int .i64 (1))) rfl (c (mv hN (q 32)) rfl cn)) ?_
     obtain rfl := Option.some.inj h
     exact ⟨rfl, (mp [] _ _ hB)⟩
   ·obtain ⟨r37, hr37, h⟩ := bindS h
    rcases Bool.eq_false_or_eq_true (!r37) with hg38 | hg38
    ·replace h := ite_t hg38 h
     refine rg (c (fo 1004 0 [0] hN underlying46 0 tyS42 (q 4)) rfl (c (la hN 46 tyS42 (q 13)) rfl (cg (cf hB fnOk42 (addr_Valid_ac x29.fFrom r37 hr37) (L rfl) (OpdL.cons (q 14) OpdL.nil)) rfl (c (OpJ.not (L rfl) (q 15)) rfl (c (OpJ.val (v' := .d (.bool true)) (by rw [hg38] <;> rfl) (mv hN (q 16))) rfl (cg (sU 17 (L rfl)) rfl (cg (sU 17 (L rfl)) rfl (cg (sU 17 (L rfl)) rfl (cg (sU 17 (L rfl)) rfl (c (OpJ.pickT (L rfl) (q 17) (Opd.bool true)) rfl (c (mv hN (q 22)) rfl (cg (sU 23 (L rfl)) rfl (cg (sU 23 (L rfl)) rfl (cg (sU 23 (L rfl)) rfl (cg (sU 23 (L rfl)) rfl (cg (sU 23 (L rfl)) rfl (cg (sU 23 (L rfl)) rfl (cg (sU 23 (L rfl)) rfl (c (OpJ.pickT (L rfl) (q 23) (Opd.bool true)) rfl cn))))))))))))))))))) ?_
     exact hjj35 _ h _ _ (mp [] _ _ hB)
    ·replace h := ite_f hg38 h
     obtain ⟨r39, hr39, h⟩ := bindS h
     refine rg (c (fo 1004 0 [0] hN underlying46 0 tyS42 (q 4)) rfl (c (la hN 46 tyS42 (q 13)) rfl (cg (cf hB fnOk42 (addr_Valid_ac x29.fFrom r37 hr37) (L rfl) (OpdL.cons (q 14) OpdL.nil)) rfl (c (OpJ.not (L rfl) (q 15)) rfl (c (OpJ.val (v' := .d (.bool false)) (by rw [hg38] <;> rfl) (mv hN (q 16))) rfl (c (gd 17 (fo 1004 3 [1] hN underlying46 3 tyS42 (q 4))) rfl (c (gd 17 (la hN 46 tyS42 (q 18))) rfl (cg (gd 17 (cf hB fnOk42 (addr_Valid_ac x29.fTo r39 hr39) (L rfl) (OpdL.cons (q 19) OpdL.nil))) rfl (c (gd 17 (OpJ.not (L rfl) (q 20))) rfl (c (OpJ.pickF (L rfl) (q 17) (q 21)) rfl (c (mv hN (q 22)) rfl (c (oq hN 23 (fo 1004 0 [0] hN underlying46 0 tyS42 (q 4)) (OptL.keep (by rfl) OptL.nil) (GuardV.plain _)) rfl (c (oq hN 23 (fo 1004 0 [0, 0] hN underlying42 0 tyS4 (q 24)) (OptL.opt OptL.nil) (GuardV.plain _)) rfl (c (oq hN 23 (lb hN 46 _ _ tyS4 (At.dst1 (by rfl) (by rfl) (ad _) (by first | rfl | omega)) (q 25)) (OptL.opt OptL.nil) (GuardV.plain _)) rfl (c (oq hN 23 (fo 1004 3 [1] hN underlying46 3 tyS42 (q 4)) (OptL.keep (by rfl) OptL.nil) (GuardV.plain _)) rfl (c (oq hN 23 (fo 1004 3 [1, 0] hN underlying42 0 tyS4 (q 27)) (OptL.opt OptL.nil) (GuardV.plain _)) rfl (c (oq hN 23 (lb hN 46 _ _ tyS4 (At.dst1 (by rfl) (by rfl) (ad _) (by first | rfl | omega)) (q 28)) (OptL.opt OptL.nil) (GuardV.plain _)) rfl (c (oq hN 23 (OpJ.neqB underlying4 (L rfl) (q 26) (q 29)) (OptL.opt (OptL.opt OptL.nil)) (GuardV.plain _)) rfl (c (OpJ.pickOr rfl (L rfl) (q 23) (q 30)) rfl cn))))))))))))))))))) ?_
     exact hjj35 _ h _ _ (mp [] _ _ hB)
  ·replace h := ite_f hg28 h
   apply AWp.exit
   apply seqQ_e
   obtain rfl := Option.some.inj h
   exact ⟨(fun hc => by cases hc), rfl, (mp [] _ _ hB)⟩
 ·rcases x40 with _ | _
  ·obtain ⟨rfl, hmat⟩ := hR
   apply blkQ_r
   apply seqQ_r
   obtain rfl := Option.some.inj h
   exact ⟨.inl rfl, _, _, (Mat.trans hmat (mp [] [(2, (bo false))] [(500, some (.know (globF 0 [50, 52, 133]))), (501, some (.know (globF 1 [71, 134, 135])))] hB)), [(bo false)], (Res.tmp (by rfl) (by rfl) Res.nil), rfl, by rfl, by rfl, by rfl⟩
  ·obtain ⟨rfl, hmat⟩ := hR
   apply blkQ_hit
   apply seqQ_n
   refine AWp.ghost hmat ?_
   apply AWp.seq
   obtain ⟨r42, hr42, h⟩ := bindS h
   refine sr (c (fo 1001 1 [1] hN underlying25 1 tyS23 (q 1)) rfl (c (la hN 25 tyS23 (q 33)) rfl (cg (cf hB fnOk43 (slices_ContainsFunc_ac a0.fASNs r42 hr42) (L rfl) (OpdL.cons (q 34) (OpdL.cons (Opd.func 44) OpdL.nil))) rfl cn))) ?_
   refine AWp.cond rfl (fun hg43 => ?_) (fun hg43 => ?_)
   ·replace h := ite_t hg43 h
    refine sr (c (OpJ.assign (L rfl) (Opd.bool false)) rfl cn) ?_
    apply AWp.ret
    apply seqQ_r
    obtain rfl := Option.some.inj h
    exact ⟨.inl rfl, _, _, (kp [(2, _)] [(500, some _), (501, some _)] hB rfl rfl (by rfl)), [(bo false)], (Res.tmp (by rfl) (by rfl) Res.nil), rfl, by rfl, by rfl, by rfl⟩
   ·replace h := ite_f hg43 h
    apply AWp.skip
    apply seqQ_n
    obtain ⟨r44, hr44, h⟩ := bindS h
    refine sr (c (lb hN 25 _ _ tyS25 (At.here _) (q 1)) rfl (cg (cf hB fnOk29 (resource_of_ac a0 r44 hr44) (L rfl) (OpdL.cons (q 36) OpdL.nil)) rfl (cg (OpJ.alloc hB tyZ69 (nm := 1005) (by decide) (L rfl)) rfl (cg (sB tyS69 (q 5) (q 37)) rfl cn)))) ?_
    refine gh [(1, _), (5, _)] [(500, some _), (501, some _), (1001, some _), (1005, some _)] hB rfl rfl (by rfl) ?_
    apply AWp.seq
    refine AWp.cut h (fun m49 : Bool => ([(2, (bo m49))] : EL)) (fun m49 : Bool => ([(500, some (.know (globF 0 [50, 52, 133]))), (501, some (.know (globF 1 [71, 134, 135])))] : OL)) (fun m49 h E' O' hmat => ?_) (fun j50 hjj50 h => ?_)
    ·apply seqQ_n
     refine AWp.ghost hmat ?_
     apply AWp.ret
     obtain rfl := Option.some.inj h
     exact ⟨.inl rfl, _, _, (kp [(2, _)] [(500, some _), (501, some _)] hB rfl rfl (by rfl)), [(bo m49)], (Res.tmp (by rfl) (by rfl) Res.nil), rfl, by rfl, by rfl, by rfl⟩
    ·rcases Bool.eq_false_or_eq_true ((decide ((a0.fAddrs.length : Int) ≤ (256 : Int))) && (decide ((a0.fASNs.length : Int) ≤ (256 : Int)))) with hg51 | hg51
     ·replace h := ite_t hg51 h
      obtain ⟨r52, hr52, h⟩ := bindS h
      rcases Bool.eq_false_or_eq_true r52 with hg53 | hg53
      ·replace h := ite_t hg53 h
       obtain ⟨r54, hr54, h⟩ := bindS h
       refine rg (c (fo 1001 0 [0] hN underlying25 0 tyS22 (q 1)) rfl (c (la hN 25 tyS22 (q 38)) rfl (c (OpJ.val (v' := (i6 (a0.fAddrs.length : Int))) (by simp) (OpJ.lenD underlying22 (L rfl) (q 39))) rfl (c (OpJ.leq (L rfl) (q 40) (Opd.int .i64 (256))) rfl (c (mv hN (q 41)) rfl (c (oq hN 42 (fo 1001 1 [1] hN underlying25 1 tyS23 (q 1)) (OptL.keep (by rfl) OptL.nil) (GuardV.plain _)) rfl (c (oq hN 42 (la hN 25 tyS23 (q 43)) (OptL.opt OptL.nil) (GuardV.plain _)) rfl (c (oq hN 42 (OpJ.val (v' := (i6 (a0.fASNs.length : Int))) (by simp) (OpJ.lenD underlying23 (L rfl) (q 44))) (OptL.opt OptL.nil) (GuardV.plain _)) rfl (c (oq hN 42 (OpJ.leq (L rfl) (q 45) (Opd.int .i64 (256))) (OptL.opt OptL.nil) (GuardV.plain _)) rfl (c (OpJ.pickAnd rfl (L rfl) (q 42) (q 46)) rfl (c (OpJ.val (v' := .d (.bool true)) (by rw [hg51] <;> rfl) (mv hN (q 47))) rfl (cg (gd 48 (OpJ.loadG (nm := 500) [50, 52, 133] tyS73 rfl (L rfl))) rfl (c (gd 48 (fo 1005 0 [0] hN underlying69 0 tyS66 (q 5))) rfl (c (gd 48 (la hN 69 tyS66 (q 50))) rfl (cg (gd 48 (cf hB fnOk46 (resource_order_valid_ac r44.faddrs r52 hr52) (L rfl) (OpdL.cons (q 49) (OpdL.cons (q 51) OpdL.nil)))) rfl (c (OpJ.pickT (L rfl) (q 48) (q 52)) rfl (c (OpJ.val (v' := .d (.bool true)) (by rw [hg53] <;> rfl) (mv hN (q 53))) rfl (cg (gd 54 (OpJ.loadG (nm := 501) [71, 134, 135] tyS77 rfl (L rfl))) rfl (c (gd 54 (fo 1005 1 [1] hN underlying69 1 tyS67 (q 5))) rfl (c (gd 54 (la hN 69 tyS67 (q 56))) rfl (cg (gd 54 (cf hB fnOk47 (resource_order_valid_2_ac r44.fasns r54 hr54) (L rfl) (OpdL.cons (q 55) (OpdL.cons (q 57) OpdL.nil)))) rfl (c (OpJ.pickT (L rfl) (q 54) (q 58)) rfl (c (OpJ.assign (L rfl) (q 59)) rfl cn))))))))))))))))))))))) ?_
       exact hjj50 _ h _ _ (mp [] _ _ hB)
      ·replace h := ite_f hg53 h
       refine rg (c (fo 1001 0 [0] hN underlying25 0 tyS22 (q 1)) rfl (c (la hN 25 tyS22 (q 38)) rfl (c (OpJ.val (v' := (i6 (a0.fAddrs.length : Int))) (by simp) (OpJ.lenD underlying22 (L rfl) (q 39))) rfl (c (OpJ.leq (L rfl) (q 40) (Opd.int .i64 (256))) rfl (c (mv hN (q 41)) rfl (c (oq hN 42 (fo 1001 1 [1] hN underlying25 1 tyS23 (q 1)) (OptL.keep (by rfl) OptL.nil) (GuardV.plain _)) rfl (c (oq hN 42 (la hN 25 tyS23 (q 43)) (OptL.opt OptL.nil) (GuardV.plain _)) rfl (c (oq hN 42 (OpJ.val (v' := (i6 (a0.fASNs.length : Int))) (by simp) (OpJ.lenD underlying23 (L rfl) (q 44))) (OptL.opt OptL.nil) (GuardV.plain _)) rfl (c (oq hN 42 (OpJ.leq (L rfl) (q 45) (Opd.int .i64 (256))) (OptL.opt OptL.nil) (GuardV.plain _)) rfl (c (OpJ.pickAnd rfl (L rfl) (q 42) (q 46)) rfl (c (OpJ.val (v' := .d (.bool true)) (by rw [hg51] <;> rfl) (mv hN (q 47))) rfl (cg (gd 48 (OpJ.loadG (nm := 500) [50, 52, 133] tyS73 rfl (L rfl))) rfl (c (gd 48 (fo 1005 0 [0] hN underlying69 0 tyS66 (q 5))) rfl (c (gd 48 (la hN 69 tyS66 (q 50))) rfl (cg (gd 48 (cf hB fnOk46 (resource_order_valid_ac r44.faddrs r52 hr52) (L rfl) (OpdL.cons (q 49) (OpdL.cons (q 51) OpdL.nil)))) rfl (c (OpJ.pickT (L rfl) (q 48) (q 52)) rfl (c (OpJ.val (v' := .d (.bool false)) (by rw [hg53] <;> rfl) (mv hN (q 53))) rfl (cg (sU 54 (L rfl)) rfl (cg (sU 54 (L rfl)) rfl (cg (sU 54 (L rfl)) rfl (cg (sU 54 (L rfl)) rfl (c (OpJ.pickF (L rfl) (q 54) (Opd.bool false)) rfl (c (OpJ.assign (L rfl) (q 59)) rfl cn))))))))))))))))))))))) ?_
       exact hjj50 _ h _ _ (mp [] _ _ hB)
     ·replace h := ite_f hg51 h
      refine rg (c (fo 1001 0 [0] hN underlying25 0 tyS22 (q 1)) rfl (c (la hN 25 tyS22 (q 38)) rfl (c (OpJ.val (v' := (i6 (a0.fAddrs.length : Int))) (by simp) (OpJ.lenD underlying22 (L rfl) (q 39))) rfl (c (OpJ.leq (L rfl) (q 40) (Opd.int .i64 (256))) rfl (c (mv hN (q 41)) rfl (c (oq hN 42 (fo 1001 1 [1] hN underlying25 1 tyS23 (q 1)) (OptL.keep (by rfl) OptL.nil) (GuardV.plain _)) rfl (c (oq hN 42 (la hN 25 tyS23 (q 43)) (OptL.opt OptL.nil) (GuardV.plain _)) rfl (c (oq hN 42 (OpJ.val (v' := (i6 (a0.fASNs.length : Int))) (by simp) (OpJ.lenD underlying23 (L rfl) (q 44))) (OptL.opt OptL.nil) (GuardV.plain _)) rfl (c (oq hN 42 (OpJ.leq (L rfl) (q 45) (Opd.int .i64 (256))) (OptL.opt OptL.nil) (GuardV.plain _)) rfl (c (OpJ.pickAnd rfl (L rfl) (q 42) (q 46)) rfl (c (OpJ.val (v' := .d (.bool false)) (by rw [hg51] <;> rfl) (mv hN (q 47))) rfl (cg (sU 48 (L rfl)) rfl (cg (sU 48 (L rfl)) rfl (cg (sU 48 (L rfl)) rfl (cg (sU 48 (L rfl)) rfl (c (OpJ.pickF (L rfl) (q 48) (Opd.bool false)) rfl (c (mv hN (q 53)) rfl (cg (sU 54 (L rfl)) rfl (cg (sU 54 (L rfl)) rfl (cg (sU 54 (L rfl)) rfl (cg (sU 54 (L rfl)) rfl (c (OpJ.pickF (L rfl) (q 54) (Opd.bool false)) rfl (c (OpJ.assign (L rfl) (q 59)) rfl cn))))))))))))))))))))))) ?_
      exact hjj50 _ h _ _ (mp [] _ _ hB)
noncomputable def prefix_width (a0 : api_Addr) : Option (Int) :=
 (if a0.fV6 = true then
 some (128 : Int)
 else
 some (32 : Int))
theorem prefix_width_ac (a0 : api_Addr) (r : Int) (h : prefix_width a0 = some r) : AC Tryz.prog 77 [(.d (e_api_Addr a0))] [] (.d (.int .i64 r)) [] := by
 refine AC.of_code2 Tryz.func77 rfl rfl (Nat.le_of_ble_eq_true (by rfl)) fun B hB hN => ?_
 delta prefix_width at h
 refine sr (cg (OpJ.box hB (nm := 1001) (by decide) (by simp) rfl (ltN hN rfl) (q 0)) rfl (c (OpJ.assign (ltN hN rfl) (Opd.int .i64 (0))) rfl cn)) ?_
 apply AWp.seq
 refine sr (c (fo 1001 0 [0] hN underlying42 0 tyS4 (q 1)) rfl (c (la hN 42 tyS4 (q 3)) rfl cn)) ?_
 refine AWp.cond rfl (fun hg1 => ?_) (fun hg1 => ?_)
 ·replace h := ite_t hg1 h
  refine sr (c (OpJ.assign (ltN hN rfl) (Opd.int .i64 (128))) rfl cn) ?_
  apply AWp.ret
  apply seqQ_r
  obtain rfl := Option.some.inj h
  exact ⟨.inl rfl, _, _, (kp [(2, _)] [] hB rfl rfl (by rfl)), [(i6 (128 : Int))], (Res.tmp (by rfl) (by rfl) Res.nil), rfl, by rfl, by rfl, by rfl⟩
 ·replace h := ite_f hg1 h
  apply AWp.skip
  apply seqQ_n
  refine sr (c (OpJ.assign (ltN hN rfl) (Opd.int .i64 (32))) rfl cn) ?_
  apply AWp.ret
  obtain rfl := Option.some.inj h
  exact ⟨.inl rfl, _, _, (kp [(2, _)] [] hB rfl rfl (by rfl)), [(i6 (32 : Int))], (Res.tmp (by rfl) (by rfl) Res.nil), rfl, by rfl, by rfl, by rfl⟩
noncomputable def prefix_masks (a0 : Int) : Option (Int × Int) :=
 (if (decide ((64 : Int) < a0)) = true then
 some ((IntKind.u64.wrap ((shlI .u64 (1 : Int) (IntKind.u64.wrap (w64 (a0 - (64 : Int))))) - (1 : Int))), (18446744073709551615 : Int))
 else
 some ((0 : Int), (IntKind.u64.wrap ((shlI .u64 (1 : Int) (IntKind.u64.wrap a0)) - (1 : Int)))))
theorem prefix_masks_ac (a0 : Int) (r : Int × Int) (h : prefix_masks a0 = some r) : AC Tryz.prog 76 [(.d (.int .i64 a0))] [] (.tup [(.d (.int .u64 r.1)), (.d (.int .u64 r.2))]) [] := by
 refine AC.of_code2 Tryz.func76 rfl rfl (Nat.le_of_ble_eq_true (by rfl)) fun B hB hN => ?_
 have L {d : Nat} (h : Nat.blt d Tryz.f76.ntmps = true) : d < B.N := ltN hN h
 delta prefix_masks at h
 refine sr (c (OpJ.assign (L rfl) (Opd.int .u64 (0))) rfl (c (OpJ.assign (L rfl) (Opd.int .u64 (0))) rfl cn)) ?_
 apply AWp.seq
 refine sr (c (mv hN (q 0)) rfl (c (OpJ.gtr (L rfl) (q 4) (Opd.int .i64 (64))) rfl cn)) ?_
 refine AWp.cond rfl (fun hg1 => ?_) (fun hg1 => ?_)
 ·replace h := ite_t hg1 h
  refine sr (c (mv hN (q 0)) rfl (c (sub6 (L rfl) (q 6) (Opd.int .i64 (64))) rfl (c (OpJ.conv underlying3 underlying90 (L rfl) (q 7)) rfl (c (OpJ.shl (L rfl) (Opd.int .u64 (1)) (q 8) (wrap_nonneg rfl _)) rfl (c (OpJ.sub (L rfl) (q 9) (Opd.int .u64 (1))) rfl (c (OpJ.assign (L rfl) (q 10)) rfl (c (OpJ.assign (L rfl) (Opd.int .u64 (18446744073709551615))) rfl cn))))))) ?_
  apply AWp.ret
  apply seqQ_r
  obtain rfl := Option.some.inj h
  exact ⟨.inl rfl, _, _, (kp [(2, _), (3, _)] [] hB rfl rfl (by rfl)), [(.d (.int .u64 (IntKind.u64.wrap ((shlI .u64 (1 : Int) (IntKind.u64.wrap (w64 (a0 - (64 : Int))))) - (1 : Int))))), (.d (.int .u64 (18446744073709551615 : Int)))], (Res.tmp (by rfl) (by rfl) (Res.tmp (by rfl) (by rfl) Res.nil)), rfl, by rfl, by rfl, by rfl⟩
 ·replace h := ite_f hg1 h
  apply AWp.skip
  apply seqQ_n
  refine sr (c (mv hN (q 0)) rfl (c (OpJ.conv underlying3 underlying90 (L rfl) (q 11)) rfl (c (OpJ.shl (L rfl) (Opd.int .u64 (1)) (q 12) (wrap_nonneg rfl _)) rfl (c (OpJ.sub (L rfl) (q 13) (Opd.int .u64 (1))) rfl (c (OpJ.assign (L rfl) (Opd.int .u64 (0))) rfl (c (OpJ.assign (L rfl) (q 14)) rfl cn)))))) ?_
  apply AWp.ret
  obtain rfl := Option.some.inj h
  exact ⟨.inl rfl, _, _, (kp [(2, _), (3, _)] [] hB rfl rfl (by rfl)), [(.d (.int .u64 0)), (.d (.int .u64 (IntKind.u64.wrap ((shlI .u64 (1 : Int) (IntKind.u64.wrap a0)) - (1 : Int)))))], (Res.tmp (by rfl) (by rfl) (Res.tmp (by rfl) (by rfl) Res.nil)), rfl, by rfl, by rfl, by rfl⟩
noncomputable def prefix_first (a0 : api_Addr) (a1 : Int) : Option (api_Addr) :=
 (prefix_width a0).bind fun r1 =>
 (prefix_masks (w64 (r1 - a1))).bind fun r2 =>
 some (api_Addr.mk a0.fV6 (bitI .andNot .u64 a0.fHi r2.1) (bitI .andNot .u64 a0.fLo r2.2))
theorem prefix_first_ac (a0 : api_Addr) (a1 : Int) (r : api_Addr) (h : prefix_first a0 a1 = some r) : AC Tryz.prog 87 [(.d (e_api_Addr a0)), (.d (.int .i64 a1))] [] (.d (e_api_Addr r)) [] := by
 refine AC.of_code2 Tryz.func87 rfl rfl (Nat.le_of_ble_eq_true (by rfl)) fun B hB hN => ?_
 delta prefix_first at h
 refine sr (cg (OpJ.box hB (nm := 1002) (by decide) (by simp) rfl (ltN hN rfl) (q 0)) rfl (cg (OpJ.alloc hB tyZ42 (nm := 1004) (by decide) (ltN hN rfl)) rfl cn)) ?_
 obtain ⟨r1, hr1, h⟩ := bindS h
 obtain ⟨r2, hr2, h⟩ := bindS h
 refine sr (c (lb hN 42 _ _ tyS42 (At.here _) (q 2)) rfl (cg (OpJ.callFn hB fnOk77 (prefix_width_ac a0 r1 hr1) [] (by kernel_rfl) (ltN hN rfl) (by kernel_rfl) (OpdL.cons (q 8) OpdL.nil)) rfl (c (mv hN (q 1)) rfl (c (sub6 (ltN hN rfl) (q 9) (q 10)) rfl (cg (OpJ.callFn hB fnOk76 (prefix_masks_ac (w64 (r1 - a1)) r2 hr2) [] (by kernel_rfl) (ltN hN rfl) (by kernel_rfl) (OpdL.cons (q 11) OpdL.nil)) rfl (c (mv hN (q 12)) rfl (c (OpJ.extract (by rfl) rfl (ltN hN rfl) (q 7)) rfl (c (OpJ.extract (by rfl) rfl (ltN hN rfl) (q 7)) rfl (c (OpJ.assign (ltN hN rfl) (q 13)) rfl (c (OpJ.assign (ltN hN rfl) (q 14)) rfl cn)))))))))) ?_
 refine sr (c (fo 1002 1 [1] hN underlying42 1 tyS40 (q 2)) rfl (c (la hN 42 tyS40 (q 15)) rfl (c (mv hN (q 5)) rfl (c (OpJ.bits (.inr (.inr (.inr rfl))) (ltN hN rfl) (q 16) (q 17)) rfl (c (fo 1002 1 [1] hN underlying42 1 tyS40 (q 2)) rfl (cg (OpJ.storeB tyS40 (SetAt.dst1 (by rfl) (by rfl) (SetAt.here _ _) (by rfl) (by rfl) (by first | rfl | omega)) (by rfl) (by rfl) (by simp) rfl (q 19) (q 18)) rfl cn)))))) ?_
 refine sr (c (fo 1002 2 [2] hN underlying42 2 tyS40 (q 2)) rfl (c (la hN 42 tyS40 (q 20)) rfl (c (mv hN (q 6)) rfl (c (OpJ.bits (.inr (.inr (.inr rfl))) (ltN hN rfl) (q 21) (q 22)) rfl (c (fo 1002 2 [2] hN underlying42 2 tyS40 (q 2)) rfl (cg (OpJ.storeB tyS40 (SetAt.dst1 (by rfl) (by rfl) (SetAt.here _ _) (by rfl) (by rfl) (by first | rfl | omega)) (by rfl) (by rfl) (by simp) rfl (q 24) (q 23)) rfl cn)))))) ?_
 refine sr (c (lb hN 42 _ _ tyS42 (At.here _) (q 2)) rfl (cg (sB tyS42 (q 4) (q 25)) rfl cn)) ?_
 apply AWp.ret
 obtain rfl := Option.some.inj h
 exact ⟨.inl rfl, _, _, (kp [(4, _)] [(1004, some _)] hB rfl rfl (by rfl)), [(.d (.st [(.bool a0.fV6), (.int .u64 (bitI .andNot .u64 a0.fHi r2.1)), (.int .u64 (bitI .andNot .u64 a0.fLo r2.2))]))], (Res.cell (c := (.d (.st [(.bool a0.fV6), (.int .u64 (bitI .andNot .u64 a0.fHi r2.1)), (.int .u64 (bitI .andNot .u64 a0.fLo r2.2))]))) (by rfl) (by rfl) tyS42 (by rfl) (by rfl) (by rfl) Res.nil), rfl, by rfl, by rfl, by rfl⟩
noncomputable def prefix_Make (a0 : api_Addr) (a1 : Int) : Option (api_Prefix × Int) :=
 (addr_Valid a0).bind fun r1 =>
 (if (!r1) = true then
 some ((api_Prefix.mk (api_Addr.mk false (0 : Int) (0 : Int)) (0 : Int)), (1 : Int))
 else
 jn (fun m5 : Bool =>
 (if m5 = true then
 some ((api_Prefix.mk (api_Addr.mk false (0 : Int) (0 : Int)) (0 : Int)), (9 : Int))
 else
 (prefix_first a0 a1).bind fun r8 =>
 some ((api_Prefix.mk r8 a1), (0 : Int)))) (fun j6 =>
 (if (decide (a1 < (0 : Int))) = true then
 j6 true
 else
 (prefix_width a0).bind fun r10 =>
 j6 (decide (r10 < a1)))))
theorem prefix_Make_ac (a0 : api_Addr) (a1 : Int) (r : api_Prefix × Int) (h : prefix_Make a0 a1 = some r) : AC Tryz.prog 74 [(.d (e_api_Addr a0)), (.d (.int .i64 a1))] [] (.tup [(.d (e_api_Prefix r.1)), (.d (.int .i64 r.2))]) [] := by
 refine AC.of_code2 Tryz.func74 rfl rfl (Nat.le_of_ble_eq_true (by rfl)) fun B hB hN => ?_
 have L {d : Nat} (h : Nat.blt d Tryz.f74.ntmps = true) : d < B.N := ltN hN h
 delta prefix_Make at h
 refine sr (cg (OpJ.box hB (nm := 1002) (by decide) (by simp) rfl (L rfl) (q 0)) rfl (cg (OpJ.alloc hB tyZ56 (nm := 1004) (by decide) (L rfl)) rfl (c (OpJ.assign (L rfl) (Opd.int .i64 (0))) rfl cn))) ?_
 apply AWp.seq
 apply AWp.block
 obtain ⟨r1, hr1, h⟩ := bindS h
 refine sr (c (lb hN 42 _ _ tyS42 (At.here _) (q 2)) rfl (cg (cf hB fnOk42 (addr_Valid_ac a0 r1 hr1) (L rfl) (OpdL.cons (q 7) OpdL.nil)) rfl (c (OpJ.not (L rfl) (q 8)) rfl (c (OpJ.assign (L rfl) (q 9)) rfl cn)))) ?_
 refine AWp.cond rfl (fun hg2 => ?_) (fun hg2 => ?_)
 ·replace h := ite_t hg2 h
  refine sr (c (OpJ.coe (v := (.st [(.d (.st [(.bool false), (.int .u64 0), (.int .u64 0)])), (i6 0)])) (y := (.st [(.st [(.bool false), (.int .u64 0), (.int .u64 0)]), (.int .i64 0)])) (Co.st (CoL.cons (Co.d _) (CoL.cons (Co.d _) CoL.nil))) rfl (OpJ.build (places := [(0, 3), (3, 1)]) ⟨underlying56, fun w => by kernel_rfl⟩ tyZS56 Opds.nil (by kernel_rfl) (r := (.st [(.d (.st [(.bool false), (.int .u64 0), (.int .u64 0)])), (i6 0)])) (by rfl) (L rfl))) rfl (cg (sB tyS56 (q 4) (q 10)) rfl (c (OpJ.assign (L rfl) (Opd.int .i64 (1))) rfl cn))) ?_
  apply AWp.ret
  apply blkQ_r
  apply seqQ_r
  obtain rfl := Option.some.inj h
  exact ⟨.inl rfl, _, _, (kp [(4, _), (5, _)] [(1004, some _)] hB rfl rfl (by rfl)), [(.d (.st [(.st [(.bool false), (.int .u64 0), (.int .u64 0)]), (.int .i64 0)])), (i6 1)], (Res.cell (c := (.d (.st [(.st [(.bool false), (.int .u64 0), (.int .u64 0)]), (.int .i64 0)]))) (by rfl) (by rfl) tyS56 (by rfl) (by rfl) (by rfl) (Res.tmp (by rfl) (by rfl) Res.nil)), rfl, by rfl, by rfl, by rfl⟩
 ·replace h := ite_f hg2 h
  apply AWp.seq
  refine AWp.cut h (fun m5 : Bool => ([(1, (i6 a1)), (2, (pt 1002)), (4, (pt 1004)), (11, (bo m5))] : EL)) (fun m5 : Bool => ([(1002, bd 42 (e_api_Addr a0)), (1004, bd 56 (.st [(.st [(.bool false), (.int .u64 0), (.int .u64 0)]), (.int .i64 0)]))] : OL)) (fun m5 h E' O' hmat => ?_) (fun j6 hjj6 h => ?_)
  ·apply seqQ_n
   refine AWp.ghost hmat ?_
   refine AWp.cond rfl (fun hg7 => ?_) (fun hg7 => ?_)
   ·replace h := ite_t hg7 h
    refine sr (c (OpJ.coe (v := (.st [(.d (.st [(.bool false), (.int .u64 0), (.int .u64 0)])), (i6 0)])) (y := (.st [(.st [(.bool false), (.int .u64 0), (.int .u64 0)]), (.int .i64 0)])) (Co.st (CoL.cons (Co.d _) (CoL.cons (Co.d _) CoL.nil))) rfl (OpJ.build (places := [(0, 3), (3, 1)]) ⟨underlying56, fun w => by kernel_rfl⟩ tyZS56 Opds.nil (by kernel_rfl) (r := (.st [(.d (.st [(.bool false), (.int .u64 0), (.int .u64 0)])), (i6 0)])) (by rfl) (L rfl))) rfl (cg (sB tyS56 (q 4) (q 20)) rfl (c (OpJ.assign (L rfl) (Opd.int .i64 (9))) rfl cn))) ?_
    apply AWp.ret
    apply blkQ_r
    apply seqQ_r
    obtain rfl := Option.some.inj h
    exact ⟨.inl rfl, _, _, (kp [(4, _), (5, _)] [(1004, some _)] hB rfl rfl (by rfl)), [(.d (.st [(.st [(.bool false), (.int .u64 0), (.int .u64 0)]), (.int .i64 0)])), (i6 (9 : Int))], (Res.cell (c := (.d (.st [(.st [(.bool false), (.int .u64 0), (.int .u64 0)]), (.int .i64 0)]))) (by rfl) (by rfl) tyS56 (by rfl) (by rfl) (by rfl) (Res.tmp (by rfl) (by rfl) Res.nil)), rfl, by rfl, by rfl, by rfl⟩
   ·replace h := ite_f hg7 h
    apply AWp.skip
    apply blkQ_n
    apply seqQ_n
    obtain ⟨r8, hr8, h⟩ := bindS h
    refine sr (c (lb hN 42 _ _ tyS42 (At.here _) (q 2)) rfl (c (mv hN (q 1)) rfl (cg (cf hB fnOk87 (prefix_first_ac a0 a1 r8 hr8) (L rfl) (OpdL.cons (q 21) (OpdL.cons (q 22) OpdL.nil))) rfl (c (mv hN (q 1)) rfl (c (OpJ.coe (v := (.st [(.d (e_api_Addr r8)), (i6 a1)])) (y := (.st [(e_api_Addr r8), (.int .i64 a1)])) (Co.st (CoL.cons (Co.d _) (CoL.cons (Co.d _) CoL.nil))) rfl (OpJ.build (places := [(0, 3), (3, 1)]) ⟨underlying56, fun w => by kernel_rfl⟩ tyZS56 (Opds.cons (q 23) (Opds.cons (q 24) Opds.nil)) (by kernel_rfl) (r := (.st [(.d (e_api_Addr r8)), (i6 a1)])) (by rfl) (L rfl))) rfl (cg (sB tyS56 (q 4) (q 25)) rfl (c (OpJ.assign (L rfl) (Opd.int .i64 (0))) rfl cn))))))) ?_
    apply AWp.ret
    obtain rfl := Option.some.inj h
    exact ⟨.inl rfl, _, _, (kp [(4, _), (5, _)] [(1004, some _)] hB rfl rfl (by rfl)), [(.d (.st [(e_api_Addr r8), (.int .i64 a1)])), (i6 0)], (Res.cell (c := (.d (.st [(e_api_Addr r8), (.int .i64 a1)]))) (by rfl) (by rfl) tyS56 (by rfl) (by rfl) (by rfl) (Res.tmp (by rfl) (by rfl) Res.nil)), rfl, by rfl, by rfl, by rfl⟩
  ·rcases Bool.eq_false_or_eq_true (decide (a1 < (0 : Int))) with hg9 | hg9
   ·replace h := ite_t hg9 h
    refine rg (c (mv hN (q 1)) rfl (c (OpJ.lss (L rfl) (q 12) (Opd.int .i64 (0))) rfl (c (OpJ.val (v' := .d (.bool true)) (by rw [hg9] <;> rfl) (mv hN (q 13))) rfl (cg (sU 14 (L rfl)) rfl (cg (sU 14 (L rfl)) rfl (cg (sU 14 (L rfl)) rfl (cg (sU 14 (L rfl)) rfl (c (OpJ.pickT (L rfl) (q 14) (Opd.bool true)) rfl (c (OpJ.assign (L rfl) (q 19)) rfl cn))))))))) ?_
    exact hjj6 _ h _ _ (mp [] _ _ hB)
   ·replace h := ite_f hg9 h
    obtain ⟨r10, hr10, h⟩ := bindS h
    refine rg (c (mv hN (q 1)) rfl (c (OpJ.lss (L rfl) (q 12) (Opd.int .i64 (0))) rfl (c (OpJ.val (v' := .d (.bool false)) (by rw [hg9] <;> rfl) (mv hN (q 13))) rfl (c (gd 14 (mv hN (q 1))) rfl (c (gd 14 (lb hN 42 _ _ tyS42 (At.here _) (q 2))) rfl (cg (gd 14 (cf hB fnOk77 (prefix_width_ac a0 r10 hr10) (L rfl) (OpdL.cons (q 16) OpdL.nil))) rfl (c (gd 14 (OpJ.gtr (L rfl) (q 15) (q 17))) rfl (c (OpJ.pickF (L rfl) (q 14) (q 18)) rfl (c (OpJ.assign (L rfl) (q 19)) rfl cn))))))))) ?_
    exact hjj6 _ h _ _ (mp [] _ _ hB)
noncomputable def prefix_Valid (a0 : api_Prefix) : Option (Bool) :=
 jn (fun m7 : Bool =>
 some m7) (fun j8 =>
 (addr_Valid a0.fAddr).bind fun r9 =>
 (if (r9 && (decide ((0 : Int) ≤ a0.fLen))) = true then
 (prefix_width a0.fAddr).bind fun r11 =>
 (if (decide (a0.fLen ≤ r11)) = true then
 (prefix_first a0.fAddr a0.fLen).bind fun r13 =>
 j8 ((r13.fV6 == a0.fAddr.fV6) && ((r13.fHi == a0.fAddr.fHi) && ((r13.fLo == a0.fAddr.fLo) && true)))
 else
 j8 false)
 else
 j8 false))
theorem prefix_Valid_ac (a0 : api_Prefix) (r : Bool) (h : prefix_Valid a0 = some r) : AC Tryz.prog 75 [(.d (e_api_Prefix a0))] [] (.d (.bool r)) [] := by
 refine AC.of_code2 Tryz.func75 rfl rfl (Nat.le_of_ble_eq_true (by rfl)) fun B hB hN => ?_
 have L {d : Nat} (h : Nat.blt d Tryz.f75.ntmps = true) : d < B.N := ltN hN h
 delta prefix_Valid at h
 refine sr (cg (OpJ.box hB (nm := 1001) (by decide) (by simp) rfl (L rfl) (q 0)) rfl (c (OpJ.assign (L rfl) (Opd.bool false)) rfl cn)) ?_
 apply AWp.seq
 refine AWp.cut h (fun m7 : Bool => ([(2, (bo m7))] : EL)) (fun m7 : Bool => ([] : OL)) (fun m7 h E' O' hmat => ?_) (fun j8 hjj8 h => ?_)
 ·apply seqQ_n
  refine AWp.ghost hmat ?_
  apply AWp.ret
  obtain rfl := Option.some.inj h
  exact ⟨.inl rfl, _, _, (kp [(2, _)] [] hB rfl rfl (by rfl)), [(bo m7)], (Res.tmp (by rfl) (by rfl) Res.nil), rfl, by rfl, by rfl, by rfl⟩
 ·obtain ⟨r9, hr9, h⟩ := bindS h
  rcases Bool.eq_false_or_eq_true (r9 && (decide ((0 : Int) ≤ a0.fLen))) with hg10 | hg10
  ·replace h := ite_t hg10 h
   obtain ⟨r11, hr11, h⟩ := bindS h
   rcases Bool.eq_false_or_eq_true (decide (a0.fLen ≤ r11)) with hg12 | hg12
   ·replace h := ite_t hg12 h
    obtain ⟨r13, hr13, h⟩ := bindS h
    refine dr (c (fo 1001 0 [0] hN underlying56 0 tyS42 (q 1)) rfl (c (la hN 56 tyS42 (q 3)) rfl (cg (cf hB fnOk42 (addr_Valid_ac a0.fAddr r9 hr9) (L rfl) (OpdL.cons (q 4) OpdL.nil)) rfl (c (mv hN (q 5)) rfl (c (oq hN 6 (fo 1001 3 [1] hN underlying56 3 tyS3 (q 1)) (OptL.keep (by rfl) OptL.nil) (GuardV.plain _)) rfl (c (oq hN 6 (la hN 56 tyS3 (q 7)) (OptL.opt OptL.nil) (GuardV.plain _)) rfl (c (oq hN 6 (OpJ.geq (L rfl) (q 8) (Opd.int .i64 (0))) (OptL.opt OptL.nil) (GuardV.plain _)) rfl (c (OpJ.pickAnd rfl (L rfl) (q 6) (q 9)) rfl (c (OpJ.val (v' := .d (.bool true)) (by rw [hg10] <;> rfl) (mv hN (q 10))) rfl (c (gd 11 (fo 1001 3 [1] hN underlying56 3 tyS3 (q 1))) rfl (c (gd 11 (la hN 56 tyS3 (q 12))) rfl (c (gd 11 (fo 1001 0 [0] hN underlying56 0 tyS42 (q 1))) rfl (c (gd 11 (la hN 56 tyS42 (q 14))) rfl (cg (gd 11 (cf hB fnOk77 (prefix_width_ac a0.fAddr r11 hr11) (L rfl) (OpdL.cons (q 15) OpdL.nil))) rfl (c (gd 11 (OpJ.leq (L rfl) (q 13) (q 16))) rfl (c (OpJ.pickT (L rfl) (q 11) (q 17)) rfl (c (OpJ.val (v' := .d (.bool true)) (by rw [hg12] <;> rfl) (mv hN (q 18))) rfl (c (gd 19 (fo 1001 0 [0] hN underlying56 0 tyS42 (q 1))) rfl (c (gd 19 (la hN 56 tyS42 (q 20))) rfl (c (gd 19 (fo 1001 3 [1] hN underlying56 3 tyS3 (q 1))) rfl (c (gd 19 (la hN 56 tyS3 (q 22))) rfl (cg (gd 19 (cf hB fnOk87 (prefix_first_ac a0.fAddr a0.fLen r13 hr13) (L rfl) (OpdL.cons (q 21) (OpdL.cons (q 23) OpdL.nil)))) rfl (c (gd 19 (fo 1001 0 [0] hN underlying56 0 tyS42 (q 1))) rfl (c (gd 19 (la hN 56 tyS42 (q 25))) rfl (c (gd 19 (OpJ.eqlD (h := 2) (FitE.st underlying42 rfl held42 (FitF.cons (x := (.bool r13.fV6)) (y := (.bool a0.fAddr.fV6)) (by decide) rfl tyS4 ⟨rfl, rfl⟩ ⟨rfl, rfl⟩ (FitE.bool (h := 0) r13.fV6 a0.fAddr.fV6 underlying4) (FitF.cons (x := (.int .u64 r13.fHi)) (y := (.int .u64 a0.fAddr.fHi)) (by decide) rfl tyS40 ⟨rfl, rfl⟩ ⟨rfl, rfl⟩ (FitE.int (h := 0) r13.fHi a0.fAddr.fHi underlying40) (FitF.cons (x := (.int .u64 r13.fLo)) (y := (.int .u64 a0.fAddr.fLo)) (by decide) rfl tyS40 ⟨rfl, rfl⟩ ⟨rfl, rfl⟩ (FitE.int (h := 0) r13.fLo a0.fAddr.fLo underlying40) FitF.nil)))) eqg42 ⟨rfl, rfl⟩ (by rfl) (L rfl) (q 24) (q 26))) rfl (c (OpJ.pickT (L rfl) (q 19) (q 27)) rfl (c (OpJ.assign (L rfl) (q 28)) rfl cn))))))))))))))))))))))))))) (by kernel_rfl) (by kernel_rfl) ?_
    exact hjj8 _ h _ _ (mp [] _ _ hB)
   ·replace h := ite_f hg12 h
    refine dr (c (fo 1001 0 [0] hN underlying56 0 tyS42 (q 1)) rfl (c (la hN 56 tyS42 (q 3)) rfl (cg (cf hB fnOk42 (addr_Valid_ac a0.fAddr r9 hr9) (L rfl) (OpdL.cons (q 4) OpdL.nil)) rfl (c (mv hN (q 5)) rfl (c (oq hN 6 (fo 1001 3 [1] hN underlying56 3 tyS3 (q 1)) (OptL.keep (by rfl) OptL.nil) (GuardV.plain _)) rfl (c (oq hN 6 (la hN 56 tyS3 (q 7)) (OptL.opt OptL.nil) (GuardV.plain _)) rfl (c (oq hN 6 (OpJ.geq (L rfl) (q 8) (Opd.int .i64 (0))) (OptL.opt OptL.nil) (GuardV.plain _)) rfl (c (OpJ.pickAnd rfl (L rfl) (q 6) (q 9)) rfl (c (OpJ.val (v' := .d (.bool true)) (by rw [hg10] <;> rfl) (mv hN (q 10))) rfl (c (gd 11 (fo 1001 3 [1] hN underlying56 3 tyS3 (q 1))) rfl (c (gd 11 (la hN 56 tyS3 (q 12))) rfl (c (gd 11 (fo 1001 0 [0] hN underlying56 0 tyS42 (q 1))) rfl (c (gd 11 (la hN 56 tyS42 (q 14))) rfl (cg (gd 11 (cf hB fnOk77 (prefix_width_ac a0.fAddr r11 hr11) (L rfl) (OpdL.cons (q 15) OpdL.nil))) rfl (c (gd 11 (OpJ.leq (L rfl) (q 13) (q 16))) rfl (c (OpJ.pickT (L rfl) (q 11) (q 17)) rfl (c (OpJ.val (v' := .d (.bool false)) (by rw [hg12] <;> rfl) (mv hN (q 18))) rfl (cg (sU 19 (L rfl)) rfl (cg (sU 19 (L rfl)) rfl (cg (sU 19 (L rfl)) rfl (cg (sU 19 (L rfl)) rfl (cg (sU 19 (L rfl)) rfl (cg (sU 19 (L rfl)) rfl (cg (sU 19 (L rfl)) rfl (cg (sU 19 (L rfl)) rfl (c (OpJ.pickF (L rfl) (q 19) (Opd.bool false)) rfl (c (OpJ.assign (L rfl) (q 28)) rfl cn))))))))))))))))))))))))))) (by kernel_rfl) (by kernel_rfl) ?_
    exact hjj8 _ h _ _ (mp [] _ _ hB)
  ·replace h := ite_f hg10 h
   refine dr (c (fo 1001 0 [0] hN underlying56 0 tyS42 (q 1)) rfl (c (la hN 56 tyS42 (q 3)) rfl (cg (cf hB fnOk42 (addr_Valid_ac a0.fAddr r9 hr9) (L rfl) (OpdL.cons (q 4) OpdL.nil)) rfl (c (mv hN (q 5)) rfl (c (oq hN 6 (fo 1001 3 [1] hN underlying56 3 tyS3 (q 1)) (OptL.keep (by rfl) OptL.nil) (GuardV.plain _)) rfl (c (oq hN 6 (la hN 56 tyS3 (q 7)) (OptL.opt OptL.nil) (GuardV.plain _)) rfl (c (oq hN 6 (OpJ.geq (L rfl) (q 8) (Opd.int .i64 (0))) (OptL.opt OptL.nil) (GuardV.plain _)) rfl (c (OpJ.pickAnd rfl (L rfl) (q 6) (q 9)) rfl (c (OpJ.val (v' := .d (.bool false)) (by rw [hg10] <;> rfl) (mv hN (q 10))) rfl (cg (sU 11 (L rfl)) rfl (cg (sU 11 (L rfl)) rfl (cg (sU 11 (L rfl)) rfl (cg (sU 11 (L rfl)) rfl (cg (sU 11 (L rfl)) rfl (cg (sU 11 (L rfl)) rfl (c (OpJ.pickF (L rfl) (q 11) (Opd.bool false)) rfl (c (mv hN (q 18)) rfl (cg (sU 19 (L rfl)) rfl (cg (sU 19 (L rfl)) rfl (cg (sU 19 (L rfl)) rfl (cg (sU 19 (L rfl)) rfl (cg (sU 19 (L rfl)) rfl (cg (sU 19 (L rfl)) rfl (cg (sU 19 (L rfl)) rfl (cg (sU 19 (L rfl)) rfl (c (OpJ.pickF (L rfl) (q 19) (Opd.bool false)) rfl (c (OpJ.assign (L rfl) (q 28)) rfl cn))))))))))))))))))))))))))) (by kernel_rfl) (by kernel_rfl) ?_
   exact hjj8 _ h _ _ (mp [] _ _ hB)
noncomputable def prefix_Last (a0 : api_Prefix) : Option (api_Addr) :=
 (prefix_Valid a0).bind fun r1 =>
 (if (!r1) = true then
 some (api_Addr.mk false (0 : Int) (0 : Int))
 else
 (prefix_width a0.fAddr).bind fun r3 =>
 (prefix_masks (w64 (r3 - a0.fLen))).bind fun r4 =>
 some (api_Addr.mk a0.fAddr.fV6 (bitI .or .u64 a0.fAddr.fHi r4.1) (bitI .or .u64 a0.fAddr.fLo r4.2)))
theorem prefix_Last_ac (a0 : api_Prefix) (r : api_Addr) (h : prefix_Last a0 = some r) : AC Tryz.prog 53 [(.d (e_api_Prefix a0))] [] (.d (e_api_Addr r)) [] := by
 refine AC.of_code2 Tryz.func53 rfl rfl (Nat.le_of_ble_eq_true (by rfl)) fun B hB hN => ?_
 have L {d : Nat} (h : Nat.blt d Tryz.f53.ntmps = true) : d < B.N := ltN hN h
 delta prefix_Last at h
 refine sr (cg (OpJ.box hB (nm := 1001) (by decide) (by simp) rfl (L rfl) (q 0)) rfl (cg (OpJ.alloc hB tyZ42 (nm := 1002) (by decide) (L rfl)) rfl cn)) ?_
 apply AWp.seq
 obtain ⟨r1, hr1, h⟩ := bindS h
 refine sr (c (lb hN 56 _ _ tyS56 (At.here _) (q 1)) rfl (cg (cf hB fnOk75 (prefix_Valid_ac a0 r1 hr1) (L rfl) (OpdL.cons (q 5) OpdL.nil)) rfl (c (OpJ.not (L rfl) (q 6)) rfl cn))) ?_
 refine AWp.cond rfl (fun hg2 => ?_) (fun hg2 => ?_)
 ·replace h := ite_t hg2 h
  refine sr (c (OpJ.coe (v := (.st [(bo false), (.d (.int .u64 0)), (.d (.int .u64 0))])) (y := (.st [(.bool false), (.int .u64 0), (.int .u64 0)])) (Co.st (CoL.cons (Co.d _) (CoL.cons (Co.d _) (CoL.cons (Co.d _) CoL.nil)))) rfl (OpJ.build (places := [(0, 1), (1, 1), (2, 1)]) ⟨underlying42, fun w => by kernel_rfl⟩ tyZS42 Opds.nil (by kernel_rfl) (r := (.st [(bo false), (.d (.int .u64 0)), (.d (.int .u64 0))])) (by rfl) (L rfl))) rfl (cg (sB tyS42 (q 2) (q 8)) rfl cn)) ?_
  apply AWp.ret
  apply seqQ_r
  obtain rfl := Option.some.inj h
  exact ⟨.inl rfl, _, _, (kp [(2, _)] [(1002, some _)] hB rfl rfl (by rfl)), [(.d (.st [(.bool false), (.int .u64 0), (.int .u64 0)]))], (Res.cell (c := (.d (.st [(.bool false), (.int .u64 0), (.int .u64 0)]))) (by rfl) (by rfl) tyS42 (by rfl) (by rfl) (by rfl) Res.nil), rfl, by rfl, by rfl, by rfl⟩
 ·replace h := ite_f hg2 h
  apply AWp.skip
  apply seqQ_n
  obtain ⟨r3, hr3, h⟩ := bindS h
  obtain ⟨r4, hr4, h⟩ := bindS h
  refine sd (c (fo 1001 0 [0] hN underlying56 0 tyS42 (q 1)) rfl (c (la hN 56 tyS42 (q 10)) rfl (cg (cf hB fnOk77 (prefix_width_ac a0.fAddr r3 hr3) (L rfl) (OpdL.cons (q 11) OpdL.nil)) rfl (c (fo 1001 3 [1] hN underlying56 3 tyS3 (q 1)) rfl (c (la hN 56 tyS3 (q 13)) rfl (c (sub6 (L rfl) (q 12) (q 14)) rfl (cg (cf hB fnOk76 (prefix_masks_ac (w64 (r3 - a0.fLen)) r4 hr4) (L rfl) (OpdL.cons (q 15) OpdL.nil)) rfl (c (mv hN (q 16)) rfl (c (OpJ.extract (by rfl) rfl (L rfl) (q 9)) rfl (c (OpJ.extract (by rfl) rfl (L rfl) (q 9)) rfl (c (OpJ.assign (L rfl) (q 17)) rfl (c (OpJ.assign (L rfl) (q 18)) rfl cn)))))))))))) (by kernel_rfl) (by kernel_rfl) ?_
  refine sr (c (fo 1001 0 [0] hN underlying56 0 tyS42 (q 1)) rfl (c (fo 1001 1 [0, 1] hN underlying42 1 tyS40 (q 19)) rfl (c (lb hN 56 _ _ tyS40 (At.dst1 (by rfl) (by rfl) (ad _) (by first | rfl | omega)) (q 20)) rfl (c (mv hN (q 3)) rfl (c (OpJ.bits (.inr (.inl rfl)) (L rfl) (q 21) (q 22)) rfl (c (fo 1001 0 [0] hN underlying56 0 tyS42 (q 1)) rfl (c (fo 1001 1 [0, 1] hN underlying42 1 tyS40 (q 24)) rfl (cg (OpJ.storeB tyS40 (SetAt.dst1 (by rfl) (by rfl) (SetAt.dst1 (by rfl) (by rfl) (SetAt.here _ _) (by rfl) (by rfl) (by first | rfl | omega)) (by rfl) (by rfl) (by first | rfl | omega)) (by rfl) (by rfl) (by simp) rfl (q 25) (q 23)) rfl cn)))))))) ?_
  refine sr (c (fo 1001 0 [0] hN underlying56 0 tyS42 (q 1)) rfl (c (fo 1001 2 [0, 2] hN underlying42 2 tyS40 (q 26)) rfl (c (lb hN 56 _ _ tyS40 (At.dst1 (by rfl) (by rfl) (ad _) (by first | rfl | omega)) (q 27)) rfl (c (mv hN (q 4)) rfl (c (OpJ.bits (.inr (.inl rfl)) (L rfl) (q 28) (q 29)) rfl (c (fo 1001 0 [0] hN underlying56 0 tyS42 (q 1)) rfl (c (fo 1001 2 [0, 2] hN underlying42 2 tyS40 (q 31)) rfl (cg (OpJ.storeB tyS40 (SetAt.dst1 (by rfl) (by rfl) (SetAt.dst1 (by rfl) (by rfl) (SetAt.here _ _) (by rfl) (by rfl) (by first | rfl | omega)) (by rfl) (by rfl) (by first | rfl | omega)) (by rfl) (by rfl) (by simp) rfl (q 32) (q 30)) rfl cn)))))))) ?_
  refine sr (c (fo 1001 0 [0] hN underlying56 0 tyS42 (q 1)) rfl (c (la hN 56 tyS42 (q 33)) rfl (cg (sB tyS42 (q 2) (q 34)) rfl cn))) ?_
  apply AWp.ret
  obtain rfl := Option.some.inj h
  exact ⟨.inl rfl, _, _, (kp [(2, _)] [(1002, some _)] hB rfl rfl (by rfl)), [(.d (.st [(.bool a0.fAddr.fV6), (.int .u64 (bitI .or .u64 a0.fAddr.fHi r4.1)), (.int .u64 (bitI .or .u64 a0.fAddr.fLo r4.2))]))], (Res.cell (c := (.d (.st [(.bool a0.fAddr.fV6), (.int .u64 (bitI .or .u64 a0.fAddr.fHi r4.1)), (.int .u64 (bitI .or .u64 a0.fAddr.fLo r4.2))]))) (by rfl) (by rfl) tyS42 (by rfl) (by rfl) (by rfl) Res.nil), rfl, by rfl, by rfl, by rfl⟩
noncomputable def resource_largest_L0 (a0 : api_Addr) (a1 : api_Addr) (s1 : Int) : Option (((api_Prefix)) ⊕ (Int)) :=
 (prefix_Make a0 s1).bind fun r27 =>
 jn (fun m32 : Bool =>
 (if m32 = true then
 some (.inl r27.1)
 else
 some (.inr (w64 (s1 + (1 : Int)))))) (fun j33 =>
 (if (r27.2 != (0 : Int)) = true then
 j33 true
 else
 (if ((r27.1.fAddr.fV6 == a0.fV6) && ((r27.1.fAddr.fHi == a0.fHi) && ((r27.1.fAddr.fLo == a0.fLo) && true))) = true then
 (prefix_Last r27.1).bind fun r37 =>
 (addr_Cmp r37 a1).bind fun r38 =>
 j33 (decide (r38 ≤ (0 : Int)))
 else
 j33 false)))
noncomputable def resource_largest (a0 : api_Addr) (a1 : api_Addr) : Option (api_Prefix) :=
 (loop (resource_largest_L0 a0 a1) (0 : Int)).bind fun p26 =>
 some p26
theorem resource_largest_ac (a0 : api_Addr) (a1 : api_Addr) (r : api_Prefix) (h : resource_largest a0 a1 = some r) : AC Tryz.prog 51 [(.d (e_api_Addr a0)), (.d (e_api_Addr a1))] [] (.d (e_api_Prefix r)) [] := by
 refine AC.of_code2 Tryz.func51 rfl rfl (Nat.le_of_ble_eq_true (by rfl)) fun B hB hN => ?_
 have L {d : Nat} (h : Nat.blt d Tryz.f51.ntmps = true) : d < B.N := ltN hN h
 delta resource_largest at h
 refine sr (cg (OpJ.box hB (nm := 1002) (by decide) (by simp) rfl (L rfl) (q 0)) rfl (cg (OpJ.box hB (nm := 1003) (by decide) (by simp) rfl (L rfl) (q 1)) rfl (cg (OpJ.alloc hB tyZ56 (nm := 1004) (by decide) (L rfl)) rfl cn))) ?_
 refine sr (c (OpJ.assign (L rfl) (Opd.int .i64 (0))) rfl cn) ?_
 apply AWp.block
 obtain ⟨p26, hx40, h⟩ := bindS h
 refine lg (resource_largest_L0 a0 a1) (fun s1 : Int => ([(2, (pt 1002)), (3, (pt 1003)), (4, (pt 1004)), (5, (i6 s1))] : EL)) (fun s1 : Int => ([(1002, bd 42 (e_api_Addr a0)), (1003, bd 42 (e_api_Addr a1)), (1004, bd 56 (.st [(.st [(.bool false), (.int .u64 0), (.int .u64 0)]), (.int .i64 0)]))] : OL)) (fun (p26 : (api_Prefix)) e E' O' => e = .ret ∧ Mat B E' O' ([(4, (pt 1004))] : EL) ([(1004, bd 56 (e_api_Prefix p26))] : OL)) hx40 (mp [] _ _ hB) (fun s1 y h => ?_) (fun e E' O' hR => ?_)
 ·unfold resource_largest_L0 at h
  apply AWp.seq
  apply AWp.block
  obtain ⟨r27, hr27, h⟩ := bindS h
  refine sr (c (lb hN 42 _ _ tyS42 (At.here _) (q 2)) rfl (c (mv hN (q 5)) rfl (cg (cf hB fnOk74 (prefix_Make_ac a0 s1 r27 hr27) (L rfl) (OpdL.cons (q 11) (OpdL.cons (q 12) OpdL.nil))) rfl (c (mv hN (q 13)) rfl (c (OpJ.extract (by rfl) rfl (L rfl) (q 10)) rfl (c (OpJ.extract (by rfl) rfl (L rfl) (q 10)) rfl (cg (OpJ.alloc hB tyZ56 (nm := 1006) (by decide) (L rfl)) rfl (cg (sB tyS56 (q 6) (q 14)) rfl (c (OpJ.assign (L rfl) (q 15)) rfl cn))))))))) ?_
  apply AWp.seq
  refine AWp.cut h (fun m32 : Bool => ([(2, (pt 1002)), (3, (pt 1003)), (4, (pt 1004)), (5, (i6 s1)), (6, (pt 1006)), (30, (bo m32))] : EL)) (fun m32 : Bool => ([(1002, bd 42 (e_api_Addr a0)), (1003, bd 42 (e_api_Addr a1)), (1004, bd 56 (.st [(.st [(.bool false), (.int .u64 0), (.int .u64 0)]), (.int .i64 0)])), (1006, bd 56 (e_api_Prefix r27.1))] : OL)) (fun m32 h E' O' hmat => ?_) (fun j33 hjj33 h => ?_)
  ·apply seqQ_n
   refine AWp.ghost hmat ?_
   refine AWp.cond rfl (fun hg34 => ?_) (fun hg34 => ?_)
   ·replace h := ite_t hg34 h
    refine sr (c (lb hN 56 _ _ tyS56 (At.here _) (q 6)) rfl (cg (sB tyS56 (q 4) (q 31)) rfl cn)) ?_
    apply AWp.ret
    apply blkQ_r
    apply seqQ_r
    obtain rfl := Option.some.inj h
    exact ⟨(fun hc => by cases hc), rfl, (mp [] _ _ hB)⟩
   ·replace h := ite_f hg34 h
    apply AWp.skip
    apply blkQ_n
    apply seqQ_n
    refine rg (c (mv hN (q 5)) rfl (c (add6 (L rfl) (q 8) (Opd.int .i64 (1))) rfl (c (OpJ.assign (L rfl) (q 9)) rfl cn))) ?_
    obtain rfl := Option.some.inj h
    exact ⟨rfl, (mp [] _ _ hB)⟩
  ·rcases Bool.eq_false_or_eq_true (r27.2 != (0 : Int)) with hg35 | hg35
   ·replace h := ite_t hg35 h
    refine dr (c (mv hN (q 7)) rfl (c (OpJ.neqI (L rfl) (q 16) (Opd.int .i64 (0))) rfl (c (OpJ.val (v' := .d (.bool true)) (by rw [hg35] <;> rfl) (mv hN (q 17))) rfl (cg (sU 18 (L rfl)) rfl (cg (sU 18 (L rfl)) rfl (cg (sU 18 (L rfl)) rfl (cg (sU 18 (L rfl)) rfl (cg (sU 18 (L rfl)) rfl (cg (sV 23 (L rfl)) rfl (cg (sV 23 (L rfl)) rfl (cg (sV 23 (L rfl)) rfl (cg (sV 23 (L rfl)) rfl (cg (sV 23 (L rfl)) rfl (cg (sU 18 (L rfl)) rfl (c (OpJ.pickT (L rfl) (q 18) (Opd.bool true)) rfl cn))))))))))))))) (by kernel_rfl) (by kernel_rfl) ?_
    exact hjj33 _ h _ _ (mp [] _ _ hB)
   ·replace h := ite_f hg35 h
    rcases Bool.eq_false_or_eq_true ((r27.1.fAddr.fV6 == a0.fV6) && ((r27.1.fAddr.fHi == a0.fHi) && ((r27.1.fAddr.fLo == a0.fLo) && true))) with hg36 | hg36
    ·replace h := ite_t hg36 h
     obtain ⟨r37, hr37, h⟩ := bindS h
     obtain ⟨r38, hr38, h⟩ := bindS h
     refine dr (c (mv hN (q 7)) rfl (c (OpJ.neqI (L rfl) (q 16) (Opd.int .i64 (0))) rfl (c (OpJ.val (v' := .d (.bool false)) (by rw [hg35] <;> rfl) (mv hN (q 17))) rfl (c (gd 18 (fo 1006 0 [0] hN underlying56 0 tyS42 (q 6))) rfl (c (gd 18 (la hN 56 tyS42 (q 19))) rfl (c (gd 18 (lb hN 42 _ _ tyS42 (At.here _) (q 2))) rfl (c (gd 18 (OpJ.eqlD (h := 2) (FitE.st underlying42 rfl held42 (FitF.cons (x := (.bool r27.1.fAddr.fV6)) (y := (.bool a0.fV6)) (by decide) rfl tyS4 ⟨rfl, rfl⟩ ⟨rfl, rfl⟩ (FitE.bool (h := 0) r27.1.fAddr.fV6 a0.fV6 underlying4) (FitF.cons (x := (.int .u64 r27.1.fAddr.fHi)) (y := (.int .u64 a0.fHi)) (by decide) rfl tyS40 ⟨rfl, rfl⟩ ⟨rfl, rfl⟩ (FitE.int (h := 0) r27.1.fAddr.fHi a0.fHi underlying40) (FitF.cons (x := (.int .u64 r27.1.fAddr.fLo)) (y := (.int .u64 a0.fLo)) (by decide) rfl tyS40 ⟨rfl, rfl⟩ ⟨rfl, rfl⟩ (FitE.int (h := 0) r27.1.fAddr.fLo a0.fLo underlying40) FitF.nil)))) eqg42 ⟨rfl, rfl⟩ (by rfl) (L rfl) (q 20) (q 21))) rfl (c (gd 18 (OpJ.val (v' := .d (.bool true)) (by rw [hg36] <;> rfl) (mv hN (q 22)))) rfl (c (gd 23 (lb hN 56 _ _ tyS56 (At.here _) (q 6))) rfl (cg (gd 23 (cf hB fnOk53 (prefix_Last_ac r27.1 r37 hr37) (L rfl) (OpdL.cons (q 24) OpdL.nil))) rfl (c (gd 23 (lb hN 42 _ _ tyS42 (At.here _) (q 3))) rfl (cg (gd 23 (cf hB fnOk50 (addr_Cmp_ac r37 a1 r38 hr38) (L rfl) (OpdL.cons (q 25) (OpdL.cons (q 26) OpdL.nil)))) rfl (c (gd 23 (OpJ.leq (L rfl) (q 27) (Opd.int .i64 (0)))) rfl (c (gd 18 (OpJ.pickT (L rfl) (q 23) (q 28))) rfl (c (OpJ.pickF (L rfl) (q 18) (q 29)) rfl cn))))))))))))))) (by kernel_rfl) (by kernel_rfl) ?_
     exact hjj33 _ h _ _ (mp [] _ _ hB)
    ·replace h := ite_f hg36 h
     refine dr (c (mv hN (q 7)) rfl (c (OpJ.neqI (L rfl) (q 16) (Opd.int .i64 (0))) rfl (c (OpJ.val (v' := .d (.bool false)) (by rw [hg35] <;> rfl) (mv hN (q 17))) rfl (c (gd 18 (fo 1006 0 [0] hN underlying56 0 tyS42 (q 6))) rfl (c (gd 18 (la hN 56 tyS42 (q 19))) rfl (c (gd 18 (lb hN 42 _ _ tyS42 (At.here _) (q 2))) rfl (c (gd 18 (OpJ.eqlD (h := 2) (FitE.st underlying42 rfl held42 (FitF.cons (x := (.bool r27.1.fAddr.fV6)) (y := (.bool a0.fV6)) (by decide) rfl tyS4 ⟨rfl, rfl⟩ ⟨rfl, rfl⟩ (FitE.bool (h := 0) r27.1.fAddr.fV6 a0.fV6 underlying4) (FitF.cons (x := (.int .u64 r27.1.fAddr.fHi)) (y := (.int .u64 a0.fHi)) (by decide) rfl tyS40 ⟨rfl, rfl⟩ ⟨rfl, rfl⟩ (FitE.int (h := 0) r27.1.fAddr.fHi a0.fHi underlying40) (FitF.cons (x := (.int .u64 r27.1.fAddr.fLo)) (y := (.int .u64 a0.fLo)) (by decide) rfl tyS40 ⟨rfl, rfl⟩ ⟨rfl, rfl⟩ (FitE.int (h := 0) r27.1.fAddr.fLo a0.fLo underlying40) FitF.nil)))) eqg42 ⟨rfl, rfl⟩ (by rfl) (L rfl) (q 20) (q 21))) rfl (c (gd 18 (OpJ.val (v' := .d (.bool false)) (by rw [hg36] <;> rfl) (mv hN (q 22)))) rfl (cg (sU 23 (L rfl)) rfl (cg (sU 23 (L rfl)) rfl (cg (sU 23 (L rfl)) rfl (cg (sU 23 (L rfl)) rfl (cg (sU 23 (L rfl)) rfl (c (gd 18 (OpJ.pickF (L rfl) (q 23) (Opd.bool false))) rfl (c (OpJ.pickF (L rfl) (q 18) (q 29)) rfl cn))))))))))))))) (by kernel_rfl) (by kernel_rfl) ?_
     exact hjj33 _ h _ _ (mp [] _ _ hB)
 ·obtain ⟨rfl, hmat⟩ := hR
  apply blkQ_r
  obtain rfl := Option.some.inj h
  exact ⟨.inl rfl, _, _, (Mat.trans hmat (mp [] [(4, (pt 1004))] [(1004, bd 56 (e_api_Prefix p26))] hB)), [(.d (e_api_Prefix p26))], (Res.cell (c := (.d (e_api_Prefix p26))) (by rfl) (by rfl) tyS56 (by rfl) (by rfl) (by rfl) Res.nil), rfl, by rfl, by rfl, by rfl⟩
noncomputable def resource_Prefixes_L1 (x76 : api_Range) (s77 : Bool × api_Addr × (List api_Prefix)) : Option ((((List api_Prefix))) ⊕ (Bool × api_Addr × (List api_Prefix))) :=
 jn (fun m98 : Bool =>
 (if m98 = true then
 (resource_largest s77.2.1 x76.fTo).bind fun r101 =>
 chk (decide ((s77.2.2 ++ ([r101] : List api_Prefix)).length ≤ LIM)) <|
 (prefix_Last r101).bind fun r103 =>
 (addr_Next r103).bind fun r104 =>
 some (.inr (r104.2, r104.1, (s77.2.2 ++ ([r101] : List api_Prefix))))
 else
 some (.inl s77.2.2))) (fun j99 =>
 (if s77.1 = true then
 (addr_Cmp s77.2.1 x76.fTo).bind fun r106 =>
 j99 (decide (r106 ≤ (0 : Int)))
 else
 j99 false))
noncomputable def resource_Prefixes_L0 (a0 : api_Resources) (s3 : Int × (List api_Prefix)) : Option ((((List api_Prefix))) ⊕ (Int × (List api_Prefix))) :=
 (if (decide (s3.1 < (a0.fAddrs.length : Int))) = true then
 (idx a0.fAddrs s3.1).bind fun x76 =>
 (loop (resource_Prefixes_L1 x76) (true, x76.fFrom, s3.2)).bind fun p95 =>
 some (.inr ((w64 (s3.1 + (1 : Int))), p95))
 else
 some (.inl s3.2))
noncomputable def resource_Prefixes (a0 : api_Resources) : Option ((List api_Prefix)) :=
 (resource_Valid a0).bind fun r1 =>
 (if (!r1) = true then
 some ([] : List api_Prefix)
 else
 (loop (resource_Prefixes_L0 a0) ((0 : Int), ([] : List api_Prefix))).bind fun p74 =>
 some p74)
theorem resource_Prefixes_ac (a0 : api_Resources) (r : (List api_Prefix)) (h : resource_Prefixes a0 = some r) : AC Tryz.prog 25 [(.d (e_api_Resources a0))] [(500, (.know (globF 0 [50, 52, 133]))), (501, (.know (globF 1 [71, 134, 135])))] (.d (.list 4 (r.map e_api_Prefix))) [(500, some (.know (globF 0 [50, 52, 133]))), (501, some (.know (globF 1 [71, 134, 135])))] := by
 refine AC.of_code2 Tryz.func25 rfl rfl (Nat.le_of_ble_eq_true (by rfl)) fun B hB hN => ?_
 have L {d : Nat} (h : Nat.blt d Tryz.f25.ntmps = true) : d < B.N := ltN hN h
 delta resource_Prefixes at h
 refine sr (cg (OpJ.box hB (nm := 1001) (by decide) (by simp) rfl (L rfl) (q 0)) rfl (c (OpJ.assign (L rfl) Opd.nils) rfl cn)) ?_
 refine sr (c (OpJ.assign (L rfl) Opd.nils) rfl cn) ?_
 apply AWp.seq
 apply AWp.seq
 obtain ⟨r1, hr1, h⟩ := bindS h
 refine AWp.region (oc (lb hN 25 (.d (e_api_Resources a0)) (.d (e_api_Resources a0)) tyS25 (At.here _) (ot 1 (pt 1001)))
 (oc (OpJ.callFn hB fnOk19 (resource_Valid_ac a0 r1 hr1) [(500, 500), (501, 501)] (by kernel_rfl) (L rfl) (by kernel_rfl) (OpdL.cons (ot 9 (.d (e_api_Resources a0))) OpdL.nil))
 (oc (OpJ.not (L rfl) (ot 10 (bo r1)))
 (OpJs.nil)))) (by rfl) (by rfl) ?_
 apply seqQ_n
 refine AWp.ghost (mp [] [(1, (pt 1001)), (3, .nils), (11, (bo (!r1)))] [(500, some (.know (globF 0 [50, 52, 133]))), (501, some (.know (globF 1 [71, 134, 135]))), (1001, bd 25 (e_api_Resources a0))] hB) ?_
 refine AWp.cond rfl (fun hg2 => ?_) (fun hg2 => ?_)
 ·replace h := ite_t hg2 h
  refine sr (c (OpJ.assign (L rfl) Opd.nils) rfl cn) ?_
  apply AWp.ret
  apply seqQ_r
  obtain rfl := Option.some.inj h
  exact ⟨.inl rfl, _, _, (Mat.trans (Mat.coeP (Ts := [(2, (qe_api_Prefix_4 ([] : List api_Prefix)))]) (Bs := []) (TwT.cons (x := .nils) (by rfl) (Tw.leaf ⟨_, (Co.nils 4), rfl⟩) TwT.nil) TwB.nil) (mp [] [(2, (qe_api_Prefix_4 ([] : List api_Prefix)))] [(500, some (.know (globF 0 [50, 52, 133]))), (501, some (.know (globF 1 [71, 134, 135])))] hB)), [(qe_api_Prefix_4 ([] : List api_Prefix))], (Res.tmp (by rfl) (by rfl) Res.nil), rfl, by rfl, by rfl, by rfl⟩
 ·replace h := ite_f hg2 h
  apply AWp.skip
  apply seqQ_n
  apply AWp.seq
  refine sr (c (fo 1001 0 [0] hN underlying25 0 tyS22 (q 1)) rfl (c (la hN 25 tyS22 (q 12)) rfl (c (OpJ.val (v' := (i6 (a0.fAddrs.length : Int))) (by simp) (OpJ.lenD underlying22 (L rfl) (q 13))) rfl (c (mv hN (Opd.int .i64 (0))) rfl cn)))) ?_
  apply AWp.block
  obtain ⟨p74, hx110, h⟩ := bindS h
  refine lg (resource_Prefixes_L0 a0) (fun s3 : Int × (List api_Prefix) => ([(3, (.sref 3003 4 0 s3.2.length)), (13, (qe_api_Range_6 a0.fAddrs)), (14, (i6 (a0.fAddrs.length : Int))), (15, (i6 s3.1))] : EL)) (fun s3 : Int × (List api_Prefix) => ([(500, some (.know (globF 0 [50, 52, 133]))), (501, some (.know (globF 1 [71, 134, 135]))), (3003, some (we_api_Prefix_56_4 s3.2))] : OL)) (fun (p74 : ((List api_Prefix))) e E' O' => e = .exit 0 ∧ Mat B E' O' ([(3, (.sref 3003 4 0 p74.length))] : EL) ([(500, some (.know (globF 0 [50, 52, 133]))), (501, some (.know (globF 1 [71, 134, 135]))), (3003, some (we_api_Prefix_56_4 p74))] : OL)) hx110 (Mat.trans (Mat.beginP (n := 3003) (e := 56) (sz := 4) (Ts := [(3, (.sref 3003 4 0 0))]) (Bs := []) hB (by decide) (by rfl) (by decide) (TwT.cons (x := .nils) (by rfl) (Tw.leaf ⟨rfl, rfl⟩) TwT.nil) TwB.nil) (mp [] _ _ hB)) (fun s3 y h => ?_) (fun e E' O' hR => ?_)
  ·unfold resource_Prefixes_L0 at h
   refine sr (c (OpJ.lss (L rfl) (q 15) (q 14)) rfl cn) ?_
   apply AWp.seq
   refine AWp.cond rfl (fun hg75 => ?_) (fun hg75 => ?_)
   ·replace h := ite_t hg75 h
    apply AWp.skip
    apply seqQ_n
    apply AWp.seq
    apply AWp.block
    obtain ⟨x76, hx76, h⟩ := bindS h
    refine sr (c (OpJ.indexD underlying22 tyS46 (idx_some hx76).1 (get_map e_api_Range (idx_some hx76).2) (L rfl) (q 13) (q 15)) rfl (c (OpJ.loadD tyS46 (by rfl) (by rfl) (L rfl) (q 17)) rfl (cg (OpJ.alloc hB tyZ46 (nm := 1005) (by decide) (L rfl)) rfl (cg (sB tyS46 (q 5) (q 18)) rfl cn)))) ?_
    refine gh [(3, _), (5, _), (13, _), (14, _), (15, _)] [(500, some _), (501, some _), (1005, some _), (3003, some _)] hB rfl rfl (by rfl) ?_
    refine sr (c (fo 1005 0 [0] hN underlying46 0 tyS42 (q 5)) rfl (c (la hN 46 tyS42 (q 19)) rfl (cg (OpJ.alloc hB tyZ42 (nm := 1006) (by decide) (L rfl)) rfl (cg (sB tyS42 (q 6) (q 20)) rfl (c (OpJ.assign (L rfl) (Opd.bool true)) rfl cn))))) ?_
    apply AWp.block
    obtain ⟨p95, hx108, h⟩ := bindS h
    refine lg (resource_Prefixes_L1 x76) (fun s77 : Bool × api_Addr × (List api_Prefix) => ([(3, (.sref 3003 4 0 s77.2.2.length)), (5, (pt 1005)), (6, (pt 1006)), (7, (bo s77.1)), (13, (qe_api_Range_6 a0.fAddrs)), (14, (i6 (a0.fAddrs.length : Int))), (15, (i6 s3.1))] : EL)) (fun s77 : Bool × api_Addr × (List api_Prefix) => ([(500, some (.know (globF 0 [50, 52, 133]))), (501, some (.know (globF 1 [71, 134, 135]))), (1005, bd 46 (e_api_Range x76)), (1006, bd 42 (e_api_Addr s77.2.1)), (3003, some (we_api_Prefix_56_4 s77.2.2))] : OL)) (fun (p95 : ((List api_Prefix))) e E' O' => e = .exit 2 ∧ Mat B E' O' ([(3, (.sref 3003 4 0 p95.length)), (13, (qe_api_Range_6 a0.fAddrs)), (14, (i6 (a0.fAddrs.length : Int))), (15, (i6 s3.1))] : EL) ([(500, some (.know (globF 0 [50, 52, 133]))), (501, some (.know (globF 1 [71, 134, 135]))), (3003, some (we_api_Prefix_56_4 p95))] : OL)) hx108 (mp [] _ _ hB) (fun s77 y h => ?_) (fun e E' O' hR => ?_)
    ·unfold resource_Prefixes_L1 at h
     apply AWp.seq
     apply AWp.seq
     refine AWp.cut h (fun m98 : Bool => ([(3, (.sref 3003 4 0 s77.2.2.length)), (5, (pt 1005)), (6, (pt 1006)), (13, (qe_api_Range_6 a0.fAddrs)), (14, (i6 (a0.fAddrs.length : Int))), (15, (i6 s3.1)), (28, (bo m98))] : EL)) (fun m98 : Bool => ([(500, some (.know (globF 0 [50, 52, 133]))), (501, some (.know (globF 1 [71, 134, 135]))), (1005, bd 46 (e_api_Range x76)), (1006, bd 42 (e_api_Addr s77.2.1)), (3003, some (we_api_Prefix_56_4 s77.2.2))] : OL)) (fun m98 h E' O' hmat => ?_) (fun j99 hjj99 h => ?_)
     ·apply seqQ_n
      refine AWp.ghost hmat ?_
      refine AWp.cond rfl (fun hg100 => ?_) (fun hg100 => ?_)
      ·replace h := ite_t hg100 h
       apply AWp.skip
       apply seqQ_n
       apply AWp.seq
       apply AWp.block
       obtain ⟨r101, hr101, h⟩ := bindS h
       refine sr (c (lb hN 42 _ _ tyS42 (At.here _) (q 6)) rfl (c (fo 1005 3 [1] hN underlying46 3 tyS42 (q 5)) rfl (c (la hN 46 tyS42 (q 30)) rfl (cg (cf hB fnOk51 (resource_largest_ac s77.2.1 x76.fTo r101 hr101) (L rfl) (OpdL.cons (q 29) (OpdL.cons (q 31) OpdL.nil))) rfl (cg (OpJ.alloc hB tyZ56 (nm := 1008) (by decide) (L rfl)) rfl (cg (sB tyS56 (q 8) (q 32)) rfl cn)))))) ?_
       obtain ⟨hc102, h⟩ := chk_some h
       refine sr (c (mv hN (q 3)) rfl (c (lb hN 56 _ _ tyS56 (At.here _) (q 8)) rfl (c (OpJ.buildSlice underlying53 tyS56 tyZD56 (by rfl) (by decide) (by decide) (Opds.cons (q 34) Opds.nil) (by kernel_rfl) (es := ([(e_api_Prefix r101)] : List D)) (by rfl) (by rfl) (by kernel_rfl) (by simp) (L rfl)) rfl (cg (apd hB underlying53 tyE56 1036 e_api_Prefix s77.2.2 ([r101] : List api_Prefix) hc102 (L rfl) (q 33) (q 35)) rfl (c (OpJ.assign (L rfl) (q 36)) rfl cn))))) ?_
       obtain ⟨r103, hr103, h⟩ := bindS h
       obtain ⟨r104, hr104, h⟩ := bindS h
       refine rg (c (lb hN 56 _ _ tyS56 (At.here _) (q 8)) rfl (cg (cf hB fnOk53 (prefix_Last_ac r101 r103 hr103) (L rfl) (OpdL.cons (q 38) OpdL.nil)) rfl (cg (cf hB fnOk52 (addr_Next_ac r103 r104 hr104) (L rfl) (OpdL.cons (q 39) OpdL.nil)) rfl (c (mv hN (q 40)) rfl (c (OpJ.extract (by rfl) rfl (L rfl) (q 37)) rfl (c (OpJ.extract (by rfl) rfl (L rfl) (q 37)) rfl (cg (sB tyS42 (q 6) (q 41)) rfl (c (OpJ.assign (L rfl) (q 42)) rfl cn)))))))) ?_
       apply blkQ_n
       apply seqQ_n
       refine sr (c (lb hN 42 _ _ tyS42 (At.here _) (q 6)) rfl cn) ?_
       refine gh [(3, _), (5, _), (7, _), (13, _), (14, _), (15, _), (43, _)] [(500, some _), (501, some _), (1005, some _), (1036, some _)] hB rfl rfl (by rfl) ?_
       refine rg (cg (OpJ.alloc hB tyZ42 (nm := 1006) (by decide) (L rfl)) rfl (cg (sB tyS42 (q 6) (q 43)) rfl cn)) ?_
       obtain rfl := Option.some.inj h
       exact ⟨rfl, (mp [(3003, 1036)] _ _ hB)⟩
      ·replace h := ite_f hg100 h
       apply AWp.exit
       apply seqQ_e
       obtain rfl := Option.some.inj h
       exact ⟨(fun hc => by cases hc), rfl, (mp [] _ _ hB)⟩
     ·rcases Bool.eq_false_or_eq_true s77.1 with hg105 | hg105
      ·replace h := ite_t hg105 h
       obtain ⟨r106, hr106, h⟩ := bindS h
       refine rg (c (mv hN (q 7)) rfl (c (OpJ.val (v' := .d (.bool true)) (by rw [hg105] <;> rfl) (mv hN (q 21))) rfl (c (gd 22 (lb hN 42 _ _ tyS42 (At.here _) (q 6))) rfl (c (gd 22 (fo 1005 3 [1] hN underlying46 3 tyS42 (q 5))) rfl (c (gd 22 (la hN 46 tyS42 (q 24))) rfl (cg (gd 22 (cf hB fnOk50 (addr_Cmp_ac s77.2.1 x76.fTo r106 hr106) (L rfl) (OpdL.cons (q 23) (OpdL.cons (q 25) OpdL.nil)))) rfl (c (gd 22 (OpJ.leq (L rfl) (q 26) (Opd.int .i64 (0)))) rfl (c (OpJ.pickT (L rfl) (q 22) (q 27)) rfl cn)))))))) ?_
       exact hjj99 _ h _ _ (mp [] _ _ hB)
      ·replace h := ite_f hg105 h
       refine rg (c (mv hN (q 7)) rfl (c (OpJ.val (v' := .d (.bool false)) (by rw [hg105] <;> rfl) (mv hN (q 21))) rfl (cg (sU 22 (L rfl)) rfl (cg (sU 22 (L rfl)) rfl (cg (sU 22 (L rfl)) rfl (cg (sU 22 (L rfl)) rfl (cg (sU 22 (L rfl)) rfl (c (OpJ.pickF (L rfl) (q 22) (Opd.bool false)) rfl cn)))))))) ?_
       exact hjj99 _ h _ _ (mp [] _ _ hB)
    ·obtain ⟨rfl, hmat⟩ := hR
     apply blkQ_hit
     apply blkQ_n
     apply seqQ_n
     refine AWp.ghost hmat ?_
     refine rg (c (add6 (L rfl) (q 15) (Opd.int .i64 (1))) rfl (c (mv hN (q 44)) rfl cn)) ?_
     obtain rfl := Option.some.inj h
     exact ⟨rfl, (mp [] _ _ hB)⟩
   ·replace h := ite_f hg75 h
    apply AWp.exit
    apply seqQ_e
    obtain rfl := Option.some.inj h
    exact ⟨(fun hc => by cases hc), rfl, (mp [] _ _ hB)⟩
  ·obtain ⟨rfl, hmat⟩ := hR
   apply blkQ_hit
   apply seqQ_n
   refine AWp.ghost hmat ?_
   refine sr (c (mv hN (q 3)) rfl (c (OpJ.assign (L rfl) (q 45)) rfl cn)) ?_
   apply AWp.ret
   obtain rfl := Option.some.inj h
   exact ⟨.inl rfl, _, _, (Mat.trans (Mat.freezeP (n := 3003) (e := 56) (sz := 4) (es := p74.map e_api_Prefix) (Ts := [(2, (qe_api_Prefix_4 p74))]) (Bs := []) (by rfl) (TwT.cons (x := (.sref 3003 4 0 p74.length)) (by rfl) (FrzL.all (by first | rfl | (simp; done) | (simp; omega) | omega)) TwT.nil) TwB.nil) (mp [] [(2, (qe_api_Prefix_4 p74))] [(500, some (.know (globF 0 [50, 52, 133]))), (501, some (.know (globF 1 [71, 134, 135])))] hB)), [(qe_api_Prefix_4 p74)], (Res.tmp (by rfl) (by rfl) Res.nil), rfl, by rfl, by rfl, by rfl⟩
noncomputable def exchangepointlaw21_awake : Option (Bool) :=
 (resource_Prefixes (api_Resources.mk ([(api_Range.mk (api_Addr.mk false (0 : Int) (167772160 : Int)) (api_Addr.mk false (0 : Int) (167772162 : Int)))] : List api_Range) ([] : List api_Span))).bind fun r1 =>
 jn (fun m8 : Bool =>
 some m8) (fun j9 =>
 (if ((r1.length : Int) == (2 : Int)) = true then
 (idx r1 (0 : Int)).bind fun x11 =>
 (if (x11.fLen == (31 : Int)) = true then
 (idx r1 (1 : Int)).bind fun x13 =>
 (if (x13.fLen == (32 : Int)) = true then
 (idx r1 (1 : Int)).bind fun x15 =>
 j9 (x15.fAddr.fLo == (167772162 : Int))
 else
 j9 false)
 else
 j9 false)
 else
 j9 false))
theorem exchangepointlaw21_awake_ac (r : Bool) (h : exchangepointlaw21_awake = some r) : AC Tryz.prog 6 [] [(500, (.know (globF 0 [50, 52, 133]))), (501, (.know (globF 1 [71, 134, 135])))] (.d (.bool r)) [(500, some (.know (globF 0 [50, 52, 133]))), (501, some (.know (globF 1 [71, 134, 135])))] := by
 refine AC.of_code2 Tryz.func6 rfl rfl (Nat.le_of_ble_eq_true (by rfl)) fun B hB hN => ?_
 have L {d : Nat} (h : Nat.blt d Tryz.f6.ntmps = true) : d < B.N := ltN hN h
 delta exchangepointlaw21_awake at h
 refine sr (c (OpJ.assign (L rfl) (Opd.bool false)) rfl cn) ?_
 apply AWp.seq
 obtain ⟨r1, hr1, h⟩ := bindS h
 refine AWp.region (oc (OpJ.coe (v := (.st [(bo false), (.d (.int .u64 0)), (.d (.int .u64 (167772160 : Int)))])) (y := (.st [(.bool false), (.int .u64 0), (.int .u64 (167772160 : Int))])) (Co.st (CoL.cons (Co.d _) (CoL.cons (Co.d _) (CoL.cons (Co.d _) CoL.nil)))) rfl (OpJ.build (places := [(0, 1), (1, 1), (2, 1)]) ⟨underlying42, fun w => by kernel_rfl⟩ tyZS42 (Opds.cons (Opd.int .u64 (167772160)) Opds.nil) (by kernel_rfl) (r := (.st [(bo false), (.d (.int .u64 0)), (.d (.int .u64 (167772160 : Int)))])) (by rfl) (L rfl)))
 (oc (OpJ.coe (v := (.st [(bo false), (.d (.int .u64 0)), (.d (.int .u64 (167772162 : Int)))])) (y := (.st [(.bool false), (.int .u64 0), (.int .u64 (167772162 : Int))])) (Co.st (CoL.cons (Co.d _) (CoL.cons (Co.d _) (CoL.cons (Co.d _) CoL.nil)))) rfl (OpJ.build (places := [(0, 1), (1, 1), (2, 1)]) ⟨underlying42, fun w => by kernel_rfl⟩ tyZS42 (Opds.cons (Opd.int .u64 (167772162)) Opds.nil) (by kernel_rfl) (r := (.st [(bo false), (.d (.int .u64 0)), (.d (.int .u64 (167772162 : Int)))])) (by rfl) (L rfl)))
 (oc (OpJ.coe (v := (.st [(.d (.st [(.bool false), (.int .u64 0), (.int .u64 (167772160 : Int))])), (.d (.st [(.bool false), (.int .u64 0), (.int .u64 (167772162 : Int))]))])) (y := (.st [(.st [(.bool false), (.int .u64 0), (.int .u64 (167772160 : Int))]), (.st [(.bool false), (.int .u64 0), (.int .u64 (167772162 : Int))])])) (Co.st (CoL.cons (Co.d _) (CoL.cons (Co.d _) CoL.nil))) rfl (OpJ.build (places := [(0, 3), (3, 3)]) ⟨underlying46, fun w => by kernel_rfl⟩ tyZS46 (Opds.cons (ot 2 (.d (.st [(.bool false), (.int .u64 0), (.int .u64 (167772160 : Int))]))) (Opds.cons (ot 3 (.d (.st [(.bool false), (.int .u64 0), (.int .u64 (167772162 : Int))]))) Opds.nil)) (by kernel_rfl) (r := (.st [(.d (.st [(.bool false), (.int .u64 0), (.int .u64 (167772160 : Int))])), (.d (.st [(.bool false), (.int .u64 0), (.int .u64 (167772162 : Int))]))])) (by rfl) (L rfl)))
 (oc (OpJ.buildSlice underlying22 tyS46 tyZD46 (by rfl) (by decide) (by decide) (Opds.cons (ot 4 (.d (.st [(.st [(.bool false), (.int .u64 0), (.int .u64 (167772160 : Int))]), (.st [(.bool false), (.int .u64 0), (.int .u64 (167772162 : Int))])]))) Opds.nil) (by kernel_rfl) (es := ([(.st [(.st [(.bool false), (.int .u64 0), (.int .u64 (167772160 : Int))]), (.st [(.bool false), (.int .u64 0), (.int .u64 (167772162 : Int))])])] : List D)) (by rfl) (by rfl) (by kernel_rfl) (by simp) (L rfl))
 (oc (OpJ.build (places := [(0, 1), (1, 1)]) ⟨underlying25, fun w => by kernel_rfl⟩ tyZS25 (Opds.cons (ot 5 (qe_api_Range_6 ([(api_Range.mk (api_Addr.mk false (0 : Int) (167772160 : Int)) (api_Addr.mk false (0 : Int) (167772162 : Int)))] : List api_Range))) Opds.nil) (by kernel_rfl) (r := (.st [(qe_api_Range_6 ([(api_Range.mk (api_Addr.mk false (0 : Int) (167772160 : Int)) (api_Addr.mk false (0 : Int) (167772162 : Int)))] : List api_Range)), .nils])) (by rfl) (L rfl))
 (oc (OpJ.callFn hB fnOk25 (resource_Prefixes_ac (api_Resources.mk ([(api_Range.mk (api_Addr.mk false (0 : Int) (167772160 : Int)) (api_Addr.mk false (0 : Int) (167772162 : Int)))] : List api_Range) ([] : List api_Span)) r1 hr1) [(500, 500), (501, 501)] (by kernel_rfl) (L rfl) (by kernel_rfl) (OpdL.cons (Opd.tw (ot 6 (.st [(qe_api_Range_6 ([(api_Range.mk (api_Addr.mk false (0 : Int) (167772160 : Int)) (api_Addr.mk false (0 : Int) (167772162 : Int)))] : List api_Range)), .nils])) (Tw.leaf ⟨_, (Co.st (CoL.cons (Co.d _) (CoL.cons (Co.nils 2) CoL.nil))), rfl⟩)) OpdL.nil))
 (oc (OpJ.assign (L rfl) (ot 7 (qe_api_Prefix_4 r1)))
 (OpJs.nil)))))))) (by rfl) (by rfl) ?_
 apply seqQ_n
 refine AWp.ghost (mp [] [(1, (qe_api_Prefix_4 r1))] [(500, some (.know (globF 0 [50, 52, 133]))), (501, some (.know (globF 1 [71, 134, 135])))] hB) ?_
 apply AWp.seq
 refine AWp.cut h (fun m8 : Bool => ([(0, (bo m8))] : EL)) (fun m8 : Bool => ([(500, some (.know (globF 0 [50, 52, 133]))), (501, some (.know (globF 1 [71, 134, 135])))] : OL)) (fun m8 h E' O' hmat => ?_) (fun j9 hjj9 h => ?_)
 ·apply seqQ_n
  refine AWp.ghost hmat ?_
  apply AWp.ret
  obtain rfl := Option.some.inj h
  exact ⟨.inl rfl, _, _, (kp [(0, _)] [(500, some _), (501, some _)] hB rfl rfl (by rfl)), [(bo m8)], (Res.tmp (by rfl) (by rfl) Res.nil), rfl, by rfl, by rfl, by rfl⟩
 ·rcases Bool.eq_false_or_eq_true ((r1.length : Int) == (2 : Int)) with hg10 | hg10
  ·replace h := ite_t hg10 h
   obtain ⟨x11, hx11, h⟩ := bindS h
   rcases Bool.eq_false_or_eq_true (x11.fLen == (31 : Int)) with hg12 | hg12
   ·replace h := ite_t hg12 h
    obtain ⟨x13, hx13, h⟩ := bindS h
    rcases Bool.eq_false_or_eq_true (x13.fLen == (32 : Int)) with hg14 | hg14
    ·replace h := ite_t hg14 h
     obtain ⟨x15, hx15, h⟩ := bindS h
     refine rg (c (mv hN (q 1)) rfl (c (OpJ.val (v' := (i6 (r1.length : Int))) (by simp) (OpJ.lenD underlying53 (L rfl) (q 8))) rfl (c (OpJ.eqlI (L rfl) (q 9) (Opd.int .i64 (2))) rfl (c (OpJ.val (v' := .d (.bool true)) (by rw [hg10] <;> rfl) (mv hN (q 10))) rfl (c (gd 11 (mv hN (q 1))) rfl (c (gd 11 (OpJ.indexD underlying53 tyS56 (idx_some hx11).1 (get_map e_api_Prefix (idx_some hx11).2) (L rfl) (q 12) (Opd.int .i64 (0)))) rfl (c (gd 11 (OpJ.fieldD underlying56 (by rfl) (o := 3) (by rfl) tyS3 (by decide) (by rfl) (by rfl) (L rfl) (q 13))) rfl (c (gd 11 (OpJ.loadD tyS3 (by rfl) (by rfl) (L rfl) (q 14))) rfl (c (gd 11 (OpJ.eqlI (L rfl) (q 15) (Opd.int .i64 (31)))) rfl (c (OpJ.pickT (L rfl) (q 11) (q 16)) rfl (c (OpJ.val (v' := .d (.bool true)) (by rw [hg12] <;> rfl) (mv hN (q 17))) rfl (c (gd 18 (mv hN (q 1))) rfl (c (gd 18 (OpJ.indexD underlying53 tyS56 (idx_some hx13).1 (get_map e_api_Prefix (idx_some hx13).2) (L rfl) (q 19) (Opd.int .i64 (1)))) rfl (c (gd 18 (OpJ.fieldD underlying56 (by rfl) (o := 3) (by rfl) tyS3 (by decide) (by rfl) (by rfl) (L rfl) (q 20))) rfl (c (gd 18 (OpJ.loadD tyS3 (by rfl) (by rfl) (L rfl) (q 21))) rfl (c (gd 18 (OpJ.eqlI (L rfl) (q 22) (Opd.int .i64 (32)))) rfl (c (OpJ.pickT (L rfl) (q 18) (q 23)) rfl (c (OpJ.val (v' := .d (.bool true)) (by rw [hg14] <;> rfl) (mv hN (q 24))) rfl (c (gd 25 (mv hN (q 1))) rfl (c (gd 25 (OpJ.indexD underlying53 tyS56 (idx_some hx15).1 (get_map e_api_Prefix (idx_some hx15).2) (L rfl) (q 26) (Opd.int .i64 (1)))) rfl (c (gd 25 (OpJ.fieldD underlying56 (by rfl) (o := 0) (by rfl) tyS42 (by decide) (by rfl) (by rfl) (L rfl) (q 27))) rfl (c (gd 25 (OpJ.fieldD underlying42 (by rfl) (o := 2) (by rfl) tyS40 (by decide) (by rfl) (by rfl) (L rfl) (q 28))) rfl (c (gd 25 (OpJ.loadD tyS40 (by rfl) (by rfl) (L rfl) (q 29))) rfl (c (gd 25 (OpJ.eqlI (L rfl) (q 30) (Opd.int .u64 (167772162)))) rfl (c (OpJ.pickT (L rfl) (q 25) (q 31)) rfl (c (OpJ.assign (L rfl) (q 32)) rfl cn)))))))))))))))))))))))))) ?_
     exact hjj9 _ h _ _ (mp [] _ _ hB)
    ·replace h := ite_f hg14 h
     refine rg (c (mv hN (q 1)) rfl (c (OpJ.val (v' := (i6 (r1.length : Int))) (by simp) (OpJ.lenD underlying53 (L rfl) (q 8))) rfl (c (OpJ.eqlI (L rfl) (q 9) (Opd.int .i64 (2))) rfl (c (OpJ.val (v' := .d (.bool true)) (by rw [hg10] <;> rfl) (mv hN (q 10))) rfl (c (gd 11 (mv hN (q 1))) rfl (c (gd 11 (OpJ.indexD underlying53 tyS56 (idx_some hx11).1 (get_map e_api_Prefix (idx_some hx11).2) (L rfl) (q 12) (Opd.int .i64 (0)))) rfl (c (gd 11 (OpJ.fieldD underlying56 (by rfl) (o := 3) (by rfl) tyS3 (by decide) (by rfl) (by rfl) (L rfl) (q 13))) rfl (c (gd 11 (OpJ.loadD tyS3 (by rfl) (by rfl) (L rfl) (q 14))) rfl (c (gd 11 (OpJ.eqlI (L rfl) (q 15) (Opd.int .i64 (31)))) rfl (c (OpJ.pickT (L rfl) (q 11) (q 16)) rfl (c (OpJ.val (v' := .d (.bool true)) (by rw [hg12] <;> rfl) (mv hN (q 17))) rfl (c (gd 18 (mv hN (q 1))) rfl (c (gd 18 (OpJ.indexD underlying53 tyS56 (idx_some hx13).1 (get_map e_api_Prefix (idx_some hx13).2) (L rfl) (q 19) (Opd.int .i64 (1)))) rfl (c (gd 18 (OpJ.fieldD underlying56 (by rfl) (o := 3) (by rfl) tyS3 (by decide) (by rfl) (by rfl) (L rfl) (q 20))) rfl (c (gd 18 (OpJ.loadD tyS3 (by rfl) (by rfl) (L rfl) (q 21))) rfl (c (gd 18 (OpJ.eqlI (L rfl) (q 22) (Opd.int .i64 (32)))) rfl (c (OpJ.pickT (L rfl) (q 18) (q 23)) rfl (c (OpJ.val (v' := .d (.bool false)) (by rw [hg14] <;> rfl) (mv hN (q 24))) rfl (cg (sU 25 (L rfl)) rfl (cg (sU 25 (L rfl)) rfl (cg (sU 25 (L rfl)) rfl (cg (sU 25 (L rfl)) rfl (cg (sU 25 (L rfl)) rfl (cg (sU 25 (L rfl)) rfl (c (OpJ.pickF (L rfl) (q 25) (Opd.bool false)) rfl (c (OpJ.assign (L rfl) (q 32)) rfl cn)))))))))))))))))))))))))) ?_
     exact hjj9 _ h _ _ (mp [] _ _ hB)
   ·replace h := ite_f hg12 h
    refine rg (c (mv hN (q 1)) rfl (c (OpJ.val (v' := (i6 (r1.length : Int))) (by simp) (OpJ.lenD underlying53 (L rfl) (q 8))) rfl (c (OpJ.eqlI (L rfl) (q 9) (Opd.int .i64 (2))) rfl (c (OpJ.val (v' := .d (.bool true)) (by rw [hg10] <;> rfl) (mv hN (q 10))) rfl (c (gd 11 (mv hN (q 1))) rfl (c (gd 11 (OpJ.indexD underlying53 tyS56 (idx_some hx11).1 (get_map e_api_Prefix (idx_some hx11).2) (L rfl) (q 12) (Opd.int .i64 (0)))) rfl (c (gd 11 (OpJ.fieldD underlying56 (by rfl) (o := 3) (by rfl) tyS3 (by decide) (by rfl) (by rfl) (L rfl) (q 13))) rfl (c (gd 11 (OpJ.loadD tyS3 (by rfl) (by rfl) (L rfl) (q 14))) rfl (c (gd 11 (OpJ.eqlI (L rfl) (q 15) (Opd.int .i64 (31)))) rfl (c (OpJ.pickT (L rfl) (q 11) (q 16)) rfl (c (OpJ.val (v' := .d (.bool false)) (by rw [hg12] <;> rfl) (mv hN (q 17))) rfl (cg (sU 18 (L rfl)) rfl (cg (sU 18 (L rfl)) rfl (cg (sU 18 (L rfl)) rfl (cg (sU 18 (L rfl)) rfl (cg (sU 18 (L rfl)) rfl (c (OpJ.pickF (L rfl) (q 18) (Opd.bool false)) rfl (c (mv hN (q 24)) rfl (cg (sU 25 (L rfl)) rfl (cg (sU 25 (L rfl)) rfl (cg (sU 25 (L rfl)) rfl (cg (sU 25 (L rfl)) rfl (cg (sU 25 (L rfl)) rfl (cg (sU 25 (L rfl)) rfl (c (OpJ.pickF (L rfl) (q 25) (Opd.bool false)) rfl (c (OpJ.assign (L rfl) (q 32)) rfl cn)))))))))))))))))))))))))) ?_
    exact hjj9 _ h _ _ (mp [] _ _ hB)
  ·replace h := ite_f hg10 h
   refine rg (c (mv hN (q 1)) rfl (c (OpJ.val (v' := (i6 (r1.length : Int))) (by simp) (OpJ.lenD underlying53 (L rfl) (q 8))) rfl (c (OpJ.eqlI (L rfl) (q 9) (Opd.int .i64 (2))) rfl (c (OpJ.val (v' := .d (.bool false)) (by rw [hg10] <;> rfl) (mv hN (q 10))) rfl (cg (sU 11 (L rfl)) rfl (cg (sU 11 (L rfl)) rfl (cg (sU 11 (L rfl)) rfl (cg (sU 11 (L rfl)) rfl (cg (sU 11 (L rfl)) rfl (c (OpJ.pickF (L rfl) (q 11) (Opd.bool false)) rfl (c (mv hN (q 17)) rfl (cg (sU 18 (L rfl)) rfl (cg (sU 18 (L rfl)) rfl (cg (sU 18 (L rfl)) rfl (cg (sU 18 (L rfl)) rfl (cg (sU 18 (L rfl)) rfl (c (OpJ.pickF (L rfl) (q 18) (Opd.bool false)) rfl (c (mv hN (q 24)) rfl (cg (sU 25 (L rfl)) rfl (cg (sU 25 (L rfl)) rfl (cg (sU 25 (L rfl)) rfl (cg (sU 25 (L rfl)) rfl (cg (sU 25 (L rfl)) rfl (cg (sU 25 (L rfl)) rfl (c (OpJ.pickF (L rfl) (q 25) (Opd.bool false)) rfl (c (OpJ.assign (L rfl) (q 32)) rfl cn)))))))))))))))))))))))))) ?_
   exact hjj9 _ h _ _ (mp [] _ _ hB)
noncomputable def exchangepointmake_New (a0 : (List Int)) : Option (exchangepointmake_Deck) :=
 some (exchangepointmake_Deck.mk a0 (0 : Int))
theorem exchangepointmake_New_ac (a0 : (List Int)) (r : exchangepointmake_Deck) (h : exchangepointmake_New a0 = some r) : AC Tryz.prog 7 [(.d (.list 1 (a0.map (eI .i64))))] [] (pt 1005) [(1005, bd 58 (e_exchangepointmake_Deck r))] := by
 refine AC.of_code2 Tryz.func7 rfl rfl (Nat.le_of_ble_eq_true (by rfl)) fun B hB hN => ?_
 delta exchangepointmake_New at h
 refine sr (c (OpJ.assign (v := .junk) (ltN hN rfl) (Opd.junk _)) rfl cn) ?_
 refine sr (c (mv hN (q 0)) rfl (c (OpJ.coe (v := (.st [(qI_1 a0), (i6 0)])) (y := (.st [(.list 1 (a0.map (eI .i64))), (.int .i64 0)])) (Co.st (CoL.cons (Co.d _) (CoL.cons (Co.d _) CoL.nil))) rfl (OpJ.build (places := [(0, 1), (1, 1)]) ⟨underlying58, fun w => by kernel_rfl⟩ tyZS58 (Opds.cons (q 3) Opds.nil) (by kernel_rfl) (r := (.st [(qI_1 a0), (i6 0)])) (by rfl) (ltN hN rfl))) rfl (cg (OpJ.box hB (nm := 1005) (by decide) (by simp) rfl (ltN hN rfl) (q 4)) rfl (c (OpJ.assign (ltN hN rfl) (q 5)) rfl cn)))) ?_
 apply AWp.ret
 obtain rfl := Option.some.inj h
 exact ⟨.inl rfl, _, _, (kp [(2, _)] [(1005, some _)] hB rfl rfl (by rfl)), [(pt 1005)], (Res.tmp (by rfl) (by rfl) Res.nil), rfl, by rfl, by rfl, by rfl⟩
noncomputable def exchangepointmake_Mod (a0 : Int) (a1 : Int) : Option (Int) :=
 chk (decide (a1 ≠ 0)) <|
 jn (fun m3 : Int =>
 some m3) (fun j4 =>
 (if (decide ((Int.tmod a0 a1) < (0 : Int))) = true then
 j4 (w64 ((Int.tmod a0 a1) + a1))
 else
 j4 (Int.tmod a0 a1)))
theorem exchangepointmake_Mod_ac (a0 : Int) (a1 : Int) (r : Int) (h : exchangepointmake_Mod a0 a1 = some r) : AC Tryz.prog 23 [(.d (.int .i64 a0)), (.d (.int .i64 a1))] [] (.d (.int .i64 r)) [] := by
 refine AC.of_code2 Tryz.func23 rfl rfl (Nat.le_of_ble_eq_true (by rfl)) fun B hB hN => ?_
 delta exchangepointmake_Mod at h
 refine sr (c (OpJ.assign (ltN hN rfl) (Opd.int .i64 (0))) rfl cn) ?_
 obtain ⟨hc1, h⟩ := chk_some h
 refine sr (c (mv hN (q 0)) rfl (c (mv hN (q 1)) rfl (c (OpJ.rem (ltN hN rfl) (q 6) (q 7) (of_decide_eq_true hc1)) rfl (c (OpJ.assign (ltN hN rfl) (q 8)) rfl cn)))) ?_
 apply AWp.seq
 refine sr (c (mv hN (q 5)) rfl (c (OpJ.lss (ltN hN rfl) (q 9) (Opd.int .i64 (0))) rfl cn)) ?_
 refine gh [(1, _), (5, _), (10, _)] [] hB rfl rfl (by rfl) ?_
 refine AWp.cut h (fun m3 : Int => ([(5, (i6 m3))] : EL)) (fun m3 : Int => ([] : OL)) (fun m3 h E' O' hmat => ?_) (fun j4 hjj4 h => ?_)
 ·apply seqQ_n
  refine AWp.ghost hmat ?_
  refine sr (c (mv hN (q 5)) rfl (c (OpJ.assign (ltN hN rfl) (q 14)) rfl cn)) ?_
  apply AWp.ret
  obtain rfl := Option.some.inj h
  exact ⟨.inl rfl, _, _, (kp [(4, _)] [] hB rfl rfl (by rfl)), [(i6 m3)], (Res.tmp (by rfl) (by rfl) Res.nil), rfl, by rfl, by rfl, by rfl⟩
 ·refine AWp.cond rfl (fun hg5 => ?_) (fun hg5 => ?_)
  ·replace h := ite_t hg5 h
   refine rg (c (mv hN (q 5)) rfl (c (mv hN (q 1)) rfl (c (add6 (ltN hN rfl) (q 11) (q 12)) rfl (c (OpJ.assign (ltN hN rfl) (q 13)) rfl cn)))) ?_
   exact hjj4 _ h _ _ (mp [] _ _ hB)
  ·replace h := ite_f hg5 h
   apply AWp.skip
   exact hjj4 _ h _ _ (mp [] _ _ hB)
noncomputable def exchangepointmake_Deck_Next (a0 : exchangepointmake_Deck) (a1 : Int) : Option (Int × exchangepointmake_Deck) :=
 (if (decide ((a0.fL.length : Int) ≤ a0.fAt)) = true then
 some ((0 : Int), a0)
 else
 (idx a0.fL (w64 ((w64 (a0.fAt + (1 : Int))) - (1 : Int)))).bind fun x2 =>
 (exchangepointmake_Mod x2 a1).bind fun r3 =>
 some (r3, (exchangepointmake_Deck.mk a0.fL (w64 (a0.fAt + (1 : Int))))))
theorem exchangepointmake_Deck_Next_ac (a0 : exchangepointmake_Deck) (a1 : Int) (r : Int × exchangepointmake_Deck) (h : exchangepointmake_Deck_Next a0 a1 = some r) : AC Tryz.prog 26 [(pt 0), (.d (.int .i64 a1))] [(0, (.box 58 (.d (e_exchangepointmake_Deck a0))))] (.d (.int .i64 r.1)) [(0, bd 58 (e_exchangepointmake_Deck r.2))] := by
 refine AC.of_code2 Tryz.func26 rfl rfl (Nat.le_of_ble_eq_true (by rfl)) fun B hB hN => ?_
 have L {d : Nat} (h : Nat.blt d Tryz.f26.ntmps = true) : d < B.N := ltN hN h
 delta exchangepointmake_Deck_Next at h
 refine sr (c (OpJ.assign (L rfl) (Opd.int .i64 (0))) rfl cn) ?_
 apply AWp.seq
 refine sd (c (mv hN (q 0)) rfl (c (OpJ.nilP (L rfl) (q 5)) rfl (c (fo 0 1 [1] hN underlying58 1 tyS3 (q 6)) rfl (c (la hN 58 tyS3 (q 7)) rfl (c (mv hN (q 0)) rfl (c (OpJ.nilP (L rfl) (q 9)) rfl (c (fo 0 0 [0] hN underlying58 0 tyS26 (q 10)) rfl (c (la hN 58 tyS26 (q 11)) rfl (c (OpJ.val (v' := (i6 (a0.fL.length : Int))) (by simp) (OpJ.lenD underlying26 (L rfl) (q 12))) rfl (c (OpJ.geq (L rfl) (q 8) (q 13)) rfl cn)))))))))) (by kernel_rfl) (by kernel_rfl) ?_
 refine AWp.cond rfl (fun hg1 => ?_) (fun hg1 => ?_)
 ·replace h := ite_t hg1 h
  refine sr (c (OpJ.assign (L rfl) (Opd.int .i64 (0))) rfl cn) ?_
  apply AWp.ret
  apply seqQ_r
  obtain rfl := Option.some.inj h
  exact ⟨.inl rfl, _, _, (kp [(4, _)] [(0, some _)] hB rfl rfl (by rfl)), [(i6 0)], (Res.tmp (by rfl) (by rfl) Res.nil), rfl, by rfl, by rfl, by rfl⟩
 ·replace h := ite_f hg1 h
  apply AWp.skip
  apply seqQ_n
  refine sr (c (mv hN (q 0)) rfl (c (OpJ.nilP (L rfl) (q 15)) rfl (c (fo 0 1 [1] hN underlying58 1 tyS3 (q 16)) rfl (c (la hN 58 tyS3 (q 17)) rfl (c (add6 (L rfl) (q 18) (Opd.int .i64 (1))) rfl (c (OpJ.nilP (L rfl) (q 15)) rfl (c (fo 0 1 [1] hN underlying58 1 tyS3 (q 20)) rfl (cg (OpJ.storeB tyS3 (SetAt.dst1 (by rfl) (by rfl) (SetAt.here _ _) (by rfl) (by rfl) (by first | rfl | omega)) (by rfl) (by rfl) (by simp) rfl (q 21) (q 19)) rfl cn)))))))) ?_
  obtain ⟨x2, hx2, h⟩ := bindS h
  obtain ⟨r3, hr3, h⟩ := bindS h
  refine sd (c (mv hN (q 0)) rfl (c (OpJ.nilP (L rfl) (q 22)) rfl (c (fo 0 0 [0] hN underlying58 0 tyS26 (q 23)) rfl (c (la hN 58 tyS26 (q 24)) rfl (c (mv hN (q 0)) rfl (c (OpJ.nilP (L rfl) (q 26)) rfl (c (fo 0 1 [1] hN underlying58 1 tyS3 (q 27)) rfl (c (la hN 58 tyS3 (q 28)) rfl (c (sub6 (L rfl) (q 29) (Opd.int .i64 (1))) rfl (c (OpJ.indexD underlying26 tyS3 (idx_some hx2).1 (get_map (eI .i64) (idx_some hx2).2) (L rfl) (q 25) (q 30)) rfl (c (OpJ.loadD tyS3 (by rfl) (by rfl) (L rfl) (q 31)) rfl (c (mv hN (q 1)) rfl (cg (cf hB fnOk23 (exchangepointmake_Mod_ac x2 a1 r3 hr3) (L rfl) (OpdL.cons (q 32) (OpdL.cons (q 33) OpdL.nil))) rfl (c (OpJ.assign (L rfl) (q 34)) rfl cn)))))))))))))) (by kernel_rfl) (by kernel_rfl) ?_
  apply AWp.ret
  obtain rfl := Option.some.inj h
  exact ⟨.inl rfl, _, _, (kp [(4, _)] [(0, some _)] hB rfl rfl (by rfl)), [(i6 r3)], (Res.tmp (by rfl) (by rfl) Res.nil), rfl, by rfl, by rfl, by rfl⟩
end Go.Proofs.YtgcilleccigmdaaGreatDoor
