/- The statement 'ResourceJoins' holds of every input, and the package variables that it lists are laid by the text: no condition. -/
import Derived.Test.YtgcilleccigmdaaGreatDoorRows
import Derived.Test.YtgcilleccigmdaaGreatDoorCards
import Derived.Test.YtgcilleccigmdaaGreatDoorTie
import Derived.SevenTiedAt
import Derived.Stop.Joined
import Derived.Test.YtgcilleccigmdaaGreatDoorVcPl
import Derived.Test.YtgcilleccigmdaaGreatDoorFns
import Derived.Test.YtgcilleccigmdaaGreatDoorPureE
import Derived.Test.YtgcilleccigmdaaGreatDoorPureL
import Derived.Test.YtgcilleccigmdaaGreatDoorPureO
import Derived.Test.YtgcilleccigmdaaGreatDoorPureX
import Derived.Test.YtgcilleccigmdaaGreatDoorPureSM
import Derived.Test.YtgcilleccigmdaaGreatDoorPureSF
import Derived.Test.YtgcilleccigmdaaGreatDoorPureZC
import Derived.Test.YtgcilleccigmdaaGreatDoorPureSV
import Derived.Test.YtgcilleccigmdaaGreatDoorPureZJ
namespace Go.Proofs.YtgcilleccigmdaaGreatDoor
open Go Go.Vc Go.ChangeShapes Go.WideShapes Go.ChangeAt Go.RowKit
theorem own : ownKnob Tryz.prog.godebug = none := by kernel_rfl
theorem laid : laidOutB Tryz.prog = true := by kernel_rfl
def laidL : List (String × DataW Unit) := [("exchangepoint/resource.addresses", Rows.laid_exchangepoint_resource_addresses), ("exchangepoint/resource.numbers", Rows.laid_exchangepoint_resource_numbers)]
theorem door_met (os : Os) (args : Array Value) : laidMetH Tryz.prog laidL ((World.doorLaid Tryz.prog 19 os).forCall (fun _ _ => 0) ⟨#[], args, []⟩).memory :=
 laidMetH_of_parts3 (fuel := 8) (laidMet_of_run' 8 (by kernel_rfl) (by kernel_rfl)) (by kernel_rfl) (by kernel_rfl)
set_option maxRecDepth 100000 in
theorem glob0 {W : World} (h : laidMetH Tryz.prog laidL W) : (globF 0 [50, 52, 133]).holds (Zw W) W :=
 laid_fns3 h List.mem_cons_self (by kernel_rfl) (by kernel_rfl) Tryz.underlying73 (by kernel_rfl) rfl rfl rfl rfl (by kernel_rfl) (by kernel_rfl) (by kernel_rfl) (fun _ _ _ h => Go.func_of_trod (f0 := 50) Tryz.underlying71 (by kernel_rfl) h) (fun _ _ _ h => Go.func_of_trod (f0 := 52) Tryz.underlying48 (by kernel_rfl) h) (fun _ _ _ h => Go.func_of_trod (f0 := 133) Tryz.underlying48 (by kernel_rfl) h) rfl
set_option maxRecDepth 100000 in
theorem glob1 {W : World} (h : laidMetH Tryz.prog laidL W) : (globF 1 [71, 134, 135]).holds (Zw W) W :=
 laid_fns3 h (List.mem_cons_of_mem _ List.mem_cons_self) (by kernel_rfl) (by kernel_rfl) Tryz.underlying77 (by kernel_rfl) rfl rfl rfl rfl (by kernel_rfl) (by kernel_rfl) (by kernel_rfl) (fun _ _ _ h => Go.func_of_trod (f0 := 71) Tryz.underlying50 (by kernel_rfl) h) (fun _ _ _ h => Go.func_of_trod (f0 := 134) Tryz.underlying75 (by kernel_rfl) h) (fun _ _ _ h => Go.func_of_trod (f0 := 135) Tryz.underlying75 (by kernel_rfl) h) rfl
def knows : List (Nat × Know) := [(500, globF 0 [50, 52, 133]), (501, globF 1 [71, 134, 135])]
theorem cells4 : Tryz.prog.cellsOf 4 = 1 := by kernel_rfl
theorem rd4 : Rd Tryz.prog 4 1 false (fun d => ∃ x : Bool, True ∧ d = eB x) :=
 Rd.bool Tryz.underlying4 cells4
theorem cells40 : Tryz.prog.cellsOf 40 = 1 := by kernel_rfl
theorem rd40 : Rd Tryz.prog 40 1 false (fun d => ∃ x : Int, (IntKind.u64.min ≤ x ∧ x ≤ IntKind.u64.max) ∧ d = (eI .u64) x) :=
 Rd.int Tryz.underlying40 cells40
def q42 (x : api_Addr) : Prop := (True) ∧ ((IntKind.u64.min ≤ x.fHi ∧ x.fHi ≤ IntKind.u64.max)) ∧ ((IntKind.u64.min ≤ x.fLo ∧ x.fLo ≤ IntKind.u64.max)) ∧ True
theorem cells42 : Tryz.prog.cellsOf 42 = 3 := by kernel_rfl
theorem rd42 : Rd Tryz.prog 42 3 true (fun d => ∃ x : api_Addr, q42 x ∧ d = e_api_Addr x) :=
 Rd.st (ps := [(fun d => ∃ x : Bool, True ∧ d = eB x), (fun d => ∃ x : Int, (IntKind.u64.min ≤ x ∧ x ≤ IntKind.u64.max) ∧ d = (eI .u64) x), (fun d => ∃ x : Int, (IntKind.u64.min ≤ x ∧ x ≤ IntKind.u64.max) ∧ d = (eI .u64) x)]) Tryz.underlying42 rfl cells42 (.cons rfl rd4 (.cons rfl rd40 (.cons rfl rd40 .nil))) (fun ds h => by
  obtain ⟨_, ds0, rfl, ⟨x0, k0, rfl⟩, h0⟩ := FA.cons h
  obtain ⟨_, ds1, rfl, ⟨x1, k1, rfl⟩, h1⟩ := FA.cons h0
  obtain ⟨_, ds2, rfl, ⟨x2, k2, rfl⟩, h2⟩ := FA.cons h1
  obtain rfl := FA.nil h2
  exact ⟨⟨x0, x1, x2⟩, ⟨k0, k1, k2, trivial⟩, rfl⟩) (fun d ⟨x, k, h⟩ => by
  subst h
  obtain ⟨k0, k1, k2, _⟩ := k
  exact ⟨_, rfl, ⟨⟨_, k0, rfl⟩, ⟨⟨_, k1, rfl⟩, ⟨⟨_, k2, rfl⟩, trivial⟩⟩⟩⟩)
def q46 (x : api_Range) : Prop := (q42 x.fFrom) ∧ (q42 x.fTo) ∧ True
theorem cells46 : Tryz.prog.cellsOf 46 = 6 := by kernel_rfl
theorem rd46 : Rd Tryz.prog 46 6 true (fun d => ∃ x : api_Range, q46 x ∧ d = e_api_Range x) :=
 Rd.st (ps := [(fun d => ∃ x : api_Addr, q42 x ∧ d = e_api_Addr x), (fun d => ∃ x : api_Addr, q42 x ∧ d = e_api_Addr x)]) Tryz.underlying46 rfl cells46 (.cons rfl rd42 (.cons rfl rd42 .nil)) (fun ds h => by
  obtain ⟨_, ds0, rfl, ⟨x0, k0, rfl⟩, h0⟩ := FA.cons h
  obtain ⟨_, ds1, rfl, ⟨x1, k1, rfl⟩, h1⟩ := FA.cons h0
  obtain rfl := FA.nil h1
  exact ⟨⟨x0, x1⟩, ⟨k0, k1, trivial⟩, rfl⟩) (fun d ⟨x, k, h⟩ => by
  subst h
  obtain ⟨k0, k1, _⟩ := k
  exact ⟨_, rfl, ⟨⟨_, k0, rfl⟩, ⟨⟨_, k1, rfl⟩, trivial⟩⟩⟩)
def q22 (x : (List api_Range)) : Prop := (∀ y ∈ x, q46 y) ∧ x.length ≤ maxLen
theorem cells22 : Tryz.prog.cellsOf 22 = 1 := by kernel_rfl
theorem rd22 : Rd Tryz.prog 22 1 false (fun d => ∃ x : (List api_Range), q22 x ∧ d = (.list 6 (x.map e_api_Range))) :=
 Rd.list Tryz.underlying22 cells22 (by decide) rd46
theorem cells3 : Tryz.prog.cellsOf 3 = 1 := by kernel_rfl
theorem rd3 : Rd Tryz.prog 3 1 false (fun d => ∃ x : Int, (IntKind.i64.min ≤ x ∧ x ≤ IntKind.i64.max) ∧ d = (eI .i64) x) :=
 Rd.int Tryz.underlying3 cells3
def q62 (x : api_Span) : Prop := ((IntKind.i64.min ≤ x.fFrom ∧ x.fFrom ≤ IntKind.i64.max)) ∧ ((IntKind.i64.min ≤ x.fTo ∧ x.fTo ≤ IntKind.i64.max)) ∧ True
theorem cells62 : Tryz.prog.cellsOf 62 = 2 := by kernel_rfl
theorem rd62 : Rd Tryz.prog 62 2 true (fun d => ∃ x : api_Span, q62 x ∧ d = e_api_Span x) :=
 Rd.st (ps := [(fun d => ∃ x : Int, (IntKind.i64.min ≤ x ∧ x ≤ IntKind.i64.max) ∧ d = (eI .i64) x), (fun d => ∃ x : Int, (IntKind.i64.min ≤ x ∧ x ≤ IntKind.i64.max) ∧ d = (eI .i64) x)]) Tryz.underlying62 rfl cells62 (.cons rfl rd3 (.cons rfl rd3 .nil)) (fun ds h => by
  obtain ⟨_, ds0, rfl, ⟨x0, k0, rfl⟩, h0⟩ := FA.cons h
  obtain ⟨_, ds1, rfl, ⟨x1, k1, rfl⟩, h1⟩ := FA.cons h0
  obtain rfl := FA.nil h1
  exact ⟨⟨x0, x1⟩, ⟨k0, k1, trivial⟩, rfl⟩) (fun d ⟨x, k, h⟩ => by
  subst h
  obtain ⟨k0, k1, _⟩ := k
  exact ⟨_, rfl, ⟨⟨_, k0, rfl⟩, ⟨⟨_, k1, rfl⟩, trivial⟩⟩⟩)
def q23 (x : (List api_Span)) : Prop := (∀ y ∈ x, q62 y) ∧ x.length ≤ maxLen
theorem cells23 : Tryz.prog.cellsOf 23 = 1 := by kernel_rfl
theorem rd23 : Rd Tryz.prog 23 1 false (fun d => ∃ x : (List api_Span), q23 x ∧ d = (.list 2 (x.map e_api_Span))) :=
 Rd.list Tryz.underlying23 cells23 (by decide) rd62
def q25 (x : api_Resources) : Prop := (q22 x.fAddrs) ∧ (q23 x.fASNs) ∧ True
theorem cells25 : Tryz.prog.cellsOf 25 = 2 := by kernel_rfl
theorem rd25 : Rd Tryz.prog 25 2 true (fun d => ∃ x : api_Resources, q25 x ∧ d = e_api_Resources x) :=
 Rd.st (ps := [(fun d => ∃ x : (List api_Range), q22 x ∧ d = (.list 6 (x.map e_api_Range))), (fun d => ∃ x : (List api_Span), q23 x ∧ d = (.list 2 (x.map e_api_Span)))]) Tryz.underlying25 rfl cells25 (.cons rfl rd22 (.cons rfl rd23 .nil)) (fun ds h => by
  obtain ⟨_, ds0, rfl, ⟨x0, k0, rfl⟩, h0⟩ := FA.cons h
  obtain ⟨_, ds1, rfl, ⟨x1, k1, rfl⟩, h1⟩ := FA.cons h0
  obtain rfl := FA.nil h1
  exact ⟨⟨x0, x1⟩, ⟨k0, k1, trivial⟩, rfl⟩) (fun d ⟨x, k, h⟩ => by
  subst h
  obtain ⟨k0, k1, _⟩ := k
  exact ⟨_, rfl, ⟨⟨_, k0, rfl⟩, ⟨⟨_, k1, rfl⟩, trivial⟩⟩⟩)
def q26 (x : (List Int)) : Prop := (∀ y ∈ x, (IntKind.i64.min ≤ y ∧ y ≤ IntKind.i64.max)) ∧ x.length ≤ maxLen
theorem cells26 : Tryz.prog.cellsOf 26 = 1 := by kernel_rfl
theorem rd26 : Rd Tryz.prog 26 1 false (fun d => ∃ x : (List Int), q26 x ∧ d = (.list 1 (x.map (eI .i64)))) :=
 Rd.list Tryz.underlying26 cells26 (by decide) rd3
theorem law_ac (xs : List D) (h : FA [(fun d => ∃ x : api_Resources, q25 x ∧ d = e_api_Resources x), (fun d => ∃ x : (List Int), q26 x ∧ d = (.list 1 (x.map (eI .i64)))), (fun d => ∃ x : (List Int), q26 x ∧ d = (.list 1 (x.map (eI .i64)))), (fun d => ∃ x : Int, (IntKind.i64.min ≤ x ∧ x ≤ IntKind.i64.max) ∧ d = (eI .i64) x), (fun d => ∃ x : Int, (IntKind.i64.min ≤ x ∧ x ≤ IntKind.i64.max) ∧ d = (eI .i64) x)] xs) : AC Tryz.prog 3 (xs.map .d) (knowP knows) (.d (.bool true)) (knowO knows) := by
 obtain ⟨_, xs0, rfl, ⟨a0, k0, rfl⟩, h0⟩ := FA.cons h
 obtain ⟨_, xs1, rfl, ⟨a1, k1, rfl⟩, h1⟩ := FA.cons h0
 obtain ⟨_, xs2, rfl, ⟨a2, k2, rfl⟩, h2⟩ := FA.cons h1
 obtain ⟨_, xs3, rfl, ⟨a3, k3, rfl⟩, h3⟩ := FA.cons h2
 obtain ⟨_, xs4, rfl, ⟨a4, k4, rfl⟩, h4⟩ := FA.cons h3
 obtain rfl := FA.nil h4
 exact exchangepointlaw21_ResourceJoins_ac a0 a1 a2 a3 a4 true (joins_law a0 k0 a1 k1 a2 k2 a3 k3 a4 k4)
theorem read3 : Program.readableRec Tryz.prog 3 = true ∧ 3 < Tryz.prog.types.size := ⟨by kernel_rfl, of_decide_eq_true (by kernel_rfl)⟩
theorem read25 : Program.readableRec Tryz.prog 25 = true ∧ 25 < Tryz.prog.types.size := ⟨by kernel_rfl, of_decide_eq_true (by kernel_rfl)⟩
theorem read26 : Program.readableRec Tryz.prog 26 = true ∧ 26 < Tryz.prog.types.size := ⟨by kernel_rfl, of_decide_eq_true (by kernel_rfl)⟩
theorem reads : ∀ t ∈ ([25, 26, 26, 3, 3] : List TypeId), Program.readableRec Tryz.prog t = true ∧ t < Tryz.prog.types.size := by
 intro t ht
 cases ht with
 | head => exact read25
 | tail _ ht =>
 cases ht with
 | head => exact read26
 | tail _ ht =>
 cases ht with
 | head => exact read26
 | tail _ ht =>
 cases ht with
 | head => exact read3
 | tail _ ht =>
 cases ht with
 | head => exact read3
 | tail _ ht =>
 cases ht
set_option maxRecDepth 100000 in
theorem lifted (os : Os) (started : os.Started) (H : Type) (enc : TypeId × Value → H) :
  ReturnsInHanded {} Tryz.checked os 3 .any (fun w args => (Rows.resourceJoinsSpec.pre enc Tryz.prog Tryz.f3 [] false w args ∧ laidMetH Tryz.prog laidL w) ∧ sizedMet enc Tryz.prog Tryz.f3 (OpenSpec.ofChange Rows.resourceJoinsSpec) false w args)
   (Rows.resourceJoinsSpec.post enc Tryz.prog Tryz.f3 false true false false) := by
 refine returnsInHanded_of_change_and (C := Tryz.checked) (X := fun w _ => laidMetH Tryz.prog laidL w) (fun _ _ _ hh h => h.of_heap hh) own started (by kernel_rfl) Tryz.func3
  (ChangeSpec.witness_shaped (enc := enc) (C := Tryz.checked) (os := os) (X := fun w _ => laidMetH Tryz.prog laidL w) false (World.doorLaid Tryz.prog 19 os) #[.agg #[.slice none 0 0, .slice none 0 0], .slice none 0 0, .slice none 0 0, .int .i64 0, .int .i64 0] 8 rfl (World.shaped_of_RefB (by kernel_rfl) (by kernel_rfl)) (by kernel_rfl) (by kernel_rfl) (by kernel_rfl) (door_met os _)) ?_
 intro W base args ds gs before hval0 hW _ _ hL _
 have hk : ∀ p ∈ knows, p.2.holds (Zw W) W := fun p hp => by
  cases hp with
  | head => exact glob0 hL
  | tail _ hp =>
  cases hp with
  | head => exact glob1 hL
  | tail _ hp => cases hp
 exact law_callsG (P := Tryz.prog) (ts := [25, 26, 26, 3, 3]) (tb := 4) knows hk hval0 hW rfl rfl (.cons rd25 (.cons rd26 (.cons rd26 (.cons rd3 (.cons rd3 .nil))))) Tryz.underlying4 (by kernel_rfl) laid reads
  (fun ds hl => by match ds, hl with | [_, _, _, _, _], _ => rfl) law_ac
theorem row_holds : Rows.ResourceJoinsSaid :=
 OpenClaim.holds_of_wide 3 Tryz.f3 rfl rfl rfl rfl rfl rfl rfl ⟨rfl, rfl, rfl, rfl, rfl⟩ rfl rfl rfl rfl rfl (by kernel_rfl) Tryz.func3 (by kernel_rfl)
  (of_decide_eq_true (by kernel_rfl)) (by unfold Func.isWrapper; first | (rw [if_pos (by decide +kernel)]; kernel_rfl) | (rw [if_neg (by decide +kernel)]; exact ⟨rfl, rfl⟩))
  (fun os started H enc _ => lifted os started H enc)
theorem holds : Rows.ResourceJoinsCardSaid :=
 Claim7.holds_tied_plain_at .later [] [.funcs, .funcs] true (true, "6e80db2c9731166754fd760080ed949bd1e9294c8847a03dae4cad219a771026") false
  row_holds (fun _ h => by cases h) (by kernel_rfl) (fun _ h => by cases h) resourceJoins_row_tie rfl ⟨rfl, rfl⟩ (by kernel_rfl) rfl
  (fun f fn hf hfn => by
   obtain rfl : f = 3 := Option.some.inj ((show Tryz.prog.funcNamed "exchangepoint/exchangepointlaw21.ResourceJoins" = some 3 by kernel_rfl).symm.trans hf) |>.symm
   obtain rfl : fn = Tryz.f3 := (Option.some.inj (Tryz.func3.symm.trans hfn)).symm
   exact ⟨by kernel_rfl, fun j t ht => by
    rw [Tryz.params3] at ht
    have hm : t ∈ [25, 26, 26, 3, 3] := by simpa using Array.mem_of_getElem? ht
    have hall : ([25, 26, 26, 3, 3].all fun u => !Tryz.prog.wantsStandIn u) = true := by kernel_rfl
    exact (show Tryz.prog.wantsStandIn t = false by simpa using List.all_eq_true.1 hall t hm)⟩)
  (by kernel_rfl)
end Go.Proofs.YtgcilleccigmdaaGreatDoor
