/- The statement 'ResourceMakes' holds of every input, and the package variables that it lists are laid by the text: no condition. -/
import Derived.Test.YtgcilleccigmdaaDoorRows
import Derived.Test.YtgcilleccigmdaaDoorCards
import Derived.Test.YtgcilleccigmdaaDoorTie
import Derived.SevenTiedAt
import Derived.Stop.Joined
import Derived.Test.YtgcilleccigmdaaDoorVcPl
import Derived.Test.YtgcilleccigmdaaDoorFns
import Derived.Test.YtgcilleccigmdaaDoorPureE
import Derived.Test.YtgcilleccigmdaaDoorPureL
import Derived.Test.YtgcilleccigmdaaDoorPureO
import Derived.Test.YtgcilleccigmdaaDoorPureX
import Derived.Test.YtgcilleccigmdaaDoorPureSN
import Derived.Test.YtgcilleccigmdaaDoorPureSM
import Derived.Test.YtgcilleccigmdaaDoorPureSV
import Derived.Test.YtgcilleccigmdaaDoorPureSA
namespace Go.Proofs.YtgcilleccigmdaaDoor
open Go Go.Vc Go.ChangeShapes Go.WideShapes Go.ChangeAt Go.RowKit
theorem own : ownKnob Tryd.prog.godebug = none := by kernel_rfl
theorem laid : laidOutB Tryd.prog = true := by kernel_rfl
def laidL : List (String × DataW Unit) := [("exchangepoint/resource.addresses", Rows.laid_exchangepoint_resource_addresses), ("exchangepoint/resource.numbers", Rows.laid_exchangepoint_resource_numbers)]
theorem door_met (os : Os) (args : Array Value) : laidMetH Tryd.prog laidL ((World.doorLaid Tryd.prog 19 os).forCall (fun _ _ => 0) ⟨#[], args, []⟩).memory :=
  laidMetH_of_parts3 (fuel := 8) (laidMet_of_run' 8 (by kernel_rfl) (by kernel_rfl)) (by kernel_rfl) (by kernel_rfl)
set_option maxRecDepth 100000 in
theorem glob0 {W : World} (h : laidMetH Tryd.prog laidL W) : (globF 0 [35, 37, 137]).holds (Zw W) W :=
  laid_fns3 h List.mem_cons_self (by kernel_rfl) (by kernel_rfl) Tryd.underlying88 (by kernel_rfl) rfl rfl rfl rfl (by kernel_rfl) (by kernel_rfl) (by kernel_rfl) (fun _ _ _ h => Go.func_of_trod (f0 := 35) Tryd.underlying70 (by kernel_rfl) h) (fun _ _ _ h => Go.func_of_trod (f0 := 37) Tryd.underlying73 (by kernel_rfl) h) (fun _ _ _ h => Go.func_of_trod (f0 := 137) Tryd.underlying73 (by kernel_rfl) h) rfl
set_option maxRecDepth 100000 in
theorem glob1 {W : World} (h : laidMetH Tryd.prog laidL W) : (globF 1 [70, 138, 139]).holds (Zw W) W :=
  laid_fns3 h (List.mem_cons_of_mem _ List.mem_cons_self) (by kernel_rfl) (by kernel_rfl) Tryd.underlying92 (by kernel_rfl) rfl rfl rfl rfl (by kernel_rfl) (by kernel_rfl) (by kernel_rfl) (fun _ _ _ h => Go.func_of_trod (f0 := 70) Tryd.underlying39 (by kernel_rfl) h) (fun _ _ _ h => Go.func_of_trod (f0 := 138) Tryd.underlying90 (by kernel_rfl) h) (fun _ _ _ h => Go.func_of_trod (f0 := 139) Tryd.underlying90 (by kernel_rfl) h) rfl
def knows : List (Nat × Know) := [(500, globF 0 [35, 37, 137]), (501, globF 1 [70, 138, 139])]
theorem cells4 : Tryd.prog.cellsOf 4 = 1 := by kernel_rfl
theorem rd4 : Rd Tryd.prog 4 1 false (fun d => ∃ x : Bool, True ∧ d = eB x) :=
  Rd.bool Tryd.underlying4 cells4
theorem cells30 : Tryd.prog.cellsOf 30 = 1 := by kernel_rfl
theorem rd30 : Rd Tryd.prog 30 1 false (fun d => ∃ x : Int, (IntKind.u64.min ≤ x ∧ x ≤ IntKind.u64.max) ∧ d = (eI .u64) x) :=
  Rd.int Tryd.underlying30 cells30
def q32 (x : api_Addr) : Prop := (True) ∧ ((IntKind.u64.min ≤ x.fHi ∧ x.fHi ≤ IntKind.u64.max)) ∧ ((IntKind.u64.min ≤ x.fLo ∧ x.fLo ≤ IntKind.u64.max)) ∧ True
theorem cells32 : Tryd.prog.cellsOf 32 = 3 := by kernel_rfl
theorem rd32 : Rd Tryd.prog 32 3 true (fun d => ∃ x : api_Addr, q32 x ∧ d = e_api_Addr x) :=
  Rd.st (ps := [(fun d => ∃ x : Bool, True ∧ d = eB x), (fun d => ∃ x : Int, (IntKind.u64.min ≤ x ∧ x ≤ IntKind.u64.max) ∧ d = (eI .u64) x), (fun d => ∃ x : Int, (IntKind.u64.min ≤ x ∧ x ≤ IntKind.u64.max) ∧ d = (eI .u64) x)]) Tryd.underlying32 rfl cells32 (.cons rfl rd4 (.cons rfl rd30 (.cons rfl rd30 .nil))) (fun ds h => by
    obtain ⟨_, ds0, rfl, ⟨x0, k0, rfl⟩, h0⟩ := FA.cons h
    obtain ⟨_, ds1, rfl, ⟨x1, k1, rfl⟩, h1⟩ := FA.cons h0
    obtain ⟨_, ds2, rfl, ⟨x2, k2, rfl⟩, h2⟩ := FA.cons h1
    obtain rfl := FA.nil h2
    exact ⟨⟨x0, x1, x2⟩, ⟨k0, k1, k2, trivial⟩, rfl⟩) (fun d ⟨x, k, h⟩ => by
    subst h
    obtain ⟨k0, k1, k2, _⟩ := k
    exact ⟨_, rfl, ⟨⟨_, k0, rfl⟩, ⟨⟨_, k1, rfl⟩, ⟨⟨_, k2, rfl⟩, trivial⟩⟩⟩⟩)
def q68 (x : api_Range) : Prop := (q32 x.fFrom) ∧ (q32 x.fTo) ∧ True
theorem cells68 : Tryd.prog.cellsOf 68 = 6 := by kernel_rfl
theorem rd68 : Rd Tryd.prog 68 6 true (fun d => ∃ x : api_Range, q68 x ∧ d = e_api_Range x) :=
  Rd.st (ps := [(fun d => ∃ x : api_Addr, q32 x ∧ d = e_api_Addr x), (fun d => ∃ x : api_Addr, q32 x ∧ d = e_api_Addr x)]) Tryd.underlying68 rfl cells68 (.cons rfl rd32 (.cons rfl rd32 .nil)) (fun ds h => by
    obtain ⟨_, ds0, rfl, ⟨x0, k0, rfl⟩, h0⟩ := FA.cons h
    obtain ⟨_, ds1, rfl, ⟨x1, k1, rfl⟩, h1⟩ := FA.cons h0
    obtain rfl := FA.nil h1
    exact ⟨⟨x0, x1⟩, ⟨k0, k1, trivial⟩, rfl⟩) (fun d ⟨x, k, h⟩ => by
    subst h
    obtain ⟨k0, k1, _⟩ := k
    exact ⟨_, rfl, ⟨⟨_, k0, rfl⟩, ⟨⟨_, k1, rfl⟩, trivial⟩⟩⟩)
def q25 (x : (List api_Range)) : Prop := (∀ y ∈ x, q68 y) ∧ x.length ≤ maxLen
theorem cells25 : Tryd.prog.cellsOf 25 = 1 := by kernel_rfl
theorem rd25 : Rd Tryd.prog 25 1 false (fun d => ∃ x : (List api_Range), q25 x ∧ d = (.list 6 (x.map e_api_Range))) :=
  Rd.list Tryd.underlying25 cells25 (by decide) rd68
theorem cells3 : Tryd.prog.cellsOf 3 = 1 := by kernel_rfl
theorem rd3 : Rd Tryd.prog 3 1 false (fun d => ∃ x : Int, (IntKind.i64.min ≤ x ∧ x ≤ IntKind.i64.max) ∧ d = (eI .i64) x) :=
  Rd.int Tryd.underlying3 cells3
def q48 (x : api_Span) : Prop := ((IntKind.i64.min ≤ x.fFrom ∧ x.fFrom ≤ IntKind.i64.max)) ∧ ((IntKind.i64.min ≤ x.fTo ∧ x.fTo ≤ IntKind.i64.max)) ∧ True
theorem cells48 : Tryd.prog.cellsOf 48 = 2 := by kernel_rfl
theorem rd48 : Rd Tryd.prog 48 2 true (fun d => ∃ x : api_Span, q48 x ∧ d = e_api_Span x) :=
  Rd.st (ps := [(fun d => ∃ x : Int, (IntKind.i64.min ≤ x ∧ x ≤ IntKind.i64.max) ∧ d = (eI .i64) x), (fun d => ∃ x : Int, (IntKind.i64.min ≤ x ∧ x ≤ IntKind.i64.max) ∧ d = (eI .i64) x)]) Tryd.underlying48 rfl cells48 (.cons rfl rd3 (.cons rfl rd3 .nil)) (fun ds h => by
    obtain ⟨_, ds0, rfl, ⟨x0, k0, rfl⟩, h0⟩ := FA.cons h
    obtain ⟨_, ds1, rfl, ⟨x1, k1, rfl⟩, h1⟩ := FA.cons h0
    obtain rfl := FA.nil h1
    exact ⟨⟨x0, x1⟩, ⟨k0, k1, trivial⟩, rfl⟩) (fun d ⟨x, k, h⟩ => by
    subst h
    obtain ⟨k0, k1, _⟩ := k
    exact ⟨_, rfl, ⟨⟨_, k0, rfl⟩, ⟨⟨_, k1, rfl⟩, trivial⟩⟩⟩)
def q26 (x : (List api_Span)) : Prop := (∀ y ∈ x, q48 y) ∧ x.length ≤ maxLen
theorem cells26 : Tryd.prog.cellsOf 26 = 1 := by kernel_rfl
theorem rd26 : Rd Tryd.prog 26 1 false (fun d => ∃ x : (List api_Span), q26 x ∧ d = (.list 2 (x.map e_api_Span))) :=
  Rd.list Tryd.underlying26 cells26 (by decide) rd48
def q28 (x : api_Resources) : Prop := (q25 x.fAddrs) ∧ (q26 x.fASNs) ∧ True
theorem cells28 : Tryd.prog.cellsOf 28 = 2 := by kernel_rfl
theorem rd28 : Rd Tryd.prog 28 2 true (fun d => ∃ x : api_Resources, q28 x ∧ d = e_api_Resources x) :=
  Rd.st (ps := [(fun d => ∃ x : (List api_Range), q25 x ∧ d = (.list 6 (x.map e_api_Range))), (fun d => ∃ x : (List api_Span), q26 x ∧ d = (.list 2 (x.map e_api_Span)))]) Tryd.underlying28 rfl cells28 (.cons rfl rd25 (.cons rfl rd26 .nil)) (fun ds h => by
    obtain ⟨_, ds0, rfl, ⟨x0, k0, rfl⟩, h0⟩ := FA.cons h
    obtain ⟨_, ds1, rfl, ⟨x1, k1, rfl⟩, h1⟩ := FA.cons h0
    obtain rfl := FA.nil h1
    exact ⟨⟨x0, x1⟩, ⟨k0, k1, trivial⟩, rfl⟩) (fun d ⟨x, k, h⟩ => by
    subst h
    obtain ⟨k0, k1, _⟩ := k
    exact ⟨_, rfl, ⟨⟨_, k0, rfl⟩, ⟨⟨_, k1, rfl⟩, trivial⟩⟩⟩)
def q34 (x : api_Prefix) : Prop := (q32 x.fAddr) ∧ ((IntKind.i64.min ≤ x.fLen ∧ x.fLen ≤ IntKind.i64.max)) ∧ True
theorem cells34 : Tryd.prog.cellsOf 34 = 4 := by kernel_rfl
theorem rd34 : Rd Tryd.prog 34 4 true (fun d => ∃ x : api_Prefix, q34 x ∧ d = e_api_Prefix x) :=
  Rd.st (ps := [(fun d => ∃ x : api_Addr, q32 x ∧ d = e_api_Addr x), (fun d => ∃ x : Int, (IntKind.i64.min ≤ x ∧ x ≤ IntKind.i64.max) ∧ d = (eI .i64) x)]) Tryd.underlying34 rfl cells34 (.cons rfl rd32 (.cons rfl rd3 .nil)) (fun ds h => by
    obtain ⟨_, ds0, rfl, ⟨x0, k0, rfl⟩, h0⟩ := FA.cons h
    obtain ⟨_, ds1, rfl, ⟨x1, k1, rfl⟩, h1⟩ := FA.cons h0
    obtain rfl := FA.nil h1
    exact ⟨⟨x0, x1⟩, ⟨k0, k1, trivial⟩, rfl⟩) (fun d ⟨x, k, h⟩ => by
    subst h
    obtain ⟨k0, k1, _⟩ := k
    exact ⟨_, rfl, ⟨⟨_, k0, rfl⟩, ⟨⟨_, k1, rfl⟩, trivial⟩⟩⟩)
def q36 (x : (List api_Prefix)) : Prop := (∀ y ∈ x, q34 y) ∧ x.length ≤ maxLen
theorem cells36 : Tryd.prog.cellsOf 36 = 1 := by kernel_rfl
theorem rd36 : Rd Tryd.prog 36 1 false (fun d => ∃ x : (List api_Prefix), q36 x ∧ d = (.list 4 (x.map e_api_Prefix))) :=
  Rd.list Tryd.underlying36 cells36 (by decide) rd34
def q22 (x : (List Int)) : Prop := (∀ y ∈ x, (IntKind.i64.min ≤ y ∧ y ≤ IntKind.i64.max)) ∧ x.length ≤ maxLen
theorem cells22 : Tryd.prog.cellsOf 22 = 1 := by kernel_rfl
theorem rd22 : Rd Tryd.prog 22 1 false (fun d => ∃ x : (List Int), q22 x ∧ d = (.list 1 (x.map (eI .i64)))) :=
  Rd.list Tryd.underlying22 cells22 (by decide) rd3
theorem law_ac (xs : List D) (h : FA [(fun d => ∃ x : api_Resources, q28 x ∧ d = e_api_Resources x), (fun d => ∃ x : (List api_Prefix), q36 x ∧ d = (.list 4 (x.map e_api_Prefix))), (fun d => ∃ x : (List api_Span), q26 x ∧ d = (.list 2 (x.map e_api_Span))), (fun d => ∃ x : (List Int), q22 x ∧ d = (.list 1 (x.map (eI .i64)))), (fun d => ∃ x : Int, (IntKind.i64.min ≤ x ∧ x ≤ IntKind.i64.max) ∧ d = (eI .i64) x), (fun d => ∃ x : Int, (IntKind.i64.min ≤ x ∧ x ≤ IntKind.i64.max) ∧ d = (eI .i64) x)] xs) : AC Tryd.prog 4 (xs.map .d) (knowP knows) (.d (.bool true)) (knowO knows) := by
  obtain ⟨_, xs0, rfl, ⟨a0, k0, rfl⟩, h0⟩ := FA.cons h
  obtain ⟨_, xs1, rfl, ⟨a1, k1, rfl⟩, h1⟩ := FA.cons h0
  obtain ⟨_, xs2, rfl, ⟨a2, k2, rfl⟩, h2⟩ := FA.cons h1
  obtain ⟨_, xs3, rfl, ⟨a3, k3, rfl⟩, h3⟩ := FA.cons h2
  obtain ⟨_, xs4, rfl, ⟨a4, k4, rfl⟩, h4⟩ := FA.cons h3
  obtain ⟨_, xs5, rfl, ⟨a5, k5, rfl⟩, h5⟩ := FA.cons h4
  obtain rfl := FA.nil h5
  exact exchangepointlaw21_ResourceMakes_ac a0 a1 a2 a3 a4 a5 true (makes_law a0 k0 a1 k1 a2 k2 a3 k3 a4 k4 a5 k5)
theorem read3 : Program.readableRec Tryd.prog 3 = true ∧ 3 < Tryd.prog.types.size := ⟨by kernel_rfl, of_decide_eq_true (by kernel_rfl)⟩
theorem read22 : Program.readableRec Tryd.prog 22 = true ∧ 22 < Tryd.prog.types.size := ⟨by kernel_rfl, of_decide_eq_true (by kernel_rfl)⟩
theorem read26 : Program.readableRec Tryd.prog 26 = true ∧ 26 < Tryd.prog.types.size := ⟨by kernel_rfl, of_decide_eq_true (by kernel_rfl)⟩
theorem read28 : Program.readableRec Tryd.prog 28 = true ∧ 28 < Tryd.prog.types.size := ⟨by kernel_rfl, of_decide_eq_true (by kernel_rfl)⟩
theorem read36 : Program.readableRec Tryd.prog 36 = true ∧ 36 < Tryd.prog.types.size := ⟨by kernel_rfl, of_decide_eq_true (by kernel_rfl)⟩
theorem reads : ∀ t ∈ ([28, 36, 26, 22, 3, 3] : List TypeId), Program.readableRec Tryd.prog t = true ∧ t < Tryd.prog.types.size := by
  intro t ht
  cases ht with
  | head => exact read28
  | tail _ ht =>
  cases ht with
  | head => exact read36
  | tail _ ht =>
  cases ht with
  | head => exact read26
  | tail _ ht =>
  cases ht with
  | head => exact read22
  | tail _ ht =>
  cases ht with
  | head => exact read3
  | tail _ ht =>
  cases ht with
  | head => exact read3
  | tail _ ht =>
  cases ht
set_option maxRecDepth 100000 in
theorem lifted (os : Os) (started : os.Started) (H : Type) (enc : TypeId × Value → H) :
    ReturnsInHanded {} Tryd.checked os 4 .any (fun w args => (Rows.resourceMakesSpec.pre enc Tryd.prog Tryd.f4 [] false w args ∧ laidMetH Tryd.prog laidL w) ∧ sizedMet enc Tryd.prog Tryd.f4 (OpenSpec.ofChange Rows.resourceMakesSpec) false w args)
      (Rows.resourceMakesSpec.post enc Tryd.prog Tryd.f4 false true false false) := by
  refine returnsInHanded_of_change_and (C := Tryd.checked) (X := fun w _ => laidMetH Tryd.prog laidL w) (fun _ _ _ hh h => h.of_heap hh) own started (by kernel_rfl) Tryd.func4
    (ChangeSpec.witness_shaped (enc := enc) (C := Tryd.checked) (os := os) (X := fun w _ => laidMetH Tryd.prog laidL w) false (World.doorLaid Tryd.prog 19 os) #[.agg #[.slice none 0 0, .slice none 0 0], .slice none 0 0, .slice none 0 0, .slice none 0 0, .int .i64 0, .int .i64 0] 8 rfl (World.shaped_of_RefB (by kernel_rfl) (by kernel_rfl)) (by kernel_rfl) (by kernel_rfl) (by kernel_rfl) (door_met os _)) ?_
  intro W base args ds gs before hval0 hW _ _ hL _
  have hk : ∀ p ∈ knows, p.2.holds (Zw W) W := fun p hp => by
    cases hp with
    | head => exact glob0 hL
    | tail _ hp =>
    cases hp with
    | head => exact glob1 hL
    | tail _ hp => cases hp
  exact law_callsG (P := Tryd.prog) (ts := [28, 36, 26, 22, 3, 3]) (tb := 4) knows hk hval0 hW rfl rfl (.cons rd28 (.cons rd36 (.cons rd26 (.cons rd22 (.cons rd3 (.cons rd3 .nil)))))) Tryd.underlying4 (by kernel_rfl) laid reads
    (fun ds hl => by match ds, hl with | [_, _, _, _, _, _], _ => rfl) law_ac
theorem row_holds : Rows.ResourceMakesSaid :=
  OpenClaim.holds_of_wide 4 Tryd.f4 rfl rfl rfl rfl rfl rfl rfl ⟨rfl, rfl, rfl, rfl, rfl⟩ rfl rfl rfl rfl rfl (by kernel_rfl) Tryd.func4 (by kernel_rfl)
    (of_decide_eq_true (by kernel_rfl)) (by unfold Func.isWrapper; first | (rw [if_pos (by decide +kernel)]; kernel_rfl) | (rw [if_neg (by decide +kernel)]; exact ⟨rfl, rfl⟩))
    (fun os started H enc _ => lifted os started H enc)
theorem holds : Rows.ResourceMakesCardSaid :=
  Claim7.holds_tied_plain_at .later [] [.funcs, .funcs] true (true, "857863d64da5a88b16a12c7cb158a108d114a29ed1a3c470e4d14a6a171231dd") false
    row_holds (fun _ h => by cases h) (by kernel_rfl) (fun _ h => by cases h) resourceMakes_row_tie rfl ⟨rfl, rfl⟩ (by kernel_rfl) rfl
    (fun f fn hf hfn => by
      obtain rfl : f = 4 := Option.some.inj ((show Tryd.prog.funcNamed "exchangepoint/exchangepointlaw21.ResourceMakes" = some 4 by kernel_rfl).symm.trans hf) |>.symm
      obtain rfl : fn = Tryd.f4 := (Option.some.inj (Tryd.func4.symm.trans hfn)).symm
      exact ⟨by kernel_rfl, fun j t ht => by
        rw [Tryd.params4] at ht
        have hm : t ∈ [28, 36, 26, 22, 3, 3] := by simpa using Array.mem_of_getElem? ht
        have hall : ([28, 36, 26, 22, 3, 3].all fun u => !Tryd.prog.wantsStandIn u) = true := by kernel_rfl
        exact (show Tryd.prog.wantsStandIn t = false by simpa using List.all_eq_true.1 hall t hm)⟩)
    (by kernel_rfl)
end Go.Proofs.YtgcilleccigmdaaDoor
