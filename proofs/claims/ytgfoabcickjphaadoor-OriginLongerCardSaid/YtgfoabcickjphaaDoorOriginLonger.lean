/- The statement 'OriginLonger' holds of every input, and the package variables that it lists are laid by the text: no condition. -/
import Derived.Test.YtgfoabcickjphaaDoorRows
import Derived.Test.YtgfoabcickjphaaDoorCards
import Derived.Test.YtgfoabcickjphaaDoorTie
import Derived.SevenTiedAt
import Derived.Stop.Joined
import Derived.Test.YtgfoabcickjphaaDoorVcPl
import Derived.Test.YtgfoabcickjphaaDoorFns
import Derived.Test.YtgfoabcickjphaaDoorPureE
import Derived.Test.YtgfoabcickjphaaDoorPureL
import Derived.Test.YtgfoabcickjphaaDoorPureO
import Derived.Test.YtgfoabcickjphaaDoorPureQ
import Derived.Test.YtgfoabcickjphaaDoorPureX
import Derived.Test.YtgfoabcickjphaaDoorPureSM
import Derived.Test.YtgfoabcickjphaaDoorPureSF
import Derived.Test.YtgfoabcickjphaaDoorPureZC
import Derived.Test.YtgfoabcickjphaaDoorPureT
import Derived.Test.YtgfoabcickjphaaDoorPureA
import Derived.Test.YtgfoabcickjphaaDoorPureSL
namespace Go.Proofs.YtgfoabcickjphaaDoor
open Go Go.Vc Go.ChangeShapes Go.WideShapes Go.ChangeAt Go.RowKit
theorem own : ownKnob Tryd.prog.godebug = none := by kernel_rfl
theorem laid : laidOutB Tryd.prog = true := by kernel_rfl
def laidL : List (String × DataW Unit) := [("exchangepoint/resource.addresses", Rows.laid_exchangepoint_resource_addresses), ("exchangepoint/resource.numbers", Rows.laid_exchangepoint_resource_numbers)]
theorem door_met (os : Os) (args : Array Value) : laidMetH Tryd.prog laidL ((World.doorLaid Tryd.prog 19 os).forCall (fun _ _ => 0) ⟨#[], args, []⟩).memory :=
 laidMetH_of_parts3 (fuel := 8) (laidMet_of_run' 8 (by kernel_rfl) (by kernel_rfl)) (by kernel_rfl) (by kernel_rfl)
set_option maxRecDepth 100000 in
theorem glob0 {W : World} (h : laidMetH Tryd.prog laidL W) : (globF 0 [82, 122, 123]).holds (Zw W) W :=
 laid_fns3 h List.mem_cons_self (by kernel_rfl) (by kernel_rfl) Tryd.underlying102 (by kernel_rfl) rfl rfl rfl rfl (by kernel_rfl) (by kernel_rfl) (by kernel_rfl) (fun _ _ _ h => Go.func_of_trod (f0 := 82) Tryd.underlying99 (by kernel_rfl) h) (fun _ _ _ h => Go.func_of_trod (f0 := 122) Tryd.underlying100 (by kernel_rfl) h) (fun _ _ _ h => Go.func_of_trod (f0 := 123) Tryd.underlying100 (by kernel_rfl) h) rfl
set_option maxRecDepth 100000 in
theorem glob1 {W : World} (h : laidMetH Tryd.prog laidL W) : (globF 1 [77, 124, 125]).holds (Zw W) W :=
 laid_fns3 h (List.mem_cons_of_mem _ List.mem_cons_self) (by kernel_rfl) (by kernel_rfl) Tryd.underlying106 (by kernel_rfl) rfl rfl rfl rfl (by kernel_rfl) (by kernel_rfl) (by kernel_rfl) (fun _ _ _ h => Go.func_of_trod (f0 := 77) Tryd.underlying31 (by kernel_rfl) h) (fun _ _ _ h => Go.func_of_trod (f0 := 124) Tryd.underlying104 (by kernel_rfl) h) (fun _ _ _ h => Go.func_of_trod (f0 := 125) Tryd.underlying104 (by kernel_rfl) h) rfl
def knows : List (Nat × Know) := [(500, globF 0 [82, 122, 123]), (501, globF 1 [77, 124, 125])]
theorem cells3 : Tryd.prog.cellsOf 3 = 1 := by kernel_rfl
theorem rd3 : Rd Tryd.prog 3 1 false (fun d => ∃ x : Int, (IntKind.i64.min ≤ x ∧ x ≤ IntKind.i64.max) ∧ d = (eI .i64) x) :=
 Rd.int Tryd.underlying3 cells3
def q22 (x : (List Int)) : Prop := (∀ y ∈ x, (IntKind.i64.min ≤ y ∧ y ≤ IntKind.i64.max)) ∧ x.length ≤ maxLen
theorem cells22 : Tryd.prog.cellsOf 22 = 1 := by kernel_rfl
theorem rd22 : Rd Tryd.prog 22 1 false (fun d => ∃ x : (List Int), q22 x ∧ d = (.list 1 (x.map (eI .i64)))) :=
 Rd.list Tryd.underlying22 cells22 (by decide) rd3
theorem law_ac (xs : List D) (h : FA [(fun d => ∃ x : (List Int), q22 x ∧ d = (.list 1 (x.map (eI .i64)))), (fun d => ∃ x : Int, (IntKind.i64.min ≤ x ∧ x ≤ IntKind.i64.max) ∧ d = (eI .i64) x)] xs) : AC Tryd.prog 5 (xs.map .d) (knowP knows) (.d (.bool true)) (knowO knows) := by
 obtain ⟨_, xs0, rfl, ⟨a0, k0, rfl⟩, h0⟩ := FA.cons h
 obtain ⟨_, xs1, rfl, ⟨a1, k1, rfl⟩, h1⟩ := FA.cons h0
 obtain rfl := FA.nil h1
 exact exchangepointlaw22_OriginLonger_ac a0 a1 true (longer_law a0 k0 a1 k1)
theorem read3 : Program.readableRec Tryd.prog 3 = true ∧ 3 < Tryd.prog.types.size := ⟨by kernel_rfl, of_decide_eq_true (by kernel_rfl)⟩
theorem read22 : Program.readableRec Tryd.prog 22 = true ∧ 22 < Tryd.prog.types.size := ⟨by kernel_rfl, of_decide_eq_true (by kernel_rfl)⟩
theorem reads : ∀ t ∈ ([22, 3] : List TypeId), Program.readableRec Tryd.prog t = true ∧ t < Tryd.prog.types.size := by
 intro t ht
 cases ht with
 | head => exact read22
 | tail _ ht =>
 cases ht with
 | head => exact read3
 | tail _ ht =>
 cases ht
set_option maxRecDepth 100000 in
theorem lifted (os : Os) (started : os.Started) (H : Type) (enc : TypeId × Value → H) :
  ReturnsInHanded {} Tryd.checked os 5 .any (fun w args => (Rows.originLongerSpec.pre enc Tryd.prog Tryd.f5 [] false w args ∧ laidMetH Tryd.prog laidL w) ∧ sizedMet enc Tryd.prog Tryd.f5 (OpenSpec.ofChange Rows.originLongerSpec) false w args)
   (Rows.originLongerSpec.post enc Tryd.prog Tryd.f5 false true false false) := by
 refine returnsInHanded_of_change_and (C := Tryd.checked) (X := fun w _ => laidMetH Tryd.prog laidL w) (fun _ _ _ hh h => h.of_heap hh) own started (by kernel_rfl) Tryd.func5
  (ChangeSpec.witness_shaped (enc := enc) (C := Tryd.checked) (os := os) (X := fun w _ => laidMetH Tryd.prog laidL w) false (World.doorLaid Tryd.prog 19 os) #[.slice none 0 0, .int .i64 0] 8 rfl (World.shaped_of_RefB (by kernel_rfl) (by kernel_rfl)) (by kernel_rfl) (by kernel_rfl) (by kernel_rfl) (door_met os _)) ?_
 intro W base args ds gs before hval0 hW _ _ hL _
 have hk : ∀ p ∈ knows, p.2.holds (Zw W) W := fun p hp => by
  cases hp with
  | head => exact glob0 hL
  | tail _ hp =>
  cases hp with
  | head => exact glob1 hL
  | tail _ hp => cases hp
 exact law_callsG (P := Tryd.prog) (ts := [22, 3]) (tb := 4) knows hk hval0 hW rfl rfl (.cons rd22 (.cons rd3 .nil)) Tryd.underlying4 (by kernel_rfl) laid reads
  (fun ds hl => by match ds, hl with | [_, _], _ => rfl) law_ac
theorem row_holds : Rows.OriginLongerSaid :=
 OpenClaim.holds_of_wide 5 Tryd.f5 rfl rfl rfl rfl rfl rfl rfl ⟨rfl, rfl, rfl, rfl, rfl⟩ rfl rfl rfl rfl rfl (by kernel_rfl) Tryd.func5 (by kernel_rfl)
  (of_decide_eq_true (by kernel_rfl)) (by unfold Func.isWrapper; first | (rw [if_pos (by decide +kernel)]; kernel_rfl) | (rw [if_neg (by decide +kernel)]; exact ⟨rfl, rfl⟩))
  (fun os started H enc _ => lifted os started H enc)
theorem holds : Rows.OriginLongerCardSaid :=
 Claim7.holds_tied_plain_at .later [] [.funcs, .funcs] true (true, "98bc6fea06ba6d30c3ddba8eaffcb34856372b209985df747061ceae673ffcaf") false
  row_holds (fun _ h => by cases h) (by kernel_rfl) (fun _ h => by cases h) originLonger_row_tie rfl ⟨rfl, rfl⟩ (by kernel_rfl) rfl
  (fun f fn hf hfn => by
   obtain rfl : f = 5 := Option.some.inj ((show Tryd.prog.funcNamed "exchangepoint/exchangepointlaw22.OriginLonger" = some 5 by kernel_rfl).symm.trans hf) |>.symm
   obtain rfl : fn = Tryd.f5 := (Option.some.inj (Tryd.func5.symm.trans hfn)).symm
   exact ⟨by kernel_rfl, fun j t ht => by
    rw [Tryd.params5] at ht
    have hm : t ∈ [22, 3] := by simpa using Array.mem_of_getElem? ht
    have hall : ([22, 3].all fun u => !Tryd.prog.wantsStandIn u) = true := by kernel_rfl
    exact (show Tryd.prog.wantsStandIn t = false by simpa using List.all_eq_true.1 hall t hm)⟩)
  (by kernel_rfl)
end Go.Proofs.YtgfoabcickjphaaDoor
