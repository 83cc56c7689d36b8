/- The statement 'SampleLists' holds of every input: no condition. -/
import Derived.Test.YtdjdoeengjdmmaaRows
import Derived.Test.YtdjdoeengjdmmaaFns
import Derived.Test.YtdjdoeengjdmmaaPureE
namespace Go.Proofs.Ytdjdoeengjdmmaa
open Go Go.Vc Go.ChangeShapes Go.WideShapes Go.ChangeAt Go.RowKit
theorem own : ownKnob Try.prog.godebug = none := by kernel_rfl
theorem laid : laidOutB Try.prog = true := by kernel_rfl
theorem cells3 : Try.prog.cellsOf 3 = 1 := by kernel_rfl
theorem rd3 : Rd Try.prog 3 1 false (fun d => ∃ x : Int, (IntKind.i64.min ≤ x ∧ x ≤ IntKind.i64.max) ∧ d = (eI .i64) x) :=
  Rd.int Try.underlying3 cells3
def q36 (x : api_Sample) : Prop := ((IntKind.i64.min ≤ x.fTick ∧ x.fTick ≤ IntKind.i64.max)) ∧ ((IntKind.i64.min ≤ x.fSeq ∧ x.fSeq ≤ IntKind.i64.max)) ∧ ((IntKind.i64.min ≤ x.fPool ∧ x.fPool ≤ IntKind.i64.max)) ∧ ((IntKind.i64.min ≤ x.fIn ∧ x.fIn ≤ IntKind.i64.max)) ∧ ((IntKind.i64.min ≤ x.fOut ∧ x.fOut ≤ IntKind.i64.max)) ∧ ((IntKind.i64.min ≤ x.fBytes ∧ x.fBytes ≤ IntKind.i64.max)) ∧ True
theorem cells36 : Try.prog.cellsOf 36 = 6 := by kernel_rfl
theorem rd36 : Rd Try.prog 36 6 true (fun d => ∃ x : api_Sample, q36 x ∧ d = e_api_Sample x) :=
  Rd.st (ps := [(fun d => ∃ x : Int, (IntKind.i64.min ≤ x ∧ x ≤ IntKind.i64.max) ∧ d = (eI .i64) x), (fun d => ∃ x : Int, (IntKind.i64.min ≤ x ∧ x ≤ IntKind.i64.max) ∧ d = (eI .i64) x), (fun d => ∃ x : Int, (IntKind.i64.min ≤ x ∧ x ≤ IntKind.i64.max) ∧ d = (eI .i64) x), (fun d => ∃ x : Int, (IntKind.i64.min ≤ x ∧ x ≤ IntKind.i64.max) ∧ d = (eI .i64) x), (fun d => ∃ x : Int, (IntKind.i64.min ≤ x ∧ x ≤ IntKind.i64.max) ∧ d = (eI .i64) x), (fun d => ∃ x : Int, (IntKind.i64.min ≤ x ∧ x ≤ IntKind.i64.max) ∧ d = (eI .i64) x)]) Try.underlying36 rfl cells36 (.cons rfl rd3 (.cons rfl rd3 (.cons rfl rd3 (.cons rfl rd3 (.cons rfl rd3 (.cons rfl rd3 .nil)))))) (fun ds h => by
    obtain ⟨_, ds0, rfl, ⟨x0, k0, rfl⟩, h0⟩ := FA.cons h
    obtain ⟨_, ds1, rfl, ⟨x1, k1, rfl⟩, h1⟩ := FA.cons h0
    obtain ⟨_, ds2, rfl, ⟨x2, k2, rfl⟩, h2⟩ := FA.cons h1
    obtain ⟨_, ds3, rfl, ⟨x3, k3, rfl⟩, h3⟩ := FA.cons h2
    obtain ⟨_, ds4, rfl, ⟨x4, k4, rfl⟩, h4⟩ := FA.cons h3
    obtain ⟨_, ds5, rfl, ⟨x5, k5, rfl⟩, h5⟩ := FA.cons h4
    obtain rfl := FA.nil h5
    exact ⟨⟨x0, x1, x2, x3, x4, x5⟩, ⟨k0, k1, k2, k3, k4, k5, trivial⟩, rfl⟩) (fun d ⟨x, k, h⟩ => by
    subst h
    obtain ⟨k0, k1, k2, k3, k4, k5, _⟩ := k
    exact ⟨_, rfl, ⟨⟨_, k0, rfl⟩, ⟨⟨_, k1, rfl⟩, ⟨⟨_, k2, rfl⟩, ⟨⟨_, k3, rfl⟩, ⟨⟨_, k4, rfl⟩, ⟨⟨_, k5, rfl⟩, trivial⟩⟩⟩⟩⟩⟩⟩)
def q31 (x : (List api_Sample)) : Prop := (∀ y ∈ x, q36 y) ∧ x.length ≤ maxLen
theorem cells31 : Try.prog.cellsOf 31 = 1 := by kernel_rfl
theorem rd31 : Rd Try.prog 31 1 false (fun d => ∃ x : (List api_Sample), q31 x ∧ d = (.list 6 (x.map e_api_Sample))) :=
  Rd.list Try.underlying31 cells31 (by decide) rd36
def q23 (x : (List Int)) : Prop := (∀ y ∈ x, (IntKind.i64.min ≤ y ∧ y ≤ IntKind.i64.max)) ∧ x.length ≤ maxLen
theorem cells23 : Try.prog.cellsOf 23 = 1 := by kernel_rfl
theorem rd23 : Rd Try.prog 23 1 false (fun d => ∃ x : (List Int), q23 x ∧ d = (.list 1 (x.map (eI .i64)))) :=
  Rd.list Try.underlying23 cells23 (by decide) rd3
theorem law_ac (xs : List D) (h : FA [(fun d => ∃ x : (List api_Sample), q31 x ∧ d = (.list 6 (x.map e_api_Sample))), (fun d => ∃ x : (List Int), q23 x ∧ d = (.list 1 (x.map (eI .i64)))), (fun d => ∃ x : Int, (IntKind.i64.min ≤ x ∧ x ≤ IntKind.i64.max) ∧ d = (eI .i64) x), (fun d => ∃ x : Int, (IntKind.i64.min ≤ x ∧ x ≤ IntKind.i64.max) ∧ d = (eI .i64) x), (fun d => ∃ x : Int, (IntKind.i64.min ≤ x ∧ x ≤ IntKind.i64.max) ∧ d = (eI .i64) x), (fun d => ∃ x : Int, (IntKind.i64.min ≤ x ∧ x ≤ IntKind.i64.max) ∧ d = (eI .i64) x)] xs) : AC Try.prog 6 (xs.map .d) [] (.d (.bool true)) [] := by
  obtain ⟨_, xs0, rfl, ⟨a0, k0, rfl⟩, h0⟩ := FA.cons h
  obtain ⟨_, xs1, rfl, ⟨a1, k1, rfl⟩, h1⟩ := FA.cons h0
  obtain ⟨_, xs2, rfl, ⟨a2, k2, rfl⟩, h2⟩ := FA.cons h1
  obtain ⟨_, xs3, rfl, ⟨a3, k3, rfl⟩, h3⟩ := FA.cons h2
  obtain ⟨_, xs4, rfl, ⟨a4, k4, rfl⟩, h4⟩ := FA.cons h3
  obtain ⟨_, xs5, rfl, ⟨a5, k5, rfl⟩, h5⟩ := FA.cons h4
  obtain rfl := FA.nil h5
  exact exchangepointlaw37_SampleLists_ac a0 a1 a2 a3 a4 a5 true (lists_eq a0 k0 a1 k1 a2 k2 a3 k3 a4 k4 a5 k5)
theorem read3 : Program.readableRec Try.prog 3 = true ∧ 3 < Try.prog.types.size := ⟨by kernel_rfl, of_decide_eq_true (by kernel_rfl)⟩
theorem read23 : Program.readableRec Try.prog 23 = true ∧ 23 < Try.prog.types.size := ⟨by kernel_rfl, of_decide_eq_true (by kernel_rfl)⟩
theorem read31 : Program.readableRec Try.prog 31 = true ∧ 31 < Try.prog.types.size := ⟨by kernel_rfl, of_decide_eq_true (by kernel_rfl)⟩
theorem reads : ∀ t ∈ ([31, 23, 3, 3, 3, 3] : List TypeId), Program.readableRec Try.prog t = true ∧ t < Try.prog.types.size := by
  intro t ht
  cases ht with
  | head => exact read31
  | tail _ ht =>
  cases ht with
  | head => exact read23
  | tail _ ht =>
  cases ht with
  | head => exact read3
  | tail _ ht =>
  cases ht with
  | head => exact read3
  | tail _ ht =>
  cases ht with
  | head => exact read3
  | tail _ ht =>
  cases ht with
  | head => exact read3
  | tail _ ht =>
  cases ht
set_option maxRecDepth 100000 in
theorem lifted (os : Os) (started : os.Started) (H : Type) (enc : TypeId × Value → H) :
    ReturnsInHanded {} Try.checked os 6 .any (Rows.sampleListsSpec.pre6 enc Try.prog Try.f6 Rows.sampleListsRow.domain false) (Rows.sampleListsSpec.post enc Try.prog Try.f6 false true false false) := by
  refine returnsInHanded_of_change (C := Try.checked) own started (by kernel_rfl) Try.func6
    (ChangeSpec.witness6 (enc := enc) (C := Try.checked) false ⟨#[], #[.slice none 0 0, .slice none 0 0, .int .i64 0, .int .i64 0, .int .i64 0, .int .i64 0], []⟩ 8 (by kernel_rfl) (by kernel_rfl) (by kernel_rfl) (by kernel_rfl)) ?_
  intro W base args ds gs before hval0 hW hcnd _
  exact law_calls (P := Try.prog) (ts := [31, 23, 3, 3, 3, 3]) (tb := 4) hval0 hW rfl rfl (.cons rd31 (.cons rd23 (.cons rd3 (.cons rd3 (.cons rd3 (.cons rd3 .nil)))))) Try.underlying4 (by kernel_rfl) laid reads
    (fun ds hl => by match ds, hl with | [_, _, _, _, _, _], _ => rfl) law_ac
theorem holds : Rows.SampleListsSaid :=
  OpenClaim.holds_of_wide 6 Try.f6 rfl rfl rfl rfl rfl rfl rfl ⟨rfl, rfl, rfl, rfl, rfl⟩ rfl rfl rfl rfl rfl (by kernel_rfl) Try.func6 (by kernel_rfl)
    (of_decide_eq_true (by kernel_rfl)) (by unfold Func.isWrapper; first | (rw [if_pos (by decide +kernel)]; kernel_rfl) | (rw [if_neg (by decide +kernel)]; exact ⟨rfl, rfl⟩))
    (fun os started H enc _ => lifted os started H enc)
end Go.Proofs.Ytdjdoeengjdmmaa
