/- The statement 'PercentileRates' holds of every input: no condition. -/
import Derived.Test.YtgbfjigliajbkaaRows
import Derived.Test.YtgbfjigliajbkaaFns
import Derived.Test.YtgbfjigliajbkaaPureC
namespace Go.Proofs.Ytgbfjigliajbkaa
open Go Go.Vc Go.ChangeShapes Go.WideShapes Go.ChangeAt Go.RowKit
theorem own : ownKnob Try.prog.godebug = none := by kernel_rfl
theorem laid : laidOutB Try.prog = true := by kernel_rfl
theorem cells3 : Try.prog.cellsOf 3 = 1 := by kernel_rfl
theorem rd3 : Rd Try.prog 3 1 false (fun d => ∃ x : Int, (IntKind.i64.min ≤ x ∧ x ≤ IntKind.i64.max) ∧ d = (eI .i64) x) :=
  Rd.int Try.underlying3 cells3
def q22 (x : (List Int)) : Prop := (∀ y ∈ x, (IntKind.i64.min ≤ y ∧ y ≤ IntKind.i64.max)) ∧ x.length ≤ maxLen
theorem cells22 : Try.prog.cellsOf 22 = 1 := by kernel_rfl
theorem rd22 : Rd Try.prog 22 1 false (fun d => ∃ x : (List Int), q22 x ∧ d = (.list 1 (x.map (eI .i64)))) :=
  Rd.list Try.underlying22 cells22 (by decide) rd3
def q30 (x : api_Series) : Prop := ((IntKind.i64.min ≤ x.fPort ∧ x.fPort ≤ IntKind.i64.max)) ∧ ((IntKind.i64.min ≤ x.fSeconds ∧ x.fSeconds ≤ IntKind.i64.max)) ∧ (q22 x.fIn) ∧ (q22 x.fOut) ∧ True
theorem cells30 : Try.prog.cellsOf 30 = 4 := by kernel_rfl
theorem rd30 : Rd Try.prog 30 4 true (fun d => ∃ x : api_Series, q30 x ∧ d = e_api_Series x) :=
  Rd.st (ps := [(fun d => ∃ x : Int, (IntKind.i64.min ≤ x ∧ x ≤ IntKind.i64.max) ∧ d = (eI .i64) x), (fun d => ∃ x : Int, (IntKind.i64.min ≤ x ∧ x ≤ IntKind.i64.max) ∧ d = (eI .i64) x), (fun d => ∃ x : (List Int), q22 x ∧ d = (.list 1 (x.map (eI .i64)))), (fun d => ∃ x : (List Int), q22 x ∧ d = (.list 1 (x.map (eI .i64))))]) Try.underlying30 rfl cells30 (.cons rfl rd3 (.cons rfl rd3 (.cons rfl rd22 (.cons rfl rd22 .nil)))) (fun ds h => by
    obtain ⟨_, ds0, rfl, ⟨x0, k0, rfl⟩, h0⟩ := FA.cons h
    obtain ⟨_, ds1, rfl, ⟨x1, k1, rfl⟩, h1⟩ := FA.cons h0
    obtain ⟨_, ds2, rfl, ⟨x2, k2, rfl⟩, h2⟩ := FA.cons h1
    obtain ⟨_, ds3, rfl, ⟨x3, k3, rfl⟩, h3⟩ := FA.cons h2
    obtain rfl := FA.nil h3
    exact ⟨⟨x0, x1, x2, x3⟩, ⟨k0, k1, k2, k3, trivial⟩, rfl⟩) (fun d ⟨x, k, h⟩ => by
    subst h
    obtain ⟨k0, k1, k2, k3, _⟩ := k
    exact ⟨_, rfl, ⟨⟨_, k0, rfl⟩, ⟨⟨_, k1, rfl⟩, ⟨⟨_, k2, rfl⟩, ⟨⟨_, k3, rfl⟩, trivial⟩⟩⟩⟩⟩)
theorem law_ac (xs : List D) (h : FA [(fun d => ∃ x : api_Series, q30 x ∧ d = e_api_Series x), (fun d => ∃ x : (List Int), q22 x ∧ d = (.list 1 (x.map (eI .i64)))), (fun d => ∃ x : Int, (IntKind.i64.min ≤ x ∧ x ≤ IntKind.i64.max) ∧ d = (eI .i64) x), (fun d => ∃ x : Int, (IntKind.i64.min ≤ x ∧ x ≤ IntKind.i64.max) ∧ d = (eI .i64) x), (fun d => ∃ x : Int, (IntKind.i64.min ≤ x ∧ x ≤ IntKind.i64.max) ∧ d = (eI .i64) x), (fun d => ∃ x : (List Int), q22 x ∧ d = (.list 1 (x.map (eI .i64))))] xs) : AC Try.prog 5 (xs.map .d) [] (.d (.bool true)) [] := by
  obtain ⟨_, xs0, rfl, ⟨a0, k0, rfl⟩, h0⟩ := FA.cons h
  obtain ⟨_, xs1, rfl, ⟨a1, k1, rfl⟩, h1⟩ := FA.cons h0
  obtain ⟨_, xs2, rfl, ⟨a2, k2, rfl⟩, h2⟩ := FA.cons h1
  obtain ⟨_, xs3, rfl, ⟨a3, k3, rfl⟩, h3⟩ := FA.cons h2
  obtain ⟨_, xs4, rfl, ⟨a4, k4, rfl⟩, h4⟩ := FA.cons h3
  obtain ⟨_, xs5, rfl, ⟨a5, k5, rfl⟩, h5⟩ := FA.cons h4
  obtain rfl := FA.nil h5
  exact exchangepointlaw40_PercentileRates_ac a0 a1 a2 a3 a4 a5 true (rates_law a0 k0 a1 k1 a2 k2 a3 k3 a4 k4 a5 k5)
theorem read3 : Program.readableRec Try.prog 3 = true ∧ 3 < Try.prog.types.size := ⟨by kernel_rfl, of_decide_eq_true (by kernel_rfl)⟩
theorem read22 : Program.readableRec Try.prog 22 = true ∧ 22 < Try.prog.types.size := ⟨by kernel_rfl, of_decide_eq_true (by kernel_rfl)⟩
theorem read30 : Program.readableRec Try.prog 30 = true ∧ 30 < Try.prog.types.size := ⟨by kernel_rfl, of_decide_eq_true (by kernel_rfl)⟩
theorem reads : ∀ t ∈ ([30, 22, 3, 3, 3, 22] : List TypeId), Program.readableRec Try.prog t = true ∧ t < Try.prog.types.size := by
  intro t ht
  cases ht with
  | head => exact read30
  | tail _ ht =>
  cases ht with
  | head => exact read22
  | tail _ ht =>
  cases ht with
  | head => exact read3
  | tail _ ht =>
  cases ht with
  | head => exact read3
  | tail _ ht =>
  cases ht with
  | head => exact read3
  | tail _ ht =>
  cases ht with
  | head => exact read22
  | tail _ ht =>
  cases ht
set_option maxRecDepth 100000 in
theorem lifted (os : Os) (started : os.Started) (H : Type) (enc : TypeId × Value → H) :
    ReturnsInHanded {} Try.checked os 5 .any (Rows.percentileRatesSpec.pre6 enc Try.prog Try.f5 Rows.percentileRatesRow.domain false) (Rows.percentileRatesSpec.post enc Try.prog Try.f5 false true false false) := by
  refine returnsInHanded_of_change (C := Try.checked) own started (by kernel_rfl) Try.func5
    (ChangeSpec.witness6 (enc := enc) (C := Try.checked) false ⟨#[], #[.agg #[.int .i64 0, .int .i64 0, .slice none 0 0, .slice none 0 0], .slice none 0 0, .int .i64 0, .int .i64 0, .int .i64 0, .slice none 0 0], []⟩ 8 (by kernel_rfl) (by kernel_rfl) (by kernel_rfl) (by kernel_rfl)) ?_
  intro W base args ds gs before hval0 hW hcnd _
  exact law_calls (P := Try.prog) (ts := [30, 22, 3, 3, 3, 22]) (tb := 4) hval0 hW rfl rfl (.cons rd30 (.cons rd22 (.cons rd3 (.cons rd3 (.cons rd3 (.cons rd22 .nil)))))) Try.underlying4 (by kernel_rfl) laid reads
    (fun ds hl => by match ds, hl with | [_, _, _, _, _, _], _ => rfl) law_ac
theorem holds : Rows.PercentileRatesSaid :=
  OpenClaim.holds_of_wide 5 Try.f5 rfl rfl rfl rfl rfl rfl rfl ⟨rfl, rfl, rfl, rfl, rfl⟩ rfl rfl rfl rfl rfl (by kernel_rfl) Try.func5 (by kernel_rfl)
    (of_decide_eq_true (by kernel_rfl)) (by unfold Func.isWrapper; first | (rw [if_pos (by decide +kernel)]; kernel_rfl) | (rw [if_neg (by decide +kernel)]; exact ⟨rfl, rfl⟩))
    (fun os started H enc _ => lifted os started H enc)
end Go.Proofs.Ytgbfjigliajbkaa
