/- The statement 'MatrixEstimates' holds of every input: no condition. -/
import Derived.Test.YtpdfmjkfplgkfaaRows
import Derived.Test.YtpdfmjkfplgkfaaFns
import Derived.Test.YtpdfmjkfplgkfaaPure
import Derived.Test.YtpdfmjkfplgkfaaPureB
import Derived.Test.YtpdfmjkfplgkfaaPureC
import Derived.Test.YtpdfmjkfplgkfaaPureD
import Derived.Test.YtpdfmjkfplgkfaaPureE
import Derived.Test.YtpdfmjkfplgkfaaPureF
import Derived.Test.YtpdfmjkfplgkfaaPureG
import Derived.Test.YtpdfmjkfplgkfaaPureH
import Derived.Test.YtpdfmjkfplgkfaaPureI
import Derived.Test.YtpdfmjkfplgkfaaPureJ
import Derived.Test.YtpdfmjkfplgkfaaPureK
import Derived.Test.YtpdfmjkfplgkfaaPureL
import Derived.Test.YtpdfmjkfplgkfaaPureM
import Derived.Test.YtpdfmjkfplgkfaaPureN
import Derived.Test.YtpdfmjkfplgkfaaPureO
import Derived.Test.YtpdfmjkfplgkfaaPureP
import Derived.Test.YtpdfmjkfplgkfaaPureQ
namespace Go.Proofs.Ytpdfmjkfplgkfaa
open Go Go.Vc Go.ChangeShapes Go.WideShapes Go.ChangeAt Go.RowKit
theorem own : ownKnob Try.prog.godebug = none := by kernel_rfl
theorem laid : laidOutB Try.prog = true := by kernel_rfl
theorem cells3 : Try.prog.cellsOf 3 = 1 := by kernel_rfl
theorem rd3 : Rd Try.prog 3 1 false (fun d => ∃ x : Int, (IntKind.i64.min ≤ x ∧ x ≤ IntKind.i64.max) ∧ d = (eI .i64) x) :=
  Rd.int Try.underlying3 cells3
def q23 (x : api_Cell) : Prop := ((IntKind.i64.min ≤ x.fFrom ∧ x.fFrom ≤ IntKind.i64.max)) ∧ ((IntKind.i64.min ≤ x.fTo ∧ x.fTo ≤ IntKind.i64.max)) ∧ ((IntKind.i64.min ≤ x.fSamples ∧ x.fSamples ≤ IntKind.i64.max)) ∧ ((IntKind.i64.min ≤ x.fBytes ∧ x.fBytes ≤ IntKind.i64.max)) ∧ True
theorem cells23 : Try.prog.cellsOf 23 = 4 := by kernel_rfl
theorem rd23 : Rd Try.prog 23 4 true (fun d => ∃ x : api_Cell, q23 x ∧ d = e_api_Cell x) :=
  Rd.st (ps := [(fun d => ∃ x : Int, (IntKind.i64.min ≤ x ∧ x ≤ IntKind.i64.max) ∧ d = (eI .i64) x), (fun d => ∃ x : Int, (IntKind.i64.min ≤ x ∧ x ≤ IntKind.i64.max) ∧ d = (eI .i64) x), (fun d => ∃ x : Int, (IntKind.i64.min ≤ x ∧ x ≤ IntKind.i64.max) ∧ d = (eI .i64) x), (fun d => ∃ x : Int, (IntKind.i64.min ≤ x ∧ x ≤ IntKind.i64.max) ∧ d = (eI .i64) x)]) Try.underlying23 rfl cells23 (.cons rfl rd3 (.cons rfl rd3 (.cons rfl rd3 (.cons rfl rd3 .nil)))) (fun ds h => by
    obtain ⟨_, ds0, rfl, ⟨x0, k0, rfl⟩, h0⟩ := FA.cons h
    obtain ⟨_, ds1, rfl, ⟨x1, k1, rfl⟩, h1⟩ := FA.cons h0
    obtain ⟨_, ds2, rfl, ⟨x2, k2, rfl⟩, h2⟩ := FA.cons h1
    obtain ⟨_, ds3, rfl, ⟨x3, k3, rfl⟩, h3⟩ := FA.cons h2
    obtain rfl := FA.nil h3
    exact ⟨⟨x0, x1, x2, x3⟩, ⟨k0, k1, k2, k3, trivial⟩, rfl⟩) (fun d ⟨x, k, h⟩ => by
    subst h
    obtain ⟨k0, k1, k2, k3, _⟩ := k
    exact ⟨_, rfl, ⟨⟨_, k0, rfl⟩, ⟨⟨_, k1, rfl⟩, ⟨⟨_, k2, rfl⟩, ⟨⟨_, k3, rfl⟩, trivial⟩⟩⟩⟩⟩)
theorem law_ac (xs : List D) (h : FA [(fun d => ∃ x : api_Cell, q23 x ∧ d = e_api_Cell x), (fun d => ∃ x : Int, (IntKind.i64.min ≤ x ∧ x ≤ IntKind.i64.max) ∧ d = (eI .i64) x), (fun d => ∃ x : Int, (IntKind.i64.min ≤ x ∧ x ≤ IntKind.i64.max) ∧ d = (eI .i64) x)] xs) : AC Try.prog 3 (xs.map .d) [] (.d (.bool true)) [] := by
  obtain ⟨_, xs0, rfl, ⟨a0, k0, rfl⟩, h0⟩ := FA.cons h
  obtain ⟨_, xs1, rfl, ⟨a1, k1, rfl⟩, h1⟩ := FA.cons h0
  obtain ⟨_, xs2, rfl, ⟨a2, k2, rfl⟩, h2⟩ := FA.cons h1
  obtain rfl := FA.nil h2
  exact exchangepointlaw38_MatrixEstimates_ac a0 a1 a2 true (estimates_law a0 k0 a1 k1 a2 k2)
theorem read3 : Program.readableRec Try.prog 3 = true ∧ 3 < Try.prog.types.size := ⟨by kernel_rfl, of_decide_eq_true (by kernel_rfl)⟩
theorem read23 : Program.readableRec Try.prog 23 = true ∧ 23 < Try.prog.types.size := ⟨by kernel_rfl, of_decide_eq_true (by kernel_rfl)⟩
theorem reads : ∀ t ∈ ([23, 3, 3] : List TypeId), Program.readableRec Try.prog t = true ∧ t < Try.prog.types.size := by
  intro t ht
  cases ht with
  | head => exact read23
  | tail _ ht =>
  cases ht with
  | head => exact read3
  | tail _ ht =>
  cases ht with
  | head => exact read3
  | tail _ ht =>
  cases ht
set_option maxRecDepth 100000 in
theorem lifted (os : Os) (started : os.Started) (H : Type) (enc : TypeId × Value → H) :
    ReturnsInHanded {} Try.checked os 3 .any (Rows.matrixEstimatesSpec.pre6 enc Try.prog Try.f3 Rows.matrixEstimatesRow.domain false) (Rows.matrixEstimatesSpec.post enc Try.prog Try.f3 false true false false) := by
  refine returnsInHanded_of_change (C := Try.checked) own started (by kernel_rfl) Try.func3
    (ChangeSpec.witness6 (enc := enc) (C := Try.checked) false ⟨#[], #[.agg #[.int .i64 0, .int .i64 0, .int .i64 0, .int .i64 0], .int .i64 0, .int .i64 0], []⟩ 8 (by kernel_rfl) (by kernel_rfl) (by kernel_rfl) (by kernel_rfl)) ?_
  intro W base args ds gs before hval0 hW hcnd _
  exact law_calls (P := Try.prog) (ts := [23, 3, 3]) (tb := 4) hval0 hW rfl rfl (.cons rd23 (.cons rd3 (.cons rd3 .nil))) Try.underlying4 (by kernel_rfl) laid reads
    (fun ds hl => by match ds, hl with | [_, _, _], _ => rfl) law_ac
theorem holds : Rows.MatrixEstimatesSaid :=
  OpenClaim.holds_of_wide 3 Try.f3 rfl rfl rfl rfl rfl rfl rfl ⟨rfl, rfl, rfl, rfl, rfl⟩ rfl rfl rfl rfl rfl (by kernel_rfl) Try.func3 (by kernel_rfl)
    (of_decide_eq_true (by kernel_rfl)) (by unfold Func.isWrapper; first | (rw [if_pos (by decide +kernel)]; kernel_rfl) | (rw [if_neg (by decide +kernel)]; exact ⟨rfl, rfl⟩))
    (fun os started H enc _ => lifted os started H enc)
end Go.Proofs.Ytpdfmjkfplgkfaa
