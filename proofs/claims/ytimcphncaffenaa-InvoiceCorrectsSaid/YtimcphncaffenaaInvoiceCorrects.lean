/- The statement 'InvoiceCorrects' holds of every input: no condition. -/
import Derived.Test.YtimcphncaffenaaRows
import Derived.Test.YtimcphncaffenaaFns
import Derived.Test.YtimcphncaffenaaPure
import Derived.Test.YtimcphncaffenaaPureB
import Derived.Test.YtimcphncaffenaaPureC
import Derived.Test.YtimcphncaffenaaPureD
import Derived.Test.YtimcphncaffenaaPureE
import Derived.Test.YtimcphncaffenaaPureF
import Derived.Test.YtimcphncaffenaaPureG
import Derived.Test.YtimcphncaffenaaPureI
namespace Go.Proofs.Ytimcphncaffenaa
open Go Go.Vc Go.ChangeShapes Go.WideShapes Go.ChangeAt Go.RowKit
theorem own : ownKnob Try.prog.godebug = none := by kernel_rfl
theorem laid : laidOutB Try.prog = true := by kernel_rfl
theorem cells3 : Try.prog.cellsOf 3 = 1 := by kernel_rfl
theorem rd3 : Rd Try.prog 3 1 false (fun d => ∃ x : Int, (IntKind.i64.min ≤ x ∧ x ≤ IntKind.i64.max) ∧ d = (eI .i64) x) :=
  Rd.int Try.underlying3 cells3
def q51 (x : api_Line) : Prop := ((IntKind.i64.min ≤ x.fPort ∧ x.fPort ≤ IntKind.i64.max)) ∧ ((IntKind.i64.min ≤ x.fUsed ∧ x.fUsed ≤ IntKind.i64.max)) ∧ ((IntKind.i64.min ≤ x.fAmount ∧ x.fAmount ≤ IntKind.i64.max)) ∧ True
theorem cells51 : Try.prog.cellsOf 51 = 3 := by kernel_rfl
theorem rd51 : Rd Try.prog 51 3 true (fun d => ∃ x : api_Line, q51 x ∧ d = e_api_Line x) :=
  Rd.st (ps := [(fun d => ∃ x : Int, (IntKind.i64.min ≤ x ∧ x ≤ IntKind.i64.max) ∧ d = (eI .i64) x), (fun d => ∃ x : Int, (IntKind.i64.min ≤ x ∧ x ≤ IntKind.i64.max) ∧ d = (eI .i64) x), (fun d => ∃ x : Int, (IntKind.i64.min ≤ x ∧ x ≤ IntKind.i64.max) ∧ d = (eI .i64) x)]) Try.underlying51 rfl cells51 (.cons rfl rd3 (.cons rfl rd3 (.cons rfl rd3 .nil))) (fun ds h => by
    obtain ⟨_, ds0, rfl, ⟨x0, k0, rfl⟩, h0⟩ := FA.cons h
    obtain ⟨_, ds1, rfl, ⟨x1, k1, rfl⟩, h1⟩ := FA.cons h0
    obtain ⟨_, ds2, rfl, ⟨x2, k2, rfl⟩, h2⟩ := FA.cons h1
    obtain rfl := FA.nil h2
    exact ⟨⟨x0, x1, x2⟩, ⟨k0, k1, k2, trivial⟩, rfl⟩) (fun d ⟨x, k, h⟩ => by
    subst h
    obtain ⟨k0, k1, k2, _⟩ := k
    exact ⟨_, rfl, ⟨⟨_, k0, rfl⟩, ⟨⟨_, k1, rfl⟩, ⟨⟨_, k2, rfl⟩, trivial⟩⟩⟩⟩)
def q43 (x : (List api_Line)) : Prop := (∀ y ∈ x, q51 y) ∧ x.length ≤ maxLen
theorem cells43 : Try.prog.cellsOf 43 = 1 := by kernel_rfl
theorem rd43 : Rd Try.prog 43 1 false (fun d => ∃ x : (List api_Line), q43 x ∧ d = (.list 3 (x.map e_api_Line))) :=
  Rd.list Try.underlying43 cells43 (by decide) rd51
def q45 (x : api_Invoice) : Prop := ((IntKind.i64.min ≤ x.fMember ∧ x.fMember ≤ IntKind.i64.max)) ∧ ((IntKind.i64.min ≤ x.fMonth ∧ x.fMonth ≤ IntKind.i64.max)) ∧ ((IntKind.i64.min ≤ x.fVersion ∧ x.fVersion ≤ IntKind.i64.max)) ∧ (q43 x.fLines) ∧ ((IntKind.i64.min ≤ x.fTotal ∧ x.fTotal ≤ IntKind.i64.max)) ∧ True
theorem cells45 : Try.prog.cellsOf 45 = 5 := by kernel_rfl
theorem rd45 : Rd Try.prog 45 5 true (fun d => ∃ x : api_Invoice, q45 x ∧ d = e_api_Invoice x) :=
  Rd.st (ps := [(fun d => ∃ x : Int, (IntKind.i64.min ≤ x ∧ x ≤ IntKind.i64.max) ∧ d = (eI .i64) x), (fun d => ∃ x : Int, (IntKind.i64.min ≤ x ∧ x ≤ IntKind.i64.max) ∧ d = (eI .i64) x), (fun d => ∃ x : Int, (IntKind.i64.min ≤ x ∧ x ≤ IntKind.i64.max) ∧ d = (eI .i64) x), (fun d => ∃ x : (List api_Line), q43 x ∧ d = (.list 3 (x.map e_api_Line))), (fun d => ∃ x : Int, (IntKind.i64.min ≤ x ∧ x ≤ IntKind.i64.max) ∧ d = (eI .i64) x)]) Try.underlying45 rfl cells45 (.cons rfl rd3 (.cons rfl rd3 (.cons rfl rd3 (.cons rfl rd43 (.cons rfl rd3 .nil))))) (fun ds h => by
    obtain ⟨_, ds0, rfl, ⟨x0, k0, rfl⟩, h0⟩ := FA.cons h
    obtain ⟨_, ds1, rfl, ⟨x1, k1, rfl⟩, h1⟩ := FA.cons h0
    obtain ⟨_, ds2, rfl, ⟨x2, k2, rfl⟩, h2⟩ := FA.cons h1
    obtain ⟨_, ds3, rfl, ⟨x3, k3, rfl⟩, h3⟩ := FA.cons h2
    obtain ⟨_, ds4, rfl, ⟨x4, k4, rfl⟩, h4⟩ := FA.cons h3
    obtain rfl := FA.nil h4
    exact ⟨⟨x0, x1, x2, x3, x4⟩, ⟨k0, k1, k2, k3, k4, trivial⟩, rfl⟩) (fun d ⟨x, k, h⟩ => by
    subst h
    obtain ⟨k0, k1, k2, k3, k4, _⟩ := k
    exact ⟨_, rfl, ⟨⟨_, k0, rfl⟩, ⟨⟨_, k1, rfl⟩, ⟨⟨_, k2, rfl⟩, ⟨⟨_, k3, rfl⟩, ⟨⟨_, k4, rfl⟩, trivial⟩⟩⟩⟩⟩⟩)
def q53 (x : (List api_Invoice)) : Prop := (∀ y ∈ x, q45 y) ∧ x.length ≤ maxLen
theorem cells53 : Try.prog.cellsOf 53 = 1 := by kernel_rfl
theorem rd53 : Rd Try.prog 53 1 false (fun d => ∃ x : (List api_Invoice), q53 x ∧ d = (.list 5 (x.map e_api_Invoice))) :=
  Rd.list Try.underlying53 cells53 (by decide) rd45
def q28 (x : (List Int)) : Prop := (∀ y ∈ x, (IntKind.i64.min ≤ y ∧ y ≤ IntKind.i64.max)) ∧ x.length ≤ maxLen
theorem cells28 : Try.prog.cellsOf 28 = 1 := by kernel_rfl
theorem rd28 : Rd Try.prog 28 1 false (fun d => ∃ x : (List Int), q28 x ∧ d = (.list 1 (x.map (eI .i64)))) :=
  Rd.list Try.underlying28 cells28 (by decide) rd3
theorem law_ac (xs : List D) (h : FA [(fun d => ∃ x : (List api_Invoice), q53 x ∧ d = (.list 5 (x.map e_api_Invoice))), (fun d => ∃ x : (List Int), q28 x ∧ d = (.list 1 (x.map (eI .i64)))), (fun d => ∃ x : Int, (IntKind.i64.min ≤ x ∧ x ≤ IntKind.i64.max) ∧ d = (eI .i64) x), (fun d => ∃ x : Int, (IntKind.i64.min ≤ x ∧ x ≤ IntKind.i64.max) ∧ d = (eI .i64) x), (fun d => ∃ x : Int, (IntKind.i64.min ≤ x ∧ x ≤ IntKind.i64.max) ∧ d = (eI .i64) x)] xs) : AC Try.prog 5 (xs.map .d) [] (.d (.bool true)) [] := by
  obtain ⟨_, xs0, rfl, ⟨a0, k0, rfl⟩, h0⟩ := FA.cons h
  obtain ⟨_, xs1, rfl, ⟨a1, k1, rfl⟩, h1⟩ := FA.cons h0
  obtain ⟨_, xs2, rfl, ⟨a2, k2, rfl⟩, h2⟩ := FA.cons h1
  obtain ⟨_, xs3, rfl, ⟨a3, k3, rfl⟩, h3⟩ := FA.cons h2
  obtain ⟨_, xs4, rfl, ⟨a4, k4, rfl⟩, h4⟩ := FA.cons h3
  obtain rfl := FA.nil h4
  exact exchangepointlaw41_InvoiceCorrects_ac a0 a1 a2 a3 a4 true (corrects_law a0 k0 a1 k1 a2 k2 a3 k3 a4 k4)
theorem read3 : Program.readableRec Try.prog 3 = true ∧ 3 < Try.prog.types.size := ⟨by kernel_rfl, of_decide_eq_true (by kernel_rfl)⟩
theorem read28 : Program.readableRec Try.prog 28 = true ∧ 28 < Try.prog.types.size := ⟨by kernel_rfl, of_decide_eq_true (by kernel_rfl)⟩
theorem read53 : Program.readableRec Try.prog 53 = true ∧ 53 < Try.prog.types.size := ⟨by kernel_rfl, of_decide_eq_true (by kernel_rfl)⟩
theorem reads : ∀ t ∈ ([53, 28, 3, 3, 3] : List TypeId), Program.readableRec Try.prog t = true ∧ t < Try.prog.types.size := by
  intro t ht
  cases ht with
  | head => exact read53
  | tail _ ht =>
  cases ht with
  | head => exact read28
  | tail _ ht =>
  cases ht with
  | head => exact read3
  | tail _ ht =>
  cases ht with
  | head => exact read3
  | tail _ ht =>
  cases ht with
  | head => exact read3
  | tail _ ht =>
  cases ht
set_option maxRecDepth 100000 in
theorem lifted (os : Os) (started : os.Started) (H : Type) (enc : TypeId × Value → H) :
    ReturnsInHanded {} Try.checked os 5 .any (Rows.invoiceCorrectsSpec.pre6 enc Try.prog Try.f5 Rows.invoiceCorrectsRow.domain false) (Rows.invoiceCorrectsSpec.post enc Try.prog Try.f5 false true false false) := by
  refine returnsInHanded_of_change (C := Try.checked) own started (by kernel_rfl) Try.func5
    (ChangeSpec.witness6 (enc := enc) (C := Try.checked) false ⟨#[], #[.slice none 0 0, .slice none 0 0, .int .i64 0, .int .i64 0, .int .i64 0], []⟩ 8 (by kernel_rfl) (by kernel_rfl) (by kernel_rfl) (by kernel_rfl)) ?_
  intro W base args ds gs before hval0 hW hcnd _
  exact law_calls (P := Try.prog) (ts := [53, 28, 3, 3, 3]) (tb := 4) hval0 hW rfl rfl (.cons rd53 (.cons rd28 (.cons rd3 (.cons rd3 (.cons rd3 .nil))))) Try.underlying4 (by kernel_rfl) laid reads
    (fun ds hl => by match ds, hl with | [_, _, _, _, _], _ => rfl) law_ac
theorem holds : Rows.InvoiceCorrectsSaid :=
  OpenClaim.holds_of_wide 5 Try.f5 rfl rfl rfl rfl rfl rfl rfl ⟨rfl, rfl, rfl, rfl, rfl⟩ rfl rfl rfl rfl rfl (by kernel_rfl) Try.func5 (by kernel_rfl)
    (of_decide_eq_true (by kernel_rfl)) (by unfold Func.isWrapper; first | (rw [if_pos (by decide +kernel)]; kernel_rfl) | (rw [if_neg (by decide +kernel)]; exact ⟨rfl, rfl⟩))
    (fun os started H enc _ => lifted os started H enc)
end Go.Proofs.Ytimcphncaffenaa
