/- The statement 'MatrixCells' holds of every input: no condition. -/
import Derived.Test.YtpdfmjkfplgkfaaRows
import Derived.Test.YtpdfmjkfplgkfaaFns
import Derived.Test.YtpdfmjkfplgkfaaPure
import Derived.Test.YtpdfmjkfplgkfaaPureB
import Derived.Test.YtpdfmjkfplgkfaaPureC
import Derived.Test.YtpdfmjkfplgkfaaPureD
import Derived.Test.YtpdfmjkfplgkfaaPureE
import Derived.Test.YtpdfmjkfplgkfaaPureF
import Derived.Test.YtpdfmjkfplgkfaaPureG
import Derived.Test.YtpdfmjkfplgkfaaPureH
import Derived.Test.YtpdfmjkfplgkfaaPureI
import Derived.Test.YtpdfmjkfplgkfaaPureJ
import Derived.Test.YtpdfmjkfplgkfaaPureK
import Derived.Test.YtpdfmjkfplgkfaaPureL
import Derived.Test.YtpdfmjkfplgkfaaPureM
import Derived.Test.YtpdfmjkfplgkfaaPureN
import Derived.Test.YtpdfmjkfplgkfaaPureO
import Derived.Test.YtpdfmjkfplgkfaaPureP
import Derived.Test.YtpdfmjkfplgkfaaPureQ
import Derived.Test.YtpdfmjkfplgkfaaPureR
import Derived.Test.YtpdfmjkfplgkfaaPureS
namespace Go.Proofs.Ytpdfmjkfplgkfaa
open Go Go.Vc Go.ChangeShapes Go.WideShapes Go.ChangeAt Go.RowKit
theorem own : ownKnob Try.prog.godebug = none := by kernel_rfl
theorem laid : laidOutB Try.prog = true := by kernel_rfl
theorem cells3 : Try.prog.cellsOf 3 = 1 := by kernel_rfl
theorem rd3 : Rd Try.prog 3 1 false (fun d => ∃ x : Int, (IntKind.i64.min ≤ x ∧ x ≤ IntKind.i64.max) ∧ d = (eI .i64) x) :=
  Rd.int Try.underlying3 cells3
def q23 (x : api_Cell) : Prop := ((IntKind.i64.min ≤ x.fFrom ∧ x.fFrom ≤ IntKind.i64.max)) ∧ ((IntKind.i64.min ≤ x.fTo ∧ x.fTo ≤ IntKind.i64.max)) ∧ ((IntKind.i64.min ≤ x.fSamples ∧ x.fSamples ≤ IntKind.i64.max)) ∧ ((IntKind.i64.min ≤ x.fBytes ∧ x.fBytes ≤ IntKind.i64.max)) ∧ True
theorem cells23 : Try.prog.cellsOf 23 = 4 := by kernel_rfl
theorem rd23 : Rd Try.prog 23 4 true (fun d => ∃ x : api_Cell, q23 x ∧ d = e_api_Cell x) :=
  Rd.st (ps := [(fun d => ∃ x : Int, (IntKind.i64.min ≤ x ∧ x ≤ IntKind.i64.max) ∧ d = (eI .i64) x), (fun d => ∃ x : Int, (IntKind.i64.min ≤ x ∧ x ≤ IntKind.i64.max) ∧ d = (eI .i64) x), (fun d => ∃ x : Int, (IntKind.i64.min ≤ x ∧ x ≤ IntKind.i64.max) ∧ d = (eI .i64) x), (fun d => ∃ x : Int, (IntKind.i64.min ≤ x ∧ x ≤ IntKind.i64.max) ∧ d = (eI .i64) x)]) Try.underlying23 rfl cells23 (.cons rfl rd3 (.cons rfl rd3 (.cons rfl rd3 (.cons rfl rd3 .nil)))) (fun ds h => by
    obtain ⟨_, ds0, rfl, ⟨x0, k0, rfl⟩, h0⟩ := FA.cons h
    obtain ⟨_, ds1, rfl, ⟨x1, k1, rfl⟩, h1⟩ := FA.cons h0
    obtain ⟨_, ds2, rfl, ⟨x2, k2, rfl⟩, h2⟩ := FA.cons h1
    obtain ⟨_, ds3, rfl, ⟨x3, k3, rfl⟩, h3⟩ := FA.cons h2
    obtain rfl := FA.nil h3
    exact ⟨⟨x0, x1, x2, x3⟩, ⟨k0, k1, k2, k3, trivial⟩, rfl⟩) (fun d ⟨x, k, h⟩ => by
    subst h
    obtain ⟨k0, k1, k2, k3, _⟩ := k
    exact ⟨_, rfl, ⟨⟨_, k0, rfl⟩, ⟨⟨_, k1, rfl⟩, ⟨⟨_, k2, rfl⟩, ⟨⟨_, k3, rfl⟩, trivial⟩⟩⟩⟩⟩)
def q27 (x : (List api_Cell)) : Prop := (∀ y ∈ x, q23 y) ∧ x.length ≤ maxLen
theorem cells27 : Try.prog.cellsOf 27 = 1 := by kernel_rfl
theorem rd27 : Rd Try.prog 27 1 false (fun d => ∃ x : (List api_Cell), q27 x ∧ d = (.list 4 (x.map e_api_Cell))) :=
  Rd.list Try.underlying27 cells27 (by decide) rd23
def q54 (x : api_Sample) : Prop := ((IntKind.i64.min ≤ x.fTick ∧ x.fTick ≤ IntKind.i64.max)) ∧ ((IntKind.i64.min ≤ x.fSeq ∧ x.fSeq ≤ IntKind.i64.max)) ∧ ((IntKind.i64.min ≤ x.fPool ∧ x.fPool ≤ IntKind.i64.max)) ∧ ((IntKind.i64.min ≤ x.fIn ∧ x.fIn ≤ IntKind.i64.max)) ∧ ((IntKind.i64.min ≤ x.fOut ∧ x.fOut ≤ IntKind.i64.max)) ∧ ((IntKind.i64.min ≤ x.fBytes ∧ x.fBytes ≤ IntKind.i64.max)) ∧ True
theorem cells54 : Try.prog.cellsOf 54 = 6 := by kernel_rfl
theorem rd54 : Rd Try.prog 54 6 true (fun d => ∃ x : api_Sample, q54 x ∧ d = e_api_Sample x) :=
  Rd.st (ps := [(fun d => ∃ x : Int, (IntKind.i64.min ≤ x ∧ x ≤ IntKind.i64.max) ∧ d = (eI .i64) x), (fun d => ∃ x : Int, (IntKind.i64.min ≤ x ∧ x ≤ IntKind.i64.max) ∧ d = (eI .i64) x), (fun d => ∃ x : Int, (IntKind.i64.min ≤ x ∧ x ≤ IntKind.i64.max) ∧ d = (eI .i64) x), (fun d => ∃ x : Int, (IntKind.i64.min ≤ x ∧ x ≤ IntKind.i64.max) ∧ d = (eI .i64) x), (fun d => ∃ x : Int, (IntKind.i64.min ≤ x ∧ x ≤ IntKind.i64.max) ∧ d = (eI .i64) x), (fun d => ∃ x : Int, (IntKind.i64.min ≤ x ∧ x ≤ IntKind.i64.max) ∧ d = (eI .i64) x)]) Try.underlying54 rfl cells54 (.cons rfl rd3 (.cons rfl rd3 (.cons rfl rd3 (.cons rfl rd3 (.cons rfl rd3 (.cons rfl rd3 .nil)))))) (fun ds h => by
    obtain ⟨_, ds0, rfl, ⟨x0, k0, rfl⟩, h0⟩ := FA.cons h
    obtain ⟨_, ds1, rfl, ⟨x1, k1, rfl⟩, h1⟩ := FA.cons h0
    obtain ⟨_, ds2, rfl, ⟨x2, k2, rfl⟩, h2⟩ := FA.cons h1
    obtain ⟨_, ds3, rfl, ⟨x3, k3, rfl⟩, h3⟩ := FA.cons h2
    obtain ⟨_, ds4, rfl, ⟨x4, k4, rfl⟩, h4⟩ := FA.cons h3
    obtain ⟨_, ds5, rfl, ⟨x5, k5, rfl⟩, h5⟩ := FA.cons h4
    obtain rfl := FA.nil h5
    exact ⟨⟨x0, x1, x2, x3, x4, x5⟩, ⟨k0, k1, k2, k3, k4, k5, trivial⟩, rfl⟩) (fun d ⟨x, k, h⟩ => by
    subst h
    obtain ⟨k0, k1, k2, k3, k4, k5, _⟩ := k
    exact ⟨_, rfl, ⟨⟨_, k0, rfl⟩, ⟨⟨_, k1, rfl⟩, ⟨⟨_, k2, rfl⟩, ⟨⟨_, k3, rfl⟩, ⟨⟨_, k4, rfl⟩, ⟨⟨_, k5, rfl⟩, trivial⟩⟩⟩⟩⟩⟩⟩)
def q33 (x : (List api_Sample)) : Prop := (∀ y ∈ x, q54 y) ∧ x.length ≤ maxLen
theorem cells33 : Try.prog.cellsOf 33 = 1 := by kernel_rfl
theorem rd33 : Rd Try.prog 33 1 false (fun d => ∃ x : (List api_Sample), q33 x ∧ d = (.list 6 (x.map e_api_Sample))) :=
  Rd.list Try.underlying33 cells33 (by decide) rd54
theorem cells5 : Try.prog.cellsOf 5 = 1 := by kernel_rfl
theorem rd5 : Rd Try.prog 5 1 false (fun d => ∃ x : Int, (IntKind.u8.min ≤ x ∧ x ≤ IntKind.u8.max) ∧ d = (eI .u8) x) :=
  Rd.int Try.underlying5 cells5
def q124 (x : (List Int)) : Prop := (∀ y ∈ x, (IntKind.u8.min ≤ y ∧ y ≤ IntKind.u8.max)) ∧ x.length = 6
theorem cells124 : Try.prog.cellsOf 124 = 6 := by kernel_rfl
theorem rd124 : Rd Try.prog 124 6 true (fun d => ∃ x : (List Int), q124 x ∧ d = (.arr 6 1 (x.map (eI .u8)))) :=
  Rd.arr Try.underlying124 cells124 rd5
def q67 (x : (List (List Int))) : Prop := (∀ y ∈ x, q124 y) ∧ x.length ≤ maxLen
theorem cells67 : Try.prog.cellsOf 67 = 1 := by kernel_rfl
theorem rd67 : Rd Try.prog 67 1 false (fun d => ∃ x : (List (List Int)), q67 x ∧ d = (.list 6 (x.map e_A6eIu8))) :=
  Rd.list Try.underlying67 cells67 (by decide) rd124
theorem cells4 : Try.prog.cellsOf 4 = 1 := by kernel_rfl
theorem rd4 : Rd Try.prog 4 1 false (fun d => ∃ x : Bool, True ∧ d = eB x) :=
  Rd.bool Try.underlying4 cells4
theorem cells55 : Try.prog.cellsOf 55 = 1 := by kernel_rfl
theorem rd55 : Rd Try.prog 55 1 false (fun d => ∃ x : Int, (IntKind.u64.min ≤ x ∧ x ≤ IntKind.u64.max) ∧ d = (eI .u64) x) :=
  Rd.int Try.underlying55 cells55
def q126 (x : api_Addr) : Prop := (True) ∧ ((IntKind.u64.min ≤ x.fHi ∧ x.fHi ≤ IntKind.u64.max)) ∧ ((IntKind.u64.min ≤ x.fLo ∧ x.fLo ≤ IntKind.u64.max)) ∧ True
theorem cells126 : Try.prog.cellsOf 126 = 3 := by kernel_rfl
theorem rd126 : Rd Try.prog 126 3 true (fun d => ∃ x : api_Addr, q126 x ∧ d = e_api_Addr x) :=
  Rd.st (ps := [(fun d => ∃ x : Bool, True ∧ d = eB x), (fun d => ∃ x : Int, (IntKind.u64.min ≤ x ∧ x ≤ IntKind.u64.max) ∧ d = (eI .u64) x), (fun d => ∃ x : Int, (IntKind.u64.min ≤ x ∧ x ≤ IntKind.u64.max) ∧ d = (eI .u64) x)]) Try.underlying126 rfl cells126 (.cons rfl rd4 (.cons rfl rd55 (.cons rfl rd55 .nil))) (fun ds h => by
    obtain ⟨_, ds0, rfl, ⟨x0, k0, rfl⟩, h0⟩ := FA.cons h
    obtain ⟨_, ds1, rfl, ⟨x1, k1, rfl⟩, h1⟩ := FA.cons h0
    obtain ⟨_, ds2, rfl, ⟨x2, k2, rfl⟩, h2⟩ := FA.cons h1
    obtain rfl := FA.nil h2
    exact ⟨⟨x0, x1, x2⟩, ⟨k0, k1, k2, trivial⟩, rfl⟩) (fun d ⟨x, k, h⟩ => by
    subst h
    obtain ⟨k0, k1, k2, _⟩ := k
    exact ⟨_, rfl, ⟨⟨_, k0, rfl⟩, ⟨⟨_, k1, rfl⟩, ⟨⟨_, k2, rfl⟩, trivial⟩⟩⟩⟩)
def q68 (x : (List api_Addr)) : Prop := (∀ y ∈ x, q126 y) ∧ x.length ≤ maxLen
theorem cells68 : Try.prog.cellsOf 68 = 1 := by kernel_rfl
theorem rd68 : Rd Try.prog 68 1 false (fun d => ∃ x : (List api_Addr), q68 x ∧ d = (.list 3 (x.map e_api_Addr))) :=
  Rd.list Try.underlying68 cells68 (by decide) rd126
def q70 (x : api_Rule) : Prop := ((IntKind.i64.min ≤ x.fPort ∧ x.fPort ≤ IntKind.i64.max)) ∧ ((IntKind.i64.min ≤ x.fASN ∧ x.fASN ≤ IntKind.i64.max)) ∧ ((IntKind.i64.min ≤ x.fSwitch ∧ x.fSwitch ≤ IntKind.i64.max)) ∧ (q67 x.fMACs) ∧ (q68 x.fV4) ∧ (q68 x.fV6) ∧ ((IntKind.i64.min ≤ x.fRate ∧ x.fRate ≤ IntKind.i64.max)) ∧ ((IntKind.i64.min ≤ x.fBurst ∧ x.fBurst ≤ IntKind.i64.max)) ∧ True
theorem cells70 : Try.prog.cellsOf 70 = 8 := by kernel_rfl
theorem rd70 : Rd Try.prog 70 8 true (fun d => ∃ x : api_Rule, q70 x ∧ d = e_api_Rule x) :=
  Rd.st (ps := [(fun d => ∃ x : Int, (IntKind.i64.min ≤ x ∧ x ≤ IntKind.i64.max) ∧ d = (eI .i64) x), (fun d => ∃ x : Int, (IntKind.i64.min ≤ x ∧ x ≤ IntKind.i64.max) ∧ d = (eI .i64) x), (fun d => ∃ x : Int, (IntKind.i64.min ≤ x ∧ x ≤ IntKind.i64.max) ∧ d = (eI .i64) x), (fun d => ∃ x : (List (List Int)), q67 x ∧ d = (.list 6 (x.map e_A6eIu8))), (fun d => ∃ x : (List api_Addr), q68 x ∧ d = (.list 3 (x.map e_api_Addr))), (fun d => ∃ x : (List api_Addr), q68 x ∧ d = (.list 3 (x.map e_api_Addr))), (fun d => ∃ x : Int, (IntKind.i64.min ≤ x ∧ x ≤ IntKind.i64.max) ∧ d = (eI .i64) x), (fun d => ∃ x : Int, (IntKind.i64.min ≤ x ∧ x ≤ IntKind.i64.max) ∧ d = (eI .i64) x)]) Try.underlying70 rfl cells70 (.cons rfl rd3 (.cons rfl rd3 (.cons rfl rd3 (.cons rfl rd67 (.cons rfl rd68 (.cons rfl rd68 (.cons rfl rd3 (.cons rfl rd3 .nil)))))))) (fun ds h => by
    obtain ⟨_, ds0, rfl, ⟨x0, k0, rfl⟩, h0⟩ := FA.cons h
    obtain ⟨_, ds1, rfl, ⟨x1, k1, rfl⟩, h1⟩ := FA.cons h0
    obtain ⟨_, ds2, rfl, ⟨x2, k2, rfl⟩, h2⟩ := FA.cons h1
    obtain ⟨_, ds3, rfl, ⟨x3, k3, rfl⟩, h3⟩ := FA.cons h2
    obtain ⟨_, ds4, rfl, ⟨x4, k4, rfl⟩, h4⟩ := FA.cons h3
    obtain ⟨_, ds5, rfl, ⟨x5, k5, rfl⟩, h5⟩ := FA.cons h4
    obtain ⟨_, ds6, rfl, ⟨x6, k6, rfl⟩, h6⟩ := FA.cons h5
    obtain ⟨_, ds7, rfl, ⟨x7, k7, rfl⟩, h7⟩ := FA.cons h6
    obtain rfl := FA.nil h7
    exact ⟨⟨x0, x1, x2, x3, x4, x5, x6, x7⟩, ⟨k0, k1, k2, k3, k4, k5, k6, k7, trivial⟩, rfl⟩) (fun d ⟨x, k, h⟩ => by
    subst h
    obtain ⟨k0, k1, k2, k3, k4, k5, k6, k7, _⟩ := k
    exact ⟨_, rfl, ⟨⟨_, k0, rfl⟩, ⟨⟨_, k1, rfl⟩, ⟨⟨_, k2, rfl⟩, ⟨⟨_, k3, rfl⟩, ⟨⟨_, k4, rfl⟩, ⟨⟨_, k5, rfl⟩, ⟨⟨_, k6, rfl⟩, ⟨⟨_, k7, rfl⟩, trivial⟩⟩⟩⟩⟩⟩⟩⟩⟩)
def q39 (x : (List api_Rule)) : Prop := (∀ y ∈ x, q70 y) ∧ x.length ≤ maxLen
theorem cells39 : Try.prog.cellsOf 39 = 1 := by kernel_rfl
theorem rd39 : Rd Try.prog 39 1 false (fun d => ∃ x : (List api_Rule), q39 x ∧ d = (.list 8 (x.map e_api_Rule))) :=
  Rd.list Try.underlying39 cells39 (by decide) rd70
def q25 (x : (List Int)) : Prop := (∀ y ∈ x, (IntKind.i64.min ≤ y ∧ y ≤ IntKind.i64.max)) ∧ x.length ≤ maxLen
theorem cells25 : Try.prog.cellsOf 25 = 1 := by kernel_rfl
theorem rd25 : Rd Try.prog 25 1 false (fun d => ∃ x : (List Int), q25 x ∧ d = (.list 1 (x.map (eI .i64)))) :=
  Rd.list Try.underlying25 cells25 (by decide) rd3
theorem law_ac (xs : List D) (h : FA [(fun d => ∃ x : (List api_Cell), q27 x ∧ d = (.list 4 (x.map e_api_Cell))), (fun d => ∃ x : (List api_Sample), q33 x ∧ d = (.list 6 (x.map e_api_Sample))), (fun d => ∃ x : (List api_Rule), q39 x ∧ d = (.list 8 (x.map e_api_Rule))), (fun d => ∃ x : (List Int), q25 x ∧ d = (.list 1 (x.map (eI .i64)))), (fun d => ∃ x : Int, (IntKind.i64.min ≤ x ∧ x ≤ IntKind.i64.max) ∧ d = (eI .i64) x), (fun d => ∃ x : Int, (IntKind.i64.min ≤ x ∧ x ≤ IntKind.i64.max) ∧ d = (eI .i64) x)] xs) : AC Try.prog 5 (xs.map .d) [] (.d (.bool true)) [] := by
  obtain ⟨_, xs0, rfl, ⟨a0, k0, rfl⟩, h0⟩ := FA.cons h
  obtain ⟨_, xs1, rfl, ⟨a1, k1, rfl⟩, h1⟩ := FA.cons h0
  obtain ⟨_, xs2, rfl, ⟨a2, k2, rfl⟩, h2⟩ := FA.cons h1
  obtain ⟨_, xs3, rfl, ⟨a3, k3, rfl⟩, h3⟩ := FA.cons h2
  obtain ⟨_, xs4, rfl, ⟨a4, k4, rfl⟩, h4⟩ := FA.cons h3
  obtain ⟨_, xs5, rfl, ⟨a5, k5, rfl⟩, h5⟩ := FA.cons h4
  obtain rfl := FA.nil h5
  exact exchangepointlaw38_MatrixCells_ac a0 a1 a2 a3 a4 a5 true (cells_law a0 k0 a1 k1 a2 k2 a3 k3 a4 k4 a5 k5)
theorem read3 : Program.readableRec Try.prog 3 = true ∧ 3 < Try.prog.types.size := ⟨by kernel_rfl, of_decide_eq_true (by kernel_rfl)⟩
theorem read25 : Program.readableRec Try.prog 25 = true ∧ 25 < Try.prog.types.size := ⟨by kernel_rfl, of_decide_eq_true (by kernel_rfl)⟩
theorem read27 : Program.readableRec Try.prog 27 = true ∧ 27 < Try.prog.types.size := ⟨by kernel_rfl, of_decide_eq_true (by kernel_rfl)⟩
theorem read33 : Program.readableRec Try.prog 33 = true ∧ 33 < Try.prog.types.size := ⟨by kernel_rfl, of_decide_eq_true (by kernel_rfl)⟩
theorem read39 : Program.readableRec Try.prog 39 = true ∧ 39 < Try.prog.types.size := ⟨by kernel_rfl, of_decide_eq_true (by kernel_rfl)⟩
theorem reads : ∀ t ∈ ([27, 33, 39, 25, 3, 3] : List TypeId), Program.readableRec Try.prog t = true ∧ t < Try.prog.types.size := by
  intro t ht
  cases ht with
  | head => exact read27
  | tail _ ht =>
  cases ht with
  | head => exact read33
  | tail _ ht =>
  cases ht with
  | head => exact read39
  | tail _ ht =>
  cases ht with
  | head => exact read25
  | tail _ ht =>
  cases ht with
  | head => exact read3
  | tail _ ht =>
  cases ht with
  | head => exact read3
  | tail _ ht =>
  cases ht
set_option maxRecDepth 100000 in
theorem lifted (os : Os) (started : os.Started) (H : Type) (enc : TypeId × Value → H) :
    ReturnsInHanded {} Try.checked os 5 .any (Rows.matrixCellsSpec.pre6 enc Try.prog Try.f5 Rows.matrixCellsRow.domain false) (Rows.matrixCellsSpec.post enc Try.prog Try.f5 false true false false) := by
  refine returnsInHanded_of_change (C := Try.checked) own started (by kernel_rfl) Try.func5
    (ChangeSpec.witness6 (enc := enc) (C := Try.checked) false ⟨#[], #[.slice none 0 0, .slice none 0 0, .slice none 0 0, .slice none 0 0, .int .i64 0, .int .i64 0], []⟩ 8 (by kernel_rfl) (by kernel_rfl) (by kernel_rfl) (by kernel_rfl)) ?_
  intro W base args ds gs before hval0 hW hcnd _
  exact law_calls (P := Try.prog) (ts := [27, 33, 39, 25, 3, 3]) (tb := 4) hval0 hW rfl rfl (.cons rd27 (.cons rd33 (.cons rd39 (.cons rd25 (.cons rd3 (.cons rd3 .nil)))))) Try.underlying4 (by kernel_rfl) laid reads
    (fun ds hl => by match ds, hl with | [_, _, _, _, _, _], _ => rfl) law_ac
theorem holds : Rows.MatrixCellsSaid :=
  OpenClaim.holds_of_wide 5 Try.f5 rfl rfl rfl rfl rfl rfl rfl ⟨rfl, rfl, rfl, rfl, rfl⟩ rfl rfl rfl rfl rfl (by kernel_rfl) Try.func5 (by kernel_rfl)
    (of_decide_eq_true (by kernel_rfl)) (by unfold Func.isWrapper; first | (rw [if_pos (by decide +kernel)]; kernel_rfl) | (rw [if_neg (by decide +kernel)]; exact ⟨rfl, rfl⟩))
    (fun os started H enc _ => lifted os started H enc)
end Go.Proofs.Ytpdfmjkfplgkfaa
