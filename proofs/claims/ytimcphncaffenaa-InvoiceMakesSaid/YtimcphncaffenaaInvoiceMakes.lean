/- The statement 'InvoiceMakes' holds of every input: no condition. -/
import Derived.Test.YtimcphncaffenaaRows
import Derived.Test.YtimcphncaffenaaFns
import Derived.Test.YtimcphncaffenaaPure
import Derived.Test.YtimcphncaffenaaPureB
import Derived.Test.YtimcphncaffenaaPureC
namespace Go.Proofs.Ytimcphncaffenaa
open Go Go.Vc Go.ChangeShapes Go.WideShapes Go.ChangeAt Go.RowKit
theorem own : ownKnob Try.prog.godebug = none := by kernel_rfl
theorem laid : laidOutB Try.prog = true := by kernel_rfl
theorem cells3 : Try.prog.cellsOf 3 = 1 := by kernel_rfl
theorem rd3 : Rd Try.prog 3 1 false (fun d => ∃ x : Int, (IntKind.i64.min ≤ x ∧ x ≤ IntKind.i64.max) ∧ d = (eI .i64) x) :=
  Rd.int Try.underlying3 cells3
theorem cells9 : Try.prog.cellsOf 9 = 1 := by kernel_rfl
theorem rd9 : Rd Try.prog 9 1 false (fun d => ∃ x : (List UInt8), x.length ≤ maxLen ∧ d = eS x) :=
  Rd.str Try.underlying9 cells9
theorem cells5 : Try.prog.cellsOf 5 = 1 := by kernel_rfl
theorem rd5 : Rd Try.prog 5 1 false (fun d => ∃ x : Int, (IntKind.u8.min ≤ x ∧ x ≤ IntKind.u8.max) ∧ d = (eI .u8) x) :=
  Rd.int Try.underlying5 cells5
def q143 (x : (List Int)) : Prop := (∀ y ∈ x, (IntKind.u8.min ≤ y ∧ y ≤ IntKind.u8.max)) ∧ x.length = 6
theorem cells143 : Try.prog.cellsOf 143 = 6 := by kernel_rfl
theorem rd143 : Rd Try.prog 143 6 true (fun d => ∃ x : (List Int), q143 x ∧ d = (.arr 6 1 (x.map (eI .u8)))) :=
  Rd.arr Try.underlying143 cells143 rd5
def q63 (x : (List (List Int))) : Prop := (∀ y ∈ x, q143 y) ∧ x.length ≤ maxLen
theorem cells63 : Try.prog.cellsOf 63 = 1 := by kernel_rfl
theorem rd63 : Rd Try.prog 63 1 false (fun d => ∃ x : (List (List Int)), q63 x ∧ d = (.list 6 (x.map e_A6eIu8))) :=
  Rd.list Try.underlying63 cells63 (by decide) rd143
theorem cells4 : Try.prog.cellsOf 4 = 1 := by kernel_rfl
theorem rd4 : Rd Try.prog 4 1 false (fun d => ∃ x : Bool, True ∧ d = eB x) :=
  Rd.bool Try.underlying4 cells4
theorem cells64 : Try.prog.cellsOf 64 = 1 := by kernel_rfl
theorem rd64 : Rd Try.prog 64 1 false (fun d => ∃ x : Int, (IntKind.u64.min ≤ x ∧ x ≤ IntKind.u64.max) ∧ d = (eI .u64) x) :=
  Rd.int Try.underlying64 cells64
def q66 (x : api_Addr) : Prop := (True) ∧ ((IntKind.u64.min ≤ x.fHi ∧ x.fHi ≤ IntKind.u64.max)) ∧ ((IntKind.u64.min ≤ x.fLo ∧ x.fLo ≤ IntKind.u64.max)) ∧ True
theorem cells66 : Try.prog.cellsOf 66 = 3 := by kernel_rfl
theorem rd66 : Rd Try.prog 66 3 true (fun d => ∃ x : api_Addr, q66 x ∧ d = e_api_Addr x) :=
  Rd.st (ps := [(fun d => ∃ x : Bool, True ∧ d = eB x), (fun d => ∃ x : Int, (IntKind.u64.min ≤ x ∧ x ≤ IntKind.u64.max) ∧ d = (eI .u64) x), (fun d => ∃ x : Int, (IntKind.u64.min ≤ x ∧ x ≤ IntKind.u64.max) ∧ d = (eI .u64) x)]) Try.underlying66 rfl cells66 (.cons rfl rd4 (.cons rfl rd64 (.cons rfl rd64 .nil))) (fun ds h => by
    obtain ⟨_, ds0, rfl, ⟨x0, k0, rfl⟩, h0⟩ := FA.cons h
    obtain ⟨_, ds1, rfl, ⟨x1, k1, rfl⟩, h1⟩ := FA.cons h0
    obtain ⟨_, ds2, rfl, ⟨x2, k2, rfl⟩, h2⟩ := FA.cons h1
    obtain rfl := FA.nil h2
    exact ⟨⟨x0, x1, x2⟩, ⟨k0, k1, k2, trivial⟩, rfl⟩) (fun d ⟨x, k, h⟩ => by
    subst h
    obtain ⟨k0, k1, k2, _⟩ := k
    exact ⟨_, rfl, ⟨⟨_, k0, rfl⟩, ⟨⟨_, k1, rfl⟩, ⟨⟨_, k2, rfl⟩, trivial⟩⟩⟩⟩)
def q68 (x : api_Port) : Prop := ((IntKind.i64.min ≤ x.fID ∧ x.fID ≤ IntKind.i64.max)) ∧ ((IntKind.i64.min ≤ x.fSwitch ∧ x.fSwitch ≤ IntKind.i64.max)) ∧ ((IntKind.i64.min ≤ x.fSpeed ∧ x.fSpeed ≤ IntKind.i64.max)) ∧ (q63 x.fMACs) ∧ (q66 x.fV4) ∧ (q66 x.fV6) ∧ True
theorem cells68 : Try.prog.cellsOf 68 = 10 := by kernel_rfl
theorem rd68 : Rd Try.prog 68 10 true (fun d => ∃ x : api_Port, q68 x ∧ d = e_api_Port x) :=
  Rd.st (ps := [(fun d => ∃ x : Int, (IntKind.i64.min ≤ x ∧ x ≤ IntKind.i64.max) ∧ d = (eI .i64) x), (fun d => ∃ x : Int, (IntKind.i64.min ≤ x ∧ x ≤ IntKind.i64.max) ∧ d = (eI .i64) x), (fun d => ∃ x : Int, (IntKind.i64.min ≤ x ∧ x ≤ IntKind.i64.max) ∧ d = (eI .i64) x), (fun d => ∃ x : (List (List Int)), q63 x ∧ d = (.list 6 (x.map e_A6eIu8))), (fun d => ∃ x : api_Addr, q66 x ∧ d = e_api_Addr x), (fun d => ∃ x : api_Addr, q66 x ∧ d = e_api_Addr x)]) Try.underlying68 rfl cells68 (.cons rfl rd3 (.cons rfl rd3 (.cons rfl rd3 (.cons rfl rd63 (.cons rfl rd66 (.cons rfl rd66 .nil)))))) (fun ds h => by
    obtain ⟨_, ds0, rfl, ⟨x0, k0, rfl⟩, h0⟩ := FA.cons h
    obtain ⟨_, ds1, rfl, ⟨x1, k1, rfl⟩, h1⟩ := FA.cons h0
    obtain ⟨_, ds2, rfl, ⟨x2, k2, rfl⟩, h2⟩ := FA.cons h1
    obtain ⟨_, ds3, rfl, ⟨x3, k3, rfl⟩, h3⟩ := FA.cons h2
    obtain ⟨_, ds4, rfl, ⟨x4, k4, rfl⟩, h4⟩ := FA.cons h3
    obtain ⟨_, ds5, rfl, ⟨x5, k5, rfl⟩, h5⟩ := FA.cons h4
    obtain rfl := FA.nil h5
    exact ⟨⟨x0, x1, x2, x3, x4, x5⟩, ⟨k0, k1, k2, k3, k4, k5, trivial⟩, rfl⟩) (fun d ⟨x, k, h⟩ => by
    subst h
    obtain ⟨k0, k1, k2, k3, k4, k5, _⟩ := k
    exact ⟨_, rfl, ⟨⟨_, k0, rfl⟩, ⟨⟨_, k1, rfl⟩, ⟨⟨_, k2, rfl⟩, ⟨⟨_, k3, rfl⟩, ⟨⟨_, k4, rfl⟩, ⟨⟨_, k5, rfl⟩, trivial⟩⟩⟩⟩⟩⟩⟩)
def q22 (x : (List api_Port)) : Prop := (∀ y ∈ x, q68 y) ∧ x.length ≤ maxLen
theorem cells22 : Try.prog.cellsOf 22 = 1 := by kernel_rfl
theorem rd22 : Rd Try.prog 22 1 false (fun d => ∃ x : (List api_Port), q22 x ∧ d = (.list 10 (x.map e_api_Port))) :=
  Rd.list Try.underlying22 cells22 (by decide) rd68
def q24 (x : api_Member) : Prop := ((IntKind.i64.min ≤ x.fASN ∧ x.fASN ≤ IntKind.i64.max)) ∧ (x.fName.length ≤ maxLen) ∧ (x.fSet.length ≤ maxLen) ∧ ((IntKind.i64.min ≤ x.fMax4 ∧ x.fMax4 ≤ IntKind.i64.max)) ∧ ((IntKind.i64.min ≤ x.fMax6 ∧ x.fMax6 ≤ IntKind.i64.max)) ∧ (q22 x.fPorts) ∧ True
theorem cells24 : Try.prog.cellsOf 24 = 6 := by kernel_rfl
theorem rd24 : Rd Try.prog 24 6 true (fun d => ∃ x : api_Member, q24 x ∧ d = e_api_Member x) :=
  Rd.st (ps := [(fun d => ∃ x : Int, (IntKind.i64.min ≤ x ∧ x ≤ IntKind.i64.max) ∧ d = (eI .i64) x), (fun d => ∃ x : (List UInt8), x.length ≤ maxLen ∧ d = eS x), (fun d => ∃ x : (List UInt8), x.length ≤ maxLen ∧ d = eS x), (fun d => ∃ x : Int, (IntKind.i64.min ≤ x ∧ x ≤ IntKind.i64.max) ∧ d = (eI .i64) x), (fun d => ∃ x : Int, (IntKind.i64.min ≤ x ∧ x ≤ IntKind.i64.max) ∧ d = (eI .i64) x), (fun d => ∃ x : (List api_Port), q22 x ∧ d = (.list 10 (x.map e_api_Port)))]) Try.underlying24 rfl cells24 (.cons rfl rd3 (.cons rfl rd9 (.cons rfl rd9 (.cons rfl rd3 (.cons rfl rd3 (.cons rfl rd22 .nil)))))) (fun ds h => by
    obtain ⟨_, ds0, rfl, ⟨x0, k0, rfl⟩, h0⟩ := FA.cons h
    obtain ⟨_, ds1, rfl, ⟨x1, k1, rfl⟩, h1⟩ := FA.cons h0
    obtain ⟨_, ds2, rfl, ⟨x2, k2, rfl⟩, h2⟩ := FA.cons h1
    obtain ⟨_, ds3, rfl, ⟨x3, k3, rfl⟩, h3⟩ := FA.cons h2
    obtain ⟨_, ds4, rfl, ⟨x4, k4, rfl⟩, h4⟩ := FA.cons h3
    obtain ⟨_, ds5, rfl, ⟨x5, k5, rfl⟩, h5⟩ := FA.cons h4
    obtain rfl := FA.nil h5
    exact ⟨⟨x0, x1, x2, x3, x4, x5⟩, ⟨k0, k1, k2, k3, k4, k5, trivial⟩, rfl⟩) (fun d ⟨x, k, h⟩ => by
    subst h
    obtain ⟨k0, k1, k2, k3, k4, k5, _⟩ := k
    exact ⟨_, rfl, ⟨⟨_, k0, rfl⟩, ⟨⟨_, k1, rfl⟩, ⟨⟨_, k2, rfl⟩, ⟨⟨_, k3, rfl⟩, ⟨⟨_, k4, rfl⟩, ⟨⟨_, k5, rfl⟩, trivial⟩⟩⟩⟩⟩⟩⟩)
def q28 (x : (List Int)) : Prop := (∀ y ∈ x, (IntKind.i64.min ≤ y ∧ y ≤ IntKind.i64.max)) ∧ x.length ≤ maxLen
theorem cells28 : Try.prog.cellsOf 28 = 1 := by kernel_rfl
theorem rd28 : Rd Try.prog 28 1 false (fun d => ∃ x : (List Int), q28 x ∧ d = (.list 1 (x.map (eI .i64)))) :=
  Rd.list Try.underlying28 cells28 (by decide) rd3
def q31 (x : api_Series) : Prop := ((IntKind.i64.min ≤ x.fPort ∧ x.fPort ≤ IntKind.i64.max)) ∧ ((IntKind.i64.min ≤ x.fSeconds ∧ x.fSeconds ≤ IntKind.i64.max)) ∧ (q28 x.fIn) ∧ (q28 x.fOut) ∧ True
theorem cells31 : Try.prog.cellsOf 31 = 4 := by kernel_rfl
theorem rd31 : Rd Try.prog 31 4 true (fun d => ∃ x : api_Series, q31 x ∧ d = e_api_Series x) :=
  Rd.st (ps := [(fun d => ∃ x : Int, (IntKind.i64.min ≤ x ∧ x ≤ IntKind.i64.max) ∧ d = (eI .i64) x), (fun d => ∃ x : Int, (IntKind.i64.min ≤ x ∧ x ≤ IntKind.i64.max) ∧ d = (eI .i64) x), (fun d => ∃ x : (List Int), q28 x ∧ d = (.list 1 (x.map (eI .i64)))), (fun d => ∃ x : (List Int), q28 x ∧ d = (.list 1 (x.map (eI .i64))))]) Try.underlying31 rfl cells31 (.cons rfl rd3 (.cons rfl rd3 (.cons rfl rd28 (.cons rfl rd28 .nil)))) (fun ds h => by
    obtain ⟨_, ds0, rfl, ⟨x0, k0, rfl⟩, h0⟩ := FA.cons h
    obtain ⟨_, ds1, rfl, ⟨x1, k1, rfl⟩, h1⟩ := FA.cons h0
    obtain ⟨_, ds2, rfl, ⟨x2, k2, rfl⟩, h2⟩ := FA.cons h1
    obtain ⟨_, ds3, rfl, ⟨x3, k3, rfl⟩, h3⟩ := FA.cons h2
    obtain rfl := FA.nil h3
    exact ⟨⟨x0, x1, x2, x3⟩, ⟨k0, k1, k2, k3, trivial⟩, rfl⟩) (fun d ⟨x, k, h⟩ => by
    subst h
    obtain ⟨k0, k1, k2, k3, _⟩ := k
    exact ⟨_, rfl, ⟨⟨_, k0, rfl⟩, ⟨⟨_, k1, rfl⟩, ⟨⟨_, k2, rfl⟩, ⟨⟨_, k3, rfl⟩, trivial⟩⟩⟩⟩⟩)
def q25 (x : (List api_Series)) : Prop := (∀ y ∈ x, q31 y) ∧ x.length ≤ maxLen
theorem cells25 : Try.prog.cellsOf 25 = 1 := by kernel_rfl
theorem rd25 : Rd Try.prog 25 1 false (fun d => ∃ x : (List api_Series), q25 x ∧ d = (.list 4 (x.map e_api_Series))) :=
  Rd.list Try.underlying25 cells25 (by decide) rd31
def q27 (x : api_Tariff) : Prop := ((IntKind.i64.min ≤ x.fBase ∧ x.fBase ≤ IntKind.i64.max)) ∧ ((IntKind.i64.min ≤ x.fIncluded ∧ x.fIncluded ≤ IntKind.i64.max)) ∧ ((IntKind.i64.min ≤ x.fRate ∧ x.fRate ≤ IntKind.i64.max)) ∧ True
theorem cells27 : Try.prog.cellsOf 27 = 3 := by kernel_rfl
theorem rd27 : Rd Try.prog 27 3 true (fun d => ∃ x : api_Tariff, q27 x ∧ d = e_api_Tariff x) :=
  Rd.st (ps := [(fun d => ∃ x : Int, (IntKind.i64.min ≤ x ∧ x ≤ IntKind.i64.max) ∧ d = (eI .i64) x), (fun d => ∃ x : Int, (IntKind.i64.min ≤ x ∧ x ≤ IntKind.i64.max) ∧ d = (eI .i64) x), (fun d => ∃ x : Int, (IntKind.i64.min ≤ x ∧ x ≤ IntKind.i64.max) ∧ d = (eI .i64) x)]) Try.underlying27 rfl cells27 (.cons rfl rd3 (.cons rfl rd3 (.cons rfl rd3 .nil))) (fun ds h => by
    obtain ⟨_, ds0, rfl, ⟨x0, k0, rfl⟩, h0⟩ := FA.cons h
    obtain ⟨_, ds1, rfl, ⟨x1, k1, rfl⟩, h1⟩ := FA.cons h0
    obtain ⟨_, ds2, rfl, ⟨x2, k2, rfl⟩, h2⟩ := FA.cons h1
    obtain rfl := FA.nil h2
    exact ⟨⟨x0, x1, x2⟩, ⟨k0, k1, k2, trivial⟩, rfl⟩) (fun d ⟨x, k, h⟩ => by
    subst h
    obtain ⟨k0, k1, k2, _⟩ := k
    exact ⟨_, rfl, ⟨⟨_, k0, rfl⟩, ⟨⟨_, k1, rfl⟩, ⟨⟨_, k2, rfl⟩, trivial⟩⟩⟩⟩)
theorem law_ac (xs : List D) (h : FA [(fun d => ∃ x : api_Member, q24 x ∧ d = e_api_Member x), (fun d => ∃ x : (List api_Series), q25 x ∧ d = (.list 4 (x.map e_api_Series))), (fun d => ∃ x : api_Tariff, q27 x ∧ d = e_api_Tariff x), (fun d => ∃ x : (List Int), q28 x ∧ d = (.list 1 (x.map (eI .i64)))), (fun d => ∃ x : Int, (IntKind.i64.min ≤ x ∧ x ≤ IntKind.i64.max) ∧ d = (eI .i64) x), (fun d => ∃ x : Int, (IntKind.i64.min ≤ x ∧ x ≤ IntKind.i64.max) ∧ d = (eI .i64) x)] xs) : AC Try.prog 3 (xs.map .d) [] (.d (.bool true)) [] := by
  obtain ⟨_, xs0, rfl, ⟨a0, k0, rfl⟩, h0⟩ := FA.cons h
  obtain ⟨_, xs1, rfl, ⟨a1, k1, rfl⟩, h1⟩ := FA.cons h0
  obtain ⟨_, xs2, rfl, ⟨a2, k2, rfl⟩, h2⟩ := FA.cons h1
  obtain ⟨_, xs3, rfl, ⟨a3, k3, rfl⟩, h3⟩ := FA.cons h2
  obtain ⟨_, xs4, rfl, ⟨a4, k4, rfl⟩, h4⟩ := FA.cons h3
  obtain ⟨_, xs5, rfl, ⟨a5, k5, rfl⟩, h5⟩ := FA.cons h4
  obtain rfl := FA.nil h5
  exact exchangepointlaw41_InvoiceMakes_ac a0 a1 a2 a3 a4 a5 true (makes_law a0 k0 a1 k1 a2 k2 a3 k3 a4 k4 a5 k5)
theorem read3 : Program.readableRec Try.prog 3 = true ∧ 3 < Try.prog.types.size := ⟨by kernel_rfl, of_decide_eq_true (by kernel_rfl)⟩
theorem read24 : Program.readableRec Try.prog 24 = true ∧ 24 < Try.prog.types.size := ⟨by kernel_rfl, of_decide_eq_true (by kernel_rfl)⟩
theorem read25 : Program.readableRec Try.prog 25 = true ∧ 25 < Try.prog.types.size := ⟨by kernel_rfl, of_decide_eq_true (by kernel_rfl)⟩
theorem read27 : Program.readableRec Try.prog 27 = true ∧ 27 < Try.prog.types.size := ⟨by kernel_rfl, of_decide_eq_true (by kernel_rfl)⟩
theorem read28 : Program.readableRec Try.prog 28 = true ∧ 28 < Try.prog.types.size := ⟨by kernel_rfl, of_decide_eq_true (by kernel_rfl)⟩
theorem reads : ∀ t ∈ ([24, 25, 27, 28, 3, 3] : List TypeId), Program.readableRec Try.prog t = true ∧ t < Try.prog.types.size := by
  intro t ht
  cases ht with
  | head => exact read24
  | tail _ ht =>
  cases ht with
  | head => exact read25
  | tail _ ht =>
  cases ht with
  | head => exact read27
  | tail _ ht =>
  cases ht with
  | head => exact read28
  | tail _ ht =>
  cases ht with
  | head => exact read3
  | tail _ ht =>
  cases ht with
  | head => exact read3
  | tail _ ht =>
  cases ht
set_option maxRecDepth 100000 in
theorem lifted (os : Os) (started : os.Started) (H : Type) (enc : TypeId × Value → H) :
    ReturnsInHanded {} Try.checked os 3 .any (Rows.invoiceMakesSpec.pre6 enc Try.prog Try.f3 Rows.invoiceMakesRow.domain false) (Rows.invoiceMakesSpec.post enc Try.prog Try.f3 false true false false) := by
  refine returnsInHanded_of_change (C := Try.checked) own started (by kernel_rfl) Try.func3
    (ChangeSpec.witness6 (enc := enc) (C := Try.checked) false ⟨#[], #[.agg #[.int .i64 0, .string ByteArray.empty, .string ByteArray.empty, .int .i64 0, .int .i64 0, .slice none 0 0], .slice none 0 0, .agg #[.int .i64 0, .int .i64 0, .int .i64 0], .slice none 0 0, .int .i64 0, .int .i64 0], []⟩ 8 (by kernel_rfl) (by kernel_rfl) (by kernel_rfl) (by kernel_rfl)) ?_
  intro W base args ds gs before hval0 hW hcnd _
  exact law_calls (P := Try.prog) (ts := [24, 25, 27, 28, 3, 3]) (tb := 4) hval0 hW rfl rfl (.cons rd24 (.cons rd25 (.cons rd27 (.cons rd28 (.cons rd3 (.cons rd3 .nil)))))) Try.underlying4 (by kernel_rfl) laid reads
    (fun ds hl => by match ds, hl with | [_, _, _, _, _, _], _ => rfl) law_ac
theorem holds : Rows.InvoiceMakesSaid :=
  OpenClaim.holds_of_wide 3 Try.f3 rfl rfl rfl rfl rfl rfl rfl ⟨rfl, rfl, rfl, rfl, rfl⟩ rfl rfl rfl rfl rfl (by kernel_rfl) Try.func3 (by kernel_rfl)
    (of_decide_eq_true (by kernel_rfl)) (by unfold Func.isWrapper; first | (rw [if_pos (by decide +kernel)]; kernel_rfl) | (rw [if_neg (by decide +kernel)]; exact ⟨rfl, rfl⟩))
    (fun os started H enc _ => lifted os started H enc)
end Go.Proofs.Ytimcphncaffenaa
