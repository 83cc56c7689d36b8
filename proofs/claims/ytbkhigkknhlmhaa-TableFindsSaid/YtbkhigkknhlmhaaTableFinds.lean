/- The statement 'TableFinds' holds of every input: no condition. -/
import Derived.Test.YtbkhigkknhlmhaaRows
import Derived.Test.YtbkhigkknhlmhaaFns
import Derived.Test.YtbkhigkknhlmhaaPureE
import Derived.Test.YtbkhigkknhlmhaaPureG
import Derived.Test.YtbkhigkknhlmhaaPureK
import Derived.Test.YtbkhigkknhlmhaaPureL
import Derived.Test.YtbkhigkknhlmhaaPureQ
namespace Go.Proofs.Ytbkhigkknhlmhaa
open Go Go.Vc Go.ChangeShapes Go.WideShapes Go.ChangeAt Go.RowKit
theorem own : ownKnob Try.prog.godebug = none := by kernel_rfl
theorem laid : laidOutB Try.prog = true := by kernel_rfl
theorem cells4 : Try.prog.cellsOf 4 = 1 := by kernel_rfl
theorem rd4 : Rd Try.prog 4 1 false (fun d => ∃ x : Bool, True ∧ d = eB x) :=
  Rd.bool Try.underlying4 cells4
theorem cells31 : Try.prog.cellsOf 31 = 1 := by kernel_rfl
theorem rd31 : Rd Try.prog 31 1 false (fun d => ∃ x : Int, (IntKind.u64.min ≤ x ∧ x ≤ IntKind.u64.max) ∧ d = (eI .u64) x) :=
  Rd.int Try.underlying31 cells31
def q33 (x : api_Addr) : Prop := (True) ∧ ((IntKind.u64.min ≤ x.fHi ∧ x.fHi ≤ IntKind.u64.max)) ∧ ((IntKind.u64.min ≤ x.fLo ∧ x.fLo ≤ IntKind.u64.max)) ∧ True
theorem cells33 : Try.prog.cellsOf 33 = 3 := by kernel_rfl
theorem rd33 : Rd Try.prog 33 3 true (fun d => ∃ x : api_Addr, q33 x ∧ d = e_api_Addr x) :=
  Rd.st (ps := [(fun d => ∃ x : Bool, True ∧ d = eB x), (fun d => ∃ x : Int, (IntKind.u64.min ≤ x ∧ x ≤ IntKind.u64.max) ∧ d = (eI .u64) x), (fun d => ∃ x : Int, (IntKind.u64.min ≤ x ∧ x ≤ IntKind.u64.max) ∧ d = (eI .u64) x)]) Try.underlying33 rfl cells33 (.cons rfl rd4 (.cons rfl rd31 (.cons rfl rd31 .nil))) (fun ds h => by
    obtain ⟨_, ds0, rfl, ⟨x0, k0, rfl⟩, h0⟩ := FA.cons h
    obtain ⟨_, ds1, rfl, ⟨x1, k1, rfl⟩, h1⟩ := FA.cons h0
    obtain ⟨_, ds2, rfl, ⟨x2, k2, rfl⟩, h2⟩ := FA.cons h1
    obtain rfl := FA.nil h2
    exact ⟨⟨x0, x1, x2⟩, ⟨k0, k1, k2, trivial⟩, rfl⟩) (fun d ⟨x, k, h⟩ => by
    subst h
    obtain ⟨k0, k1, k2, _⟩ := k
    exact ⟨_, rfl, ⟨⟨_, k0, rfl⟩, ⟨⟨_, k1, rfl⟩, ⟨⟨_, k2, rfl⟩, trivial⟩⟩⟩⟩)
theorem cells3 : Try.prog.cellsOf 3 = 1 := by kernel_rfl
theorem rd3 : Rd Try.prog 3 1 false (fun d => ∃ x : Int, (IntKind.i64.min ≤ x ∧ x ≤ IntKind.i64.max) ∧ d = (eI .i64) x) :=
  Rd.int Try.underlying3 cells3
def q37 (x : api_Prefix) : Prop := (q33 x.fAddr) ∧ ((IntKind.i64.min ≤ x.fLen ∧ x.fLen ≤ IntKind.i64.max)) ∧ True
theorem cells37 : Try.prog.cellsOf 37 = 4 := by kernel_rfl
theorem rd37 : Rd Try.prog 37 4 true (fun d => ∃ x : api_Prefix, q37 x ∧ d = e_api_Prefix x) :=
  Rd.st (ps := [(fun d => ∃ x : api_Addr, q33 x ∧ d = e_api_Addr x), (fun d => ∃ x : Int, (IntKind.i64.min ≤ x ∧ x ≤ IntKind.i64.max) ∧ d = (eI .i64) x)]) Try.underlying37 rfl cells37 (.cons rfl rd33 (.cons rfl rd3 .nil)) (fun ds h => by
    obtain ⟨_, ds0, rfl, ⟨x0, k0, rfl⟩, h0⟩ := FA.cons h
    obtain ⟨_, ds1, rfl, ⟨x1, k1, rfl⟩, h1⟩ := FA.cons h0
    obtain rfl := FA.nil h1
    exact ⟨⟨x0, x1⟩, ⟨k0, k1, trivial⟩, rfl⟩) (fun d ⟨x, k, h⟩ => by
    subst h
    obtain ⟨k0, k1, _⟩ := k
    exact ⟨_, rfl, ⟨⟨_, k0, rfl⟩, ⟨⟨_, k1, rfl⟩, trivial⟩⟩⟩)
def q39 (x : api_Entry) : Prop := (q37 x.fPrefix) ∧ ((IntKind.i64.min ≤ x.fValue ∧ x.fValue ≤ IntKind.i64.max)) ∧ True
theorem cells39 : Try.prog.cellsOf 39 = 5 := by kernel_rfl
theorem rd39 : Rd Try.prog 39 5 true (fun d => ∃ x : api_Entry, q39 x ∧ d = e_api_Entry x) :=
  Rd.st (ps := [(fun d => ∃ x : api_Prefix, q37 x ∧ d = e_api_Prefix x), (fun d => ∃ x : Int, (IntKind.i64.min ≤ x ∧ x ≤ IntKind.i64.max) ∧ d = (eI .i64) x)]) Try.underlying39 rfl cells39 (.cons rfl rd37 (.cons rfl rd3 .nil)) (fun ds h => by
    obtain ⟨_, ds0, rfl, ⟨x0, k0, rfl⟩, h0⟩ := FA.cons h
    obtain ⟨_, ds1, rfl, ⟨x1, k1, rfl⟩, h1⟩ := FA.cons h0
    obtain rfl := FA.nil h1
    exact ⟨⟨x0, x1⟩, ⟨k0, k1, trivial⟩, rfl⟩) (fun d ⟨x, k, h⟩ => by
    subst h
    obtain ⟨k0, k1, _⟩ := k
    exact ⟨_, rfl, ⟨⟨_, k0, rfl⟩, ⟨⟨_, k1, rfl⟩, trivial⟩⟩⟩)
def q23 (x : (List api_Entry)) : Prop := (∀ y ∈ x, q39 y) ∧ x.length ≤ maxLen
theorem cells23 : Try.prog.cellsOf 23 = 1 := by kernel_rfl
theorem rd23 : Rd Try.prog 23 1 false (fun d => ∃ x : (List api_Entry), q23 x ∧ d = (.list 5 (x.map e_api_Entry))) :=
  Rd.list Try.underlying23 cells23 (by decide) rd39
def q22 (x : (List Int)) : Prop := (∀ y ∈ x, (IntKind.i64.min ≤ y ∧ y ≤ IntKind.i64.max)) ∧ x.length ≤ maxLen
theorem cells22 : Try.prog.cellsOf 22 = 1 := by kernel_rfl
theorem rd22 : Rd Try.prog 22 1 false (fun d => ∃ x : (List Int), q22 x ∧ d = (.list 1 (x.map (eI .i64)))) :=
  Rd.list Try.underlying22 cells22 (by decide) rd3
theorem law_ac (xs : List D) (h : FA [(fun d => ∃ x : (List api_Entry), q23 x ∧ d = (.list 5 (x.map e_api_Entry))), (fun d => ∃ x : (List Int), q22 x ∧ d = (.list 1 (x.map (eI .i64))))] xs) : AC Try.prog 6 (xs.map .d) [] (.d (.bool true)) [] := by
  obtain ⟨_, xs0, rfl, ⟨a0, k0, rfl⟩, h0⟩ := FA.cons h
  obtain ⟨_, xs1, rfl, ⟨a1, k1, rfl⟩, h1⟩ := FA.cons h0
  obtain rfl := FA.nil h1
  exact exchangepointlaw03_TableFinds_ac a0 a1 true (finds_law a0 k0 a1 k1)
theorem read22 : Program.readableRec Try.prog 22 = true ∧ 22 < Try.prog.types.size := ⟨by kernel_rfl, of_decide_eq_true (by kernel_rfl)⟩
theorem read23 : Program.readableRec Try.prog 23 = true ∧ 23 < Try.prog.types.size := ⟨by kernel_rfl, of_decide_eq_true (by kernel_rfl)⟩
theorem reads : ∀ t ∈ ([23, 22] : List TypeId), Program.readableRec Try.prog t = true ∧ t < Try.prog.types.size := by
  intro t ht
  cases ht with
  | head => exact read23
  | tail _ ht =>
  cases ht with
  | head => exact read22
  | tail _ ht =>
  cases ht
set_option maxRecDepth 100000 in
theorem lifted (os : Os) (started : os.Started) (H : Type) (enc : TypeId × Value → H) :
    ReturnsInHanded {} Try.checked os 6 .any (Rows.tableFindsSpec.pre6 enc Try.prog Try.f6 Rows.tableFindsRow.domain false) (Rows.tableFindsSpec.post enc Try.prog Try.f6 false true false false) := by
  refine returnsInHanded_of_change (C := Try.checked) own started (by kernel_rfl) Try.func6
    (ChangeSpec.witness6 (enc := enc) (C := Try.checked) false ⟨#[], #[.slice none 0 0, .slice none 0 0], []⟩ 8 (by kernel_rfl) (by kernel_rfl) (by kernel_rfl) (by kernel_rfl)) ?_
  intro W base args ds gs before hval0 hW hcnd _
  exact law_calls (P := Try.prog) (ts := [23, 22]) (tb := 4) hval0 hW rfl rfl (.cons rd23 (.cons rd22 .nil)) Try.underlying4 (by kernel_rfl) laid reads
    (fun ds hl => by match ds, hl with | [_, _], _ => rfl) law_ac
theorem holds : Rows.TableFindsSaid :=
  OpenClaim.holds_of_wide 6 Try.f6 rfl rfl rfl rfl rfl rfl rfl ⟨rfl, rfl, rfl, rfl, rfl⟩ rfl rfl rfl rfl rfl (by kernel_rfl) Try.func6 (by kernel_rfl)
    (of_decide_eq_true (by kernel_rfl)) (by unfold Func.isWrapper; first | (rw [if_pos (by decide +kernel)]; kernel_rfl) | (rw [if_neg (by decide +kernel)]; exact ⟨rfl, rfl⟩))
    (fun os started H enc _ => lifted os started H enc)
end Go.Proofs.Ytbkhigkknhlmhaa
