/-
  NARROWER THAN 'FOR EVERY INPUT', by the rows' own cells (each row's printed sentence says how): PaceQueues: laid · PaceLeads: laid · PaceLimits: laid.
  DERIVED. THE GIVEN ROWS OF THIS SEAT. 3 by the template 'for every input the law returns true; each argument reads behind the call as it read before'; 0 by the template 'total and deterministic' (their statements: YtplbaenjbihekaaGreatDoorTotals.lean).
  GIVEN WITH THE SEED: the statements are not yours to turn. If you find one false, say at which input.
  Laid BY PROGRAM, IN A SANDBOX (cutbox-rows.mjs): the forced cells as the released guide's own fill.sh prints them over the translation 4dcc7f54d047d5d4… (all of the seat's roots in one cut). By AI agents, Wed Nov 11 2026. No macro, syntax, notation, axiom, sorry.
-/
import Derived.Test.YtplbaenjbihekaaGreatDoorChecked
import GoSem.Claim
import GoSem.ClaimJoined
import GoSem.ClaimMapViews
import Derived.JoinedTies
import Derived.KernelRfl
namespace Go.Proofs.YtplbaenjbihekaaGreatDoor
/- THE CELL 'sum', in the pinned program and in every row, IS THE sha256 OF THE DUMP (.gsa) THAT YtplbaenjbihekaaGreatDoorProg.lean LOADS. Nothing in Lean hashes anything: it is a label: what it is worth is what the hold of that sum in a sandbox is worth. -/
noncomputable def Tryz.pinned : Pinned := { name := "ytplbaenjbihekaagreatdoor", sum := "4dcc7f54d047d5d4a61e33d848e1a19999d32c981cf14c448f73678cc2e79e2b", checked := Tryz.checked }
namespace Rows
def none {H : Type} : Left H := { results := [], args := [] }

/- WHAT THE LISTED PACKAGE-LEVEL VARIABLES READ AS WHEN THE CALL BEGINS. Each datum BY PROGRAM (the guide's laid-datum.mjs) off the statement by which the dump's own 'gosem.cut.vars' lays the variable. In a bare row this is a premise. The card (YtplbaenjbihekaaGreatDoorCards.lean) ties it to the program's text. -/
def laid_exchangepoint_attribute_flags {H : Type} : DataW H := .map [(.int .i64 1, .lit (.int .i64 64)), (.int .i64 2, .lit (.int .i64 64)), (.int .i64 3, .lit (.int .i64 64)), (.int .i64 4, .lit (.int .i64 128)), (.int .i64 5, .lit (.int .i64 64)), (.int .i64 8, .lit (.int .i64 192)), (.int .i64 32, .lit (.int .i64 192)), (.int .i64 35, .lit (.int .i64 192))]

/-- 'exchangepointlaw31.PaceQueues': WHATEVER THE INPUT: true; the input reads as it did. -/
def paceQueuesSpec : ChangeSpec := { name := "paceQueues", fn := fun _ => fun
  | [d1, d2, d3, d4, d5] => { results := [.lit (.bool true)], args := [d1, d2, d3, d4, d5] }
  | _ => none }
def paceQueuesRow : OpenClaim := { program := "ytplbaenjbihekaagreatdoor", sum := "4dcc7f54d047d5d4a61e33d848e1a19999d32c981cf14c448f73678cc2e79e2b", func := "exchangepoint/exchangepointlaw31.PaceQueues", spec := "paceQueues", unfollowed := true, recurses := true, named := ["exchangepoint/attribute.flags"], plainKeys := false, apart := false, laid := [("exchangepoint/attribute.flags", laid_exchangepoint_attribute_flags)] }
def PaceQueuesSaid : Prop := paceQueuesRow.holds Tryz.pinned (OpenSpec.ofChange paceQueuesSpec)

/-- ITS FALSE NEIGHBOUR: 'it returns false'. Refute it at one input. -/
def paceQueuesWrong : ChangeSpec := { name := "paceQueues", fn := fun _ => fun
  | [d1, d2, d3, d4, d5] => { results := [.lit (.bool false)], args := [d1, d2, d3, d4, d5] }
  | _ => none }
def PaceQueuesWrongFalsely : Prop := paceQueuesRow.holds Tryz.pinned (OpenSpec.ofChange paceQueuesWrong)

/-- 'exchangepointlaw31.PaceLeads': WHATEVER THE INPUT: true; the input reads as it did. -/
def paceLeadsSpec : ChangeSpec := { name := "paceLeads", fn := fun _ => fun
  | [d] => { results := [.lit (.bool true)], args := [d] }
  | _ => none }
def paceLeadsRow : OpenClaim := { program := "ytplbaenjbihekaagreatdoor", sum := "4dcc7f54d047d5d4a61e33d848e1a19999d32c981cf14c448f73678cc2e79e2b", func := "exchangepoint/exchangepointlaw31.PaceLeads", spec := "paceLeads", unfollowed := true, recurses := true, named := ["exchangepoint/attribute.flags"], plainKeys := false, apart := false, laid := [("exchangepoint/attribute.flags", laid_exchangepoint_attribute_flags)] }
def PaceLeadsSaid : Prop := paceLeadsRow.holds Tryz.pinned (OpenSpec.ofChange paceLeadsSpec)

/-- ITS FALSE NEIGHBOUR: 'it returns false'. Refute it at one input. -/
def paceLeadsWrong : ChangeSpec := { name := "paceLeads", fn := fun _ => fun
  | [d] => { results := [.lit (.bool false)], args := [d] }
  | _ => none }
def PaceLeadsWrongFalsely : Prop := paceLeadsRow.holds Tryz.pinned (OpenSpec.ofChange paceLeadsWrong)

/-- 'exchangepointlaw31.PaceLimits': WHATEVER THE INPUT: true; the input reads as it did. -/
def paceLimitsSpec : ChangeSpec := { name := "paceLimits", fn := fun _ => fun
  | [d1, d2] => { results := [.lit (.bool true)], args := [d1, d2] }
  | _ => none }
def paceLimitsRow : OpenClaim := { program := "ytplbaenjbihekaagreatdoor", sum := "4dcc7f54d047d5d4a61e33d848e1a19999d32c981cf14c448f73678cc2e79e2b", func := "exchangepoint/exchangepointlaw31.PaceLimits", spec := "paceLimits", unfollowed := true, recurses := true, named := ["exchangepoint/attribute.flags"], plainKeys := false, apart := false, laid := [("exchangepoint/attribute.flags", laid_exchangepoint_attribute_flags)] }
def PaceLimitsSaid : Prop := paceLimitsRow.holds Tryz.pinned (OpenSpec.ofChange paceLimitsSpec)

/-- ITS FALSE NEIGHBOUR: 'it returns false'. Refute it at one input. -/
def paceLimitsWrong : ChangeSpec := { name := "paceLimits", fn := fun _ => fun
  | [d1, d2] => { results := [.lit (.bool false)], args := [d1, d2] }
  | _ => none }
def PaceLimitsWrongFalsely : Prop := paceLimitsRow.holds Tryz.pinned (OpenSpec.ofChange paceLimitsWrong)

/- THE SECOND FORM. 'bulk': how many values and letters a reading holds, each counted each time it is reached (what is shared counts as often as it is met; a slice's spare places count too). A statement '..UptoSaid' is the law's where the arguments, and the package variables that the reading takes, are together of bulk at most 1048576: NARROWER than '..Said'. Prove '..Said' where nothing that the law and all that it calls make is longer than what came in: it says more and counts as full. Else prove '..UptoSaid'. A law counts once. -/
mutual
def uptoBulk {H : Type} : DataW H → Nat
  | .lit (.string bytes) => bytes.length + 1
  | .lit _ => 1
  | .nil => 1
  | .ptr d => uptoBulk d + 1
  | .slice elems spare => uptoBulkAll elems + uptoBulkAll spare + 1
  | .agg parts => uptoBulkAll parts + 1
  | .iface _ d => uptoBulk d + 1
  | .map entries => uptoBulkEntries entries + 1
  | .held _ => 1
def uptoBulkAll {H : Type} : List (DataW H) → Nat
  | [] => 0
  | d :: r => uptoBulk d + uptoBulkAll r
def uptoBulkEntries {H : Type} : List (Lit × DataW H) → Nat
  | [] => 0
  | x :: r => uptoBulkEntry x + uptoBulkEntries r
def uptoBulkEntry {H : Type} : Lit × DataW H → Nat
  | (.string bytes, d) => bytes.length + uptoBulk d + 1
  | (_, d) => uptoBulk d + 1
 end
def uptoSmall : (H : Type) → List (DataW H) → Bool := fun _ ds => decide (uptoBulkAll ds ≤ 1048576)
def OpenSpec.upto (s : _root_.Go.ChangeSpec) : _root_.Go.OpenSpec := { _root_.Go.OpenSpec.ofChange s with cond := some uptoSmall }

/-- 'exchangepointlaw31.PaceQueues', WHERE WHAT IT READS IS OF BULK AT MOST 1048576: true; the input reads as it did. -/
def paceQueuesUptoRow : OpenClaim := { program := "ytplbaenjbihekaagreatdoor", sum := "4dcc7f54d047d5d4a61e33d848e1a19999d32c981cf14c448f73678cc2e79e2b", func := "exchangepoint/exchangepointlaw31.PaceQueues", spec := "paceQueues", unfollowed := true, recurses := true, named := ["exchangepoint/attribute.flags"], plainKeys := false, apart := false, laid := [("exchangepoint/attribute.flags", laid_exchangepoint_attribute_flags)], narrowed := true }
def PaceQueuesUptoSaid : Prop := paceQueuesUptoRow.holds Tryz.pinned (OpenSpec.upto paceQueuesSpec)

/-- 'exchangepointlaw31.PaceLeads', WHERE WHAT IT READS IS OF BULK AT MOST 1048576: true; the input reads as it did. -/
def paceLeadsUptoRow : OpenClaim := { program := "ytplbaenjbihekaagreatdoor", sum := "4dcc7f54d047d5d4a61e33d848e1a19999d32c981cf14c448f73678cc2e79e2b", func := "exchangepoint/exchangepointlaw31.PaceLeads", spec := "paceLeads", unfollowed := true, recurses := true, named := ["exchangepoint/attribute.flags"], plainKeys := false, apart := false, laid := [("exchangepoint/attribute.flags", laid_exchangepoint_attribute_flags)], narrowed := true }
def PaceLeadsUptoSaid : Prop := paceLeadsUptoRow.holds Tryz.pinned (OpenSpec.upto paceLeadsSpec)

/-- 'exchangepointlaw31.PaceLimits', WHERE WHAT IT READS IS OF BULK AT MOST 1048576: true; the input reads as it did. -/
def paceLimitsUptoRow : OpenClaim := { program := "ytplbaenjbihekaagreatdoor", sum := "4dcc7f54d047d5d4a61e33d848e1a19999d32c981cf14c448f73678cc2e79e2b", func := "exchangepoint/exchangepointlaw31.PaceLimits", spec := "paceLimits", unfollowed := true, recurses := true, named := ["exchangepoint/attribute.flags"], plainKeys := false, apart := false, laid := [("exchangepoint/attribute.flags", laid_exchangepoint_attribute_flags)], narrowed := true }
def PaceLimitsUptoSaid : Prop := paceLimitsUptoRow.holds Tryz.pinned (OpenSpec.upto paceLimitsSpec)

end Rows
end Go.Proofs.YtplbaenjbihekaaGreatDoor
