/-
  NARROWER THAN 'FOR EVERY INPUT', by the rows' own cells (each row's printed sentence says how): EnrolOrder: laid · EnrolRaw: laid · EnrolMade: laid.
  DERIVED. THE GIVEN ROWS OF THIS SEAT. 3 by the template 'for every input the law returns true; each argument reads behind the call as it read before'; 0 by the template 'total and deterministic' (their statements: YtnahkfchcminpaaGreatDoorTotals.lean).
  GIVEN WITH THE SEED: the statements are not yours to turn. If you find one false, say at which input.
  Laid BY PROGRAM, IN A SANDBOX (cutbox-rows.mjs): the forced cells as the released guide's own fill.sh prints them over the translation ac5a70fa65def397… (all of the seat's roots in one cut). By AI agents, Wed Nov 11 2026. No macro, syntax, notation, axiom, sorry.
-/
import Derived.Test.YtnahkfchcminpaaGreatDoorChecked
import GoSem.Claim
import GoSem.ClaimJoined
import GoSem.ClaimMapViews
import Derived.JoinedTies
import Derived.KernelRfl
namespace Go.Proofs.YtnahkfchcminpaaGreatDoor
/- THE CELL 'sum', in the pinned program and in every row, IS THE sha256 OF THE DUMP (.gsa) THAT YtnahkfchcminpaaGreatDoorProg.lean LOADS. Nothing in Lean hashes anything: it is a label: what it is worth is what the hold of that sum in a sandbox is worth. -/
noncomputable def Tryz.pinned : Pinned := { name := "ytnahkfchcminpaagreatdoor", sum := "ac5a70fa65def397a704dce0a90b67c65572735402052799d40b7cf800a0ce25", checked := Tryz.checked }
namespace Rows
def none {H : Type} : Left H := { results := [], args := [] }

/- WHAT THE LISTED PACKAGE-LEVEL VARIABLES READ AS WHEN THE CALL BEGINS. Each datum BY PROGRAM (the guide's laid-datum.mjs) off the statement by which the dump's own 'gosem.cut.vars' lays the variable. In a bare row this is a premise. The card (YtnahkfchcminpaaGreatDoorCards.lean) ties it to the program's text. -/
def laid_reportescrow_field_bases {H : Type} : DataW H := .agg [.lit (.int .i64 2), .lit (.int .i64 3), .lit (.int .i64 5), .lit (.int .i64 7)]

/-- 'reportescrowlaw23.EnrolOrder': WHATEVER THE INPUT: true; the input reads as it did. -/
def enrolOrderSpec : ChangeSpec := { name := "enrolOrder", fn := fun _ => fun
  | [d] => { results := [.lit (.bool true)], args := [d] }
  | _ => none }
def enrolOrderRow : OpenClaim := { program := "ytnahkfchcminpaagreatdoor", sum := "ac5a70fa65def397a704dce0a90b67c65572735402052799d40b7cf800a0ce25", func := "reportescrow/reportescrowlaw23.EnrolOrder", spec := "enrolOrder", inPlace := ["internal/abi.NoEscape", "internal/bytealg.MakeNoZero"], unfollowed := true, recurses := true, named := ["reportescrow/field.bases"], apart := false, laid := [("reportescrow/field.bases", laid_reportescrow_field_bases)] }
def EnrolOrderSaid : Prop := enrolOrderRow.holds Tryz.pinned (OpenSpec.ofChange enrolOrderSpec)

/-- ITS FALSE NEIGHBOUR: 'it returns false'. Refute it at one input. -/
def enrolOrderWrong : ChangeSpec := { name := "enrolOrder", fn := fun _ => fun
  | [d] => { results := [.lit (.bool false)], args := [d] }
  | _ => none }
def EnrolOrderWrongFalsely : Prop := enrolOrderRow.holds Tryz.pinned (OpenSpec.ofChange enrolOrderWrong)

/-- 'reportescrowlaw23.EnrolRaw': WHATEVER THE INPUT: true; the input reads as it did. -/
def enrolRawSpec : ChangeSpec := { name := "enrolRaw", fn := fun _ => fun
  | [d1, d2, d3] => { results := [.lit (.bool true)], args := [d1, d2, d3] }
  | _ => none }
def enrolRawRow : OpenClaim := { program := "ytnahkfchcminpaagreatdoor", sum := "ac5a70fa65def397a704dce0a90b67c65572735402052799d40b7cf800a0ce25", func := "reportescrow/reportescrowlaw23.EnrolRaw", spec := "enrolRaw", inPlace := ["internal/abi.NoEscape", "internal/bytealg.MakeNoZero"], unfollowed := true, recurses := true, named := ["reportescrow/field.bases"], apart := false, laid := [("reportescrow/field.bases", laid_reportescrow_field_bases)] }
def EnrolRawSaid : Prop := enrolRawRow.holds Tryz.pinned (OpenSpec.ofChange enrolRawSpec)

/-- ITS FALSE NEIGHBOUR: 'it returns false'. Refute it at one input. -/
def enrolRawWrong : ChangeSpec := { name := "enrolRaw", fn := fun _ => fun
  | [d1, d2, d3] => { results := [.lit (.bool false)], args := [d1, d2, d3] }
  | _ => none }
def EnrolRawWrongFalsely : Prop := enrolRawRow.holds Tryz.pinned (OpenSpec.ofChange enrolRawWrong)

/-- 'reportescrowlaw23.EnrolMade': WHATEVER THE INPUT: true; the input reads as it did. -/
def enrolMadeSpec : ChangeSpec := { name := "enrolMade", fn := fun _ => fun
  | [d1, d2] => { results := [.lit (.bool true)], args := [d1, d2] }
  | _ => none }
def enrolMadeRow : OpenClaim := { program := "ytnahkfchcminpaagreatdoor", sum := "ac5a70fa65def397a704dce0a90b67c65572735402052799d40b7cf800a0ce25", func := "reportescrow/reportescrowlaw23.EnrolMade", spec := "enrolMade", inPlace := ["internal/abi.NoEscape", "internal/bytealg.MakeNoZero"], unfollowed := true, recurses := true, named := ["reportescrow/field.bases"], apart := false, laid := [("reportescrow/field.bases", laid_reportescrow_field_bases)] }
def EnrolMadeSaid : Prop := enrolMadeRow.holds Tryz.pinned (OpenSpec.ofChange enrolMadeSpec)

/-- ITS FALSE NEIGHBOUR: 'it returns false'. Refute it at one input. -/
def enrolMadeWrong : ChangeSpec := { name := "enrolMade", fn := fun _ => fun
  | [d1, d2] => { results := [.lit (.bool false)], args := [d1, d2] }
  | _ => none }
def EnrolMadeWrongFalsely : Prop := enrolMadeRow.holds Tryz.pinned (OpenSpec.ofChange enrolMadeWrong)

/- THE SECOND FORM. 'bulk': how many values and letters a reading holds, each counted each time it is reached (what is shared counts as often as it is met; a slice's spare places count too). A statement '..UptoSaid' is the law's where the arguments, and the package variables that the reading takes, are together of bulk at most 1048576: NARROWER than '..Said'. Prove '..Said' where nothing that the law and all that it calls make is longer than what came in: it says more and counts as full. Else prove '..UptoSaid'. A law counts once. -/
mutual
def uptoBulk {H : Type} : DataW H → Nat
  | .lit (.string bytes) => bytes.length + 1
  | .lit _ => 1
  | .nil => 1
  | .ptr d => uptoBulk d + 1
  | .slice elems spare => uptoBulkAll elems + uptoBulkAll spare + 1
  | .agg parts => uptoBulkAll parts + 1
  | .iface _ d => uptoBulk d + 1
  | .map entries => uptoBulkEntries entries + 1
  | .held _ => 1
def uptoBulkAll {H : Type} : List (DataW H) → Nat
  | [] => 0
  | d :: r => uptoBulk d + uptoBulkAll r
def uptoBulkEntries {H : Type} : List (Lit × DataW H) → Nat
  | [] => 0
  | x :: r => uptoBulkEntry x + uptoBulkEntries r
def uptoBulkEntry {H : Type} : Lit × DataW H → Nat
  | (.string bytes, d) => bytes.length + uptoBulk d + 1
  | (_, d) => uptoBulk d + 1
 end
def uptoSmall : (H : Type) → List (DataW H) → Bool := fun _ ds => decide (uptoBulkAll ds ≤ 1048576)
def OpenSpec.upto (s : _root_.Go.ChangeSpec) : _root_.Go.OpenSpec := { _root_.Go.OpenSpec.ofChange s with cond := some uptoSmall }

/-- 'reportescrowlaw23.EnrolOrder', WHERE WHAT IT READS IS OF BULK AT MOST 1048576: true; the input reads as it did. -/
def enrolOrderUptoRow : OpenClaim := { program := "ytnahkfchcminpaagreatdoor", sum := "ac5a70fa65def397a704dce0a90b67c65572735402052799d40b7cf800a0ce25", func := "reportescrow/reportescrowlaw23.EnrolOrder", spec := "enrolOrder", inPlace := ["internal/abi.NoEscape", "internal/bytealg.MakeNoZero"], unfollowed := true, recurses := true, named := ["reportescrow/field.bases"], apart := false, laid := [("reportescrow/field.bases", laid_reportescrow_field_bases)], narrowed := true }
def EnrolOrderUptoSaid : Prop := enrolOrderUptoRow.holds Tryz.pinned (OpenSpec.upto enrolOrderSpec)

/-- 'reportescrowlaw23.EnrolRaw', WHERE WHAT IT READS IS OF BULK AT MOST 1048576: true; the input reads as it did. -/
def enrolRawUptoRow : OpenClaim := { program := "ytnahkfchcminpaagreatdoor", sum := "ac5a70fa65def397a704dce0a90b67c65572735402052799d40b7cf800a0ce25", func := "reportescrow/reportescrowlaw23.EnrolRaw", spec := "enrolRaw", inPlace := ["internal/abi.NoEscape", "internal/bytealg.MakeNoZero"], unfollowed := true, recurses := true, named := ["reportescrow/field.bases"], apart := false, laid := [("reportescrow/field.bases", laid_reportescrow_field_bases)], narrowed := true }
def EnrolRawUptoSaid : Prop := enrolRawUptoRow.holds Tryz.pinned (OpenSpec.upto enrolRawSpec)

/-- 'reportescrowlaw23.EnrolMade', WHERE WHAT IT READS IS OF BULK AT MOST 1048576: true; the input reads as it did. -/
def enrolMadeUptoRow : OpenClaim := { program := "ytnahkfchcminpaagreatdoor", sum := "ac5a70fa65def397a704dce0a90b67c65572735402052799d40b7cf800a0ce25", func := "reportescrow/reportescrowlaw23.EnrolMade", spec := "enrolMade", inPlace := ["internal/abi.NoEscape", "internal/bytealg.MakeNoZero"], unfollowed := true, recurses := true, named := ["reportescrow/field.bases"], apart := false, laid := [("reportescrow/field.bases", laid_reportescrow_field_bases)], narrowed := true }
def EnrolMadeUptoSaid : Prop := enrolMadeUptoRow.holds Tryz.pinned (OpenSpec.upto enrolMadeSpec)

end Rows
end Go.Proofs.YtnahkfchcminpaaGreatDoor
