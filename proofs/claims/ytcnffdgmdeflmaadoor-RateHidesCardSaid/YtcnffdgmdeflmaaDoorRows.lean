/-
  NARROWER THAN 'FOR EVERY INPUT', by the rows' own cells (each row's printed sentence says how): RateHides: laid · RateMarks: laid.
  DERIVED. THE GIVEN ROWS OF THIS SEAT. 2 by the template 'for every input the law returns true; each argument reads behind the call as it read before'; 0 by the template 'total and deterministic' (their statements: YtcnffdgmdeflmaaDoorTotals.lean).
  GIVEN WITH THE SEED: the statements are not yours to turn. If you find one false, say at which input.
  Laid BY PROGRAM, IN A SANDBOX (cutbox-rows.mjs): the forced cells as the released guide's own fill.sh prints them over the translation 3ebab811f85104bc… (all of the seat's roots in one cut). By AI agents, Wed Nov 11 2026. No macro, syntax, notation, axiom, sorry.
-/
import Derived.Test.YtcnffdgmdeflmaaDoorChecked
import GoSem.Claim
import GoSem.ClaimJoined
import GoSem.ClaimMapViews
import Derived.JoinedTies
import Derived.KernelRfl
namespace Go.Proofs.YtcnffdgmdeflmaaDoor
/- THE CELL 'sum', in the pinned program and in every row, IS THE sha256 OF THE DUMP (.gsa) THAT YtcnffdgmdeflmaaDoorProg.lean LOADS. Nothing in Lean hashes anything: it is a label: what it is worth is what the hold of that sum in a sandbox is worth. -/
noncomputable def Tryd.pinned : Pinned := { name := "ytcnffdgmdeflmaadoor", sum := "3ebab811f85104bc906de6a4509759fff80182c92b9ead7f07c3e7f6f23024f2", checked := Tryd.checked }
namespace Rows
def none {H : Type} : Left H := { results := [], args := [] }

/- WHAT THE LISTED PACKAGE-LEVEL VARIABLES READ AS WHEN THE CALL BEGINS. Each datum BY PROGRAM (the guide's laid-datum.mjs) off the statement by which the dump's own 'gosem.cut.vars' lays the variable. In a bare row this is a premise. The card (YtcnffdgmdeflmaaDoorCards.lean) ties it to the program's text. -/
def laid_reportescrow_field_bases {H : Type} : DataW H := .agg [.lit (.int .i64 2), .lit (.int .i64 3), .lit (.int .i64 5), .lit (.int .i64 7)]

/-- 'reportescrowlaw25.RateHides': WHATEVER THE INPUT: true; the input reads as it did. -/
def rateHidesSpec : ChangeSpec := { name := "rateHides", fn := fun _ => fun
  | [d1, d2] => { results := [.lit (.bool true)], args := [d1, d2] }
  | _ => none }
def rateHidesRow : OpenClaim := { program := "ytcnffdgmdeflmaadoor", sum := "3ebab811f85104bc906de6a4509759fff80182c92b9ead7f07c3e7f6f23024f2", func := "reportescrow/reportescrowlaw25.RateHides", spec := "rateHides", inPlace := ["internal/abi.NoEscape", "internal/bytealg.MakeNoZero"], unfollowed := true, recurses := true, named := ["reportescrow/field.bases"], apart := false, laid := [("reportescrow/field.bases", laid_reportescrow_field_bases)] }
def RateHidesSaid : Prop := rateHidesRow.holds Tryd.pinned (OpenSpec.ofChange rateHidesSpec)

/-- ITS FALSE NEIGHBOUR: 'it returns false'. Refute it at one input. -/
def rateHidesWrong : ChangeSpec := { name := "rateHides", fn := fun _ => fun
  | [d1, d2] => { results := [.lit (.bool false)], args := [d1, d2] }
  | _ => none }
def RateHidesWrongFalsely : Prop := rateHidesRow.holds Tryd.pinned (OpenSpec.ofChange rateHidesWrong)

/-- 'reportescrowlaw25.RateMarks': WHATEVER THE INPUT: true; the input reads as it did. -/
def rateMarksSpec : ChangeSpec := { name := "rateMarks", fn := fun _ => fun
  | [d1, d2] => { results := [.lit (.bool true)], args := [d1, d2] }
  | _ => none }
def rateMarksRow : OpenClaim := { program := "ytcnffdgmdeflmaadoor", sum := "3ebab811f85104bc906de6a4509759fff80182c92b9ead7f07c3e7f6f23024f2", func := "reportescrow/reportescrowlaw25.RateMarks", spec := "rateMarks", inPlace := ["internal/abi.NoEscape", "internal/bytealg.MakeNoZero"], unfollowed := true, recurses := true, named := ["reportescrow/field.bases"], apart := false, laid := [("reportescrow/field.bases", laid_reportescrow_field_bases)] }
def RateMarksSaid : Prop := rateMarksRow.holds Tryd.pinned (OpenSpec.ofChange rateMarksSpec)

/-- ITS FALSE NEIGHBOUR: 'it returns false'. Refute it at one input. -/
def rateMarksWrong : ChangeSpec := { name := "rateMarks", fn := fun _ => fun
  | [d1, d2] => { results := [.lit (.bool false)], args := [d1, d2] }
  | _ => none }
def RateMarksWrongFalsely : Prop := rateMarksRow.holds Tryd.pinned (OpenSpec.ofChange rateMarksWrong)

/- THE SECOND FORM. 'bulk': how many values and letters a reading holds, each counted each time it is reached (what is shared counts as often as it is met; a slice's spare places count too). A statement '..UptoSaid' is the law's where the arguments, and the package variables that the reading takes, are together of bulk at most 1048576: NARROWER than '..Said'. Prove '..Said' where nothing that the law and all that it calls make is longer than what came in: it says more and counts as full. Else prove '..UptoSaid'. A law counts once. -/
mutual
def uptoBulk {H : Type} : DataW H → Nat
  | .lit (.string bytes) => bytes.length + 1
  | .lit _ => 1
  | .nil => 1
  | .ptr d => uptoBulk d + 1
  | .slice elems spare => uptoBulkAll elems + uptoBulkAll spare + 1
  | .agg parts => uptoBulkAll parts + 1
  | .iface _ d => uptoBulk d + 1
  | .map entries => uptoBulkEntries entries + 1
  | .held _ => 1
def uptoBulkAll {H : Type} : List (DataW H) → Nat
  | [] => 0
  | d :: r => uptoBulk d + uptoBulkAll r
def uptoBulkEntries {H : Type} : List (Lit × DataW H) → Nat
  | [] => 0
  | x :: r => uptoBulkEntry x + uptoBulkEntries r
def uptoBulkEntry {H : Type} : Lit × DataW H → Nat
  | (.string bytes, d) => bytes.length + uptoBulk d + 1
  | (_, d) => uptoBulk d + 1
 end
def uptoSmall : (H : Type) → List (DataW H) → Bool := fun _ ds => decide (uptoBulkAll ds ≤ 1048576)
def OpenSpec.upto (s : _root_.Go.ChangeSpec) : _root_.Go.OpenSpec := { _root_.Go.OpenSpec.ofChange s with cond := some uptoSmall }

/-- 'reportescrowlaw25.RateHides', WHERE WHAT IT READS IS OF BULK AT MOST 1048576: true; the input reads as it did. -/
def rateHidesUptoRow : OpenClaim := { program := "ytcnffdgmdeflmaadoor", sum := "3ebab811f85104bc906de6a4509759fff80182c92b9ead7f07c3e7f6f23024f2", func := "reportescrow/reportescrowlaw25.RateHides", spec := "rateHides", inPlace := ["internal/abi.NoEscape", "internal/bytealg.MakeNoZero"], unfollowed := true, recurses := true, named := ["reportescrow/field.bases"], apart := false, laid := [("reportescrow/field.bases", laid_reportescrow_field_bases)], narrowed := true }
def RateHidesUptoSaid : Prop := rateHidesUptoRow.holds Tryd.pinned (OpenSpec.upto rateHidesSpec)

/-- 'reportescrowlaw25.RateMarks', WHERE WHAT IT READS IS OF BULK AT MOST 1048576: true; the input reads as it did. -/
def rateMarksUptoRow : OpenClaim := { program := "ytcnffdgmdeflmaadoor", sum := "3ebab811f85104bc906de6a4509759fff80182c92b9ead7f07c3e7f6f23024f2", func := "reportescrow/reportescrowlaw25.RateMarks", spec := "rateMarks", inPlace := ["internal/abi.NoEscape", "internal/bytealg.MakeNoZero"], unfollowed := true, recurses := true, named := ["reportescrow/field.bases"], apart := false, laid := [("reportescrow/field.bases", laid_reportescrow_field_bases)], narrowed := true }
def RateMarksUptoSaid : Prop := rateMarksUptoRow.holds Tryd.pinned (OpenSpec.upto rateMarksSpec)

end Rows
end Go.Proofs.YtcnffdgmdeflmaaDoor
