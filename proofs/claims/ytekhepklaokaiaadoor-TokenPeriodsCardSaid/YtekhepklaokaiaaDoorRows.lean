/-
  NARROWER THAN 'FOR EVERY INPUT', by the rows' own cells (each row's printed sentence says how): TokenBlind: laid · TokenPeriods: laid.
  DERIVED. THE GIVEN ROWS OF THIS SEAT. 2 by the template 'for every input the law returns true; each argument reads behind the call as it read before'; 0 by the template 'total and deterministic' (their statements: YtekhepklaokaiaaDoorTotals.lean).
  GIVEN WITH THE SEED: the statements are not yours to turn. If you find one false, say at which input.
  Laid BY PROGRAM, IN A SANDBOX (cutbox-rows.mjs): the forced cells as the released guide's own fill.sh prints them over the translation 7599c16f0dbd19c1… (all of the seat's roots in one cut). By AI agents, Wed Nov 11 2026. No macro, syntax, notation, axiom, sorry.
-/
import Derived.Test.YtekhepklaokaiaaDoorChecked
import GoSem.Claim
import GoSem.ClaimJoined
import GoSem.ClaimMapViews
import Derived.JoinedTies
import Derived.KernelRfl
namespace Go.Proofs.YtekhepklaokaiaaDoor
/- THE CELL 'sum', in the pinned program and in every row, IS THE sha256 OF THE DUMP (.gsa) THAT YtekhepklaokaiaaDoorProg.lean LOADS. Nothing in Lean hashes anything: it is a label: what it is worth is what the hold of that sum in a sandbox is worth. -/
noncomputable def Tryd.pinned : Pinned := { name := "ytekhepklaokaiaadoor", sum := "7599c16f0dbd19c1e59b2740e227a3984e62c8e3701bb1d6936514ca01f98b0b", checked := Tryd.checked }
namespace Rows
def none {H : Type} : Left H := { results := [], args := [] }

/- WHAT THE LISTED PACKAGE-LEVEL VARIABLES READ AS WHEN THE CALL BEGINS. Each datum BY PROGRAM (the guide's laid-datum.mjs) off the statement by which the dump's own 'gosem.cut.vars' lays the variable. In a bare row this is a premise. The card (YtekhepklaokaiaaDoorCards.lean) ties it to the program's text. -/
def laid_reportescrow_field_bases {H : Type} : DataW H := .agg [.lit (.int .i64 2), .lit (.int .i64 3), .lit (.int .i64 5), .lit (.int .i64 7)]

/-- 'reportescrowlaw24.TokenBlind': WHATEVER THE INPUT: true; the input reads as it did. -/
def tokenBlindSpec : ChangeSpec := { name := "tokenBlind", fn := fun _ => fun
  | [d1, d2] => { results := [.lit (.bool true)], args := [d1, d2] }
  | _ => none }
def tokenBlindRow : OpenClaim := { program := "ytekhepklaokaiaadoor", sum := "7599c16f0dbd19c1e59b2740e227a3984e62c8e3701bb1d6936514ca01f98b0b", func := "reportescrow/reportescrowlaw24.TokenBlind", spec := "tokenBlind", inPlace := ["internal/abi.NoEscape", "internal/bytealg.MakeNoZero", "slices.overlaps[reportescrow/api.Issued]"], unfollowed := true, recurses := true, named := ["reportescrow/field.bases"], apart := false, laid := [("reportescrow/field.bases", laid_reportescrow_field_bases)] }
def TokenBlindSaid : Prop := tokenBlindRow.holds Tryd.pinned (OpenSpec.ofChange tokenBlindSpec)

/-- ITS FALSE NEIGHBOUR: 'it returns false'. Refute it at one input. -/
def tokenBlindWrong : ChangeSpec := { name := "tokenBlind", fn := fun _ => fun
  | [d1, d2] => { results := [.lit (.bool false)], args := [d1, d2] }
  | _ => none }
def TokenBlindWrongFalsely : Prop := tokenBlindRow.holds Tryd.pinned (OpenSpec.ofChange tokenBlindWrong)

/-- 'reportescrowlaw24.TokenPeriods': WHATEVER THE INPUT: true; the input reads as it did. -/
def tokenPeriodsSpec : ChangeSpec := { name := "tokenPeriods", fn := fun _ => fun
  | [d] => { results := [.lit (.bool true)], args := [d] }
  | _ => none }
def tokenPeriodsRow : OpenClaim := { program := "ytekhepklaokaiaadoor", sum := "7599c16f0dbd19c1e59b2740e227a3984e62c8e3701bb1d6936514ca01f98b0b", func := "reportescrow/reportescrowlaw24.TokenPeriods", spec := "tokenPeriods", inPlace := ["internal/abi.NoEscape", "internal/bytealg.MakeNoZero", "slices.overlaps[reportescrow/api.Issued]"], unfollowed := true, recurses := true, named := ["reportescrow/field.bases"], apart := false, laid := [("reportescrow/field.bases", laid_reportescrow_field_bases)] }
def TokenPeriodsSaid : Prop := tokenPeriodsRow.holds Tryd.pinned (OpenSpec.ofChange tokenPeriodsSpec)

/-- ITS FALSE NEIGHBOUR: 'it returns false'. Refute it at one input. -/
def tokenPeriodsWrong : ChangeSpec := { name := "tokenPeriods", fn := fun _ => fun
  | [d] => { results := [.lit (.bool false)], args := [d] }
  | _ => none }
def TokenPeriodsWrongFalsely : Prop := tokenPeriodsRow.holds Tryd.pinned (OpenSpec.ofChange tokenPeriodsWrong)

/- THE SECOND FORM. 'bulk': how many values and letters a reading holds, each counted each time it is reached (what is shared counts as often as it is met; a slice's spare places count too). A statement '..UptoSaid' is the law's where the arguments, and the package variables that the reading takes, are together of bulk at most 1048576: NARROWER than '..Said'. Prove '..Said' where nothing that the law and all that it calls make is longer than what came in: it says more and counts as full. Else prove '..UptoSaid'. A law counts once. -/
mutual
def uptoBulk {H : Type} : DataW H → Nat
  | .lit (.string bytes) => bytes.length + 1
  | .lit _ => 1
  | .nil => 1
  | .ptr d => uptoBulk d + 1
  | .slice elems spare => uptoBulkAll elems + uptoBulkAll spare + 1
  | .agg parts => uptoBulkAll parts + 1
  | .iface _ d => uptoBulk d + 1
  | .map entries => uptoBulkEntries entries + 1
  | .held _ => 1
def uptoBulkAll {H : Type} : List (DataW H) → Nat
  | [] => 0
  | d :: r => uptoBulk d + uptoBulkAll r
def uptoBulkEntries {H : Type} : List (Lit × DataW H) → Nat
  | [] => 0
  | x :: r => uptoBulkEntry x + uptoBulkEntries r
def uptoBulkEntry {H : Type} : Lit × DataW H → Nat
  | (.string bytes, d) => bytes.length + uptoBulk d + 1
  | (_, d) => uptoBulk d + 1
 end
def uptoSmall : (H : Type) → List (DataW H) → Bool := fun _ ds => decide (uptoBulkAll ds ≤ 1048576)
def OpenSpec.upto (s : _root_.Go.ChangeSpec) : _root_.Go.OpenSpec := { _root_.Go.OpenSpec.ofChange s with cond := some uptoSmall }

/-- 'reportescrowlaw24.TokenBlind', WHERE WHAT IT READS IS OF BULK AT MOST 1048576: true; the input reads as it did. -/
def tokenBlindUptoRow : OpenClaim := { program := "ytekhepklaokaiaadoor", sum := "7599c16f0dbd19c1e59b2740e227a3984e62c8e3701bb1d6936514ca01f98b0b", func := "reportescrow/reportescrowlaw24.TokenBlind", spec := "tokenBlind", inPlace := ["internal/abi.NoEscape", "internal/bytealg.MakeNoZero", "slices.overlaps[reportescrow/api.Issued]"], unfollowed := true, recurses := true, named := ["reportescrow/field.bases"], apart := false, laid := [("reportescrow/field.bases", laid_reportescrow_field_bases)], narrowed := true }
def TokenBlindUptoSaid : Prop := tokenBlindUptoRow.holds Tryd.pinned (OpenSpec.upto tokenBlindSpec)

/-- 'reportescrowlaw24.TokenPeriods', WHERE WHAT IT READS IS OF BULK AT MOST 1048576: true; the input reads as it did. -/
def tokenPeriodsUptoRow : OpenClaim := { program := "ytekhepklaokaiaadoor", sum := "7599c16f0dbd19c1e59b2740e227a3984e62c8e3701bb1d6936514ca01f98b0b", func := "reportescrow/reportescrowlaw24.TokenPeriods", spec := "tokenPeriods", inPlace := ["internal/abi.NoEscape", "internal/bytealg.MakeNoZero", "slices.overlaps[reportescrow/api.Issued]"], unfollowed := true, recurses := true, named := ["reportescrow/field.bases"], apart := false, laid := [("reportescrow/field.bases", laid_reportescrow_field_bases)], narrowed := true }
def TokenPeriodsUptoSaid : Prop := tokenPeriodsUptoRow.holds Tryd.pinned (OpenSpec.upto tokenPeriodsSpec)

end Rows
end Go.Proofs.YtekhepklaokaiaaDoor
