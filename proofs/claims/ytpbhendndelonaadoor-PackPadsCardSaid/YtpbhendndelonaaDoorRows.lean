/-
  NARROWER THAN 'FOR EVERY INPUT', by the rows' own cells (each row's printed sentence says how): PackBack: laid · PackLimits: laid · PackPads: laid · PackHides: laid.
  DERIVED. THE GIVEN ROWS OF THIS SEAT. 4 by the template 'for every input the law returns true; each argument reads behind the call as it read before'; 0 by the template 'total and deterministic' (their statements: YtpbhendndelonaaDoorTotals.lean).
  GIVEN WITH THE SEED: the statements are not yours to turn. If you find one false, say at which input.
  Laid BY PROGRAM, IN A SANDBOX (cutbox-rows.mjs): the forced cells as the released guide's own fill.sh prints them over the translation 98aab612ec5094a9… (all of the seat's roots in one cut). By AI agents, Wed Nov 11 2026. No macro, syntax, notation, axiom, sorry.
-/
import Derived.Test.YtpbhendndelonaaDoorChecked
import GoSem.PinnedTables
import GoSem.Claim
import GoSem.ClaimJoined
import GoSem.ClaimMapViews
import Derived.JoinedTies
import Derived.KernelRfl
namespace Go.Proofs.YtpbhendndelonaaDoor
/- THE CELL 'sum', in the pinned program and in every row, IS THE sha256 OF THE DUMP (.gsa) THAT YtpbhendndelonaaDoorProg.lean LOADS. Nothing in Lean hashes anything: it is a label: what it is worth is what the hold of that sum in a sandbox is worth. -/
noncomputable def Tryd.pinned : Pinned := { name := "ytpbhendndelonaadoor", sum := "98aab612ec5094a93ab2291a7e8a8f0346daa7c7f0f4b01ef5cfdba2be09751f", checked := Tryd.checked }
namespace Rows
def none {H : Type} : Left H := { results := [], args := [] }

/- WHAT THE LISTED PACKAGE-LEVEL VARIABLES READ AS WHEN THE CALL BEGINS. Each datum BY PROGRAM (the guide's laid-datum.mjs) off the statement by which the dump's own 'gosem.cut.vars' lays the variable. In a bare row this is a premise. The card (YtpbhendndelonaaDoorCards.lean) ties it to the program's text. -/
def laid_reportescrow_field_bases {H : Type} : DataW H := .agg [.lit (.int .i64 2), .lit (.int .i64 3), .lit (.int .i64 5), .lit (.int .i64 7)]
def laid_unicode_utf8_acceptRanges {H : Type} : DataW H := .agg [.agg [.lit (.int .u8 128), .lit (.int .u8 191)], .agg [.lit (.int .u8 160), .lit (.int .u8 191)], .agg [.lit (.int .u8 128), .lit (.int .u8 159)], .agg [.lit (.int .u8 144), .lit (.int .u8 191)], .agg [.lit (.int .u8 128), .lit (.int .u8 143)], .agg [.lit (.int .u8 0), .lit (.int .u8 0)], .agg [.lit (.int .u8 0), .lit (.int .u8 0)], .agg [.lit (.int .u8 0), .lit (.int .u8 0)], .agg [.lit (.int .u8 0), .lit (.int .u8 0)], .agg [.lit (.int .u8 0), .lit (.int .u8 0)], .agg [.lit (.int .u8 0), .lit (.int .u8 0)], .agg [.lit (.int .u8 0), .lit (.int .u8 0)], .agg [.lit (.int .u8 0), .lit (.int .u8 0)], .agg [.lit (.int .u8 0), .lit (.int .u8 0)], .agg [.lit (.int .u8 0), .lit (.int .u8 0)], .agg [.lit (.int .u8 0), .lit (.int .u8 0)]]
/-- One of Go's own tables, pinned by name: the form's constant. -/
def laid_unicode_utf8_first : DataW Unit := Go.Pinned.utf8First

/-- 'reportescrowlaw05.PackBack': WHATEVER THE INPUT: true; the input reads as it did. -/
def packBackSpec : ChangeSpec := { name := "packBack", fn := fun _ => fun
  | [d1, d2, d3] => { results := [.lit (.bool true)], args := [d1, d2, d3] }
  | _ => none }
def packBackRow : OpenClaim := { program := "ytpbhendndelonaadoor", sum := "98aab612ec5094a93ab2291a7e8a8f0346daa7c7f0f4b01ef5cfdba2be09751f", func := "reportescrow/reportescrowlaw05.PackBack", spec := "packBack", named := ["reportescrow/field.bases"], apart := false, laid := [("reportescrow/field.bases", laid_reportescrow_field_bases)] }
def PackBackSaid : Prop := packBackRow.holds Tryd.pinned (OpenSpec.ofChange packBackSpec)

/-- ITS FALSE NEIGHBOUR: 'it returns false'. Refute it at one input. -/
def packBackWrong : ChangeSpec := { name := "packBack", fn := fun _ => fun
  | [d1, d2, d3] => { results := [.lit (.bool false)], args := [d1, d2, d3] }
  | _ => none }
def PackBackWrongFalsely : Prop := packBackRow.holds Tryd.pinned (OpenSpec.ofChange packBackWrong)

/-- 'reportescrowlaw05.PackLimits': WHATEVER THE INPUT: true; the input reads as it did. -/
def packLimitsSpec : ChangeSpec := { name := "packLimits", fn := fun _ => fun
  | [d1, d2] => { results := [.lit (.bool true)], args := [d1, d2] }
  | _ => none }
def packLimitsRow : OpenClaim := { program := "ytpbhendndelonaadoor", sum := "98aab612ec5094a93ab2291a7e8a8f0346daa7c7f0f4b01ef5cfdba2be09751f", func := "reportescrow/reportescrowlaw05.PackLimits", spec := "packLimits", inPlace := ["internal/abi.NoEscape", "internal/bytealg.MakeNoZero"], named := ["reportescrow/field.bases"], apart := false, laid := [("reportescrow/field.bases", laid_reportescrow_field_bases)] }
def PackLimitsSaid : Prop := packLimitsRow.holds Tryd.pinned (OpenSpec.ofChange packLimitsSpec)

/-- ITS FALSE NEIGHBOUR: 'it returns false'. Refute it at one input. -/
def packLimitsWrong : ChangeSpec := { name := "packLimits", fn := fun _ => fun
  | [d1, d2] => { results := [.lit (.bool false)], args := [d1, d2] }
  | _ => none }
def PackLimitsWrongFalsely : Prop := packLimitsRow.holds Tryd.pinned (OpenSpec.ofChange packLimitsWrong)

/-- 'reportescrowlaw05.PackPads': WHATEVER THE INPUT: true; the input reads as it did. -/
def packPadsSpec : ChangeSpec := { name := "packPads", fn := fun _ => fun
  | [d1, d2, d3, d4, d5] => { results := [.lit (.bool true)], args := [d1, d2, d3, d4, d5] }
  | _ => none }
def packPadsRow : OpenClaim := { program := "ytpbhendndelonaadoor", sum := "98aab612ec5094a93ab2291a7e8a8f0346daa7c7f0f4b01ef5cfdba2be09751f", func := "reportescrow/reportescrowlaw05.PackPads", spec := "packPads", inPlace := ["internal/abi.NoEscape", "internal/bytealg.MakeNoZero", "internal/bytealg.IndexByteString", "internal/bytealg.IndexString"], named := ["reportescrow/field.bases", "unicode/utf8.first", "unicode/utf8.acceptRanges", "internal/bytealg.MaxLen"], apart := false, laid := [("reportescrow/field.bases", laid_reportescrow_field_bases), ("unicode/utf8.acceptRanges", laid_unicode_utf8_acceptRanges), ("unicode/utf8.first", laid_unicode_utf8_first)] }
def PackPadsSaid : Prop := packPadsRow.holds Tryd.pinned (OpenSpec.ofChange packPadsSpec)

/-- ITS FALSE NEIGHBOUR: 'it returns false'. Refute it at one input. -/
def packPadsWrong : ChangeSpec := { name := "packPads", fn := fun _ => fun
  | [d1, d2, d3, d4, d5] => { results := [.lit (.bool false)], args := [d1, d2, d3, d4, d5] }
  | _ => none }
def PackPadsWrongFalsely : Prop := packPadsRow.holds Tryd.pinned (OpenSpec.ofChange packPadsWrong)

/-- 'reportescrowlaw05.PackHides': WHATEVER THE INPUT: true; the input reads as it did. -/
def packHidesSpec : ChangeSpec := { name := "packHides", fn := fun _ => fun
  | [d1, d2, d3] => { results := [.lit (.bool true)], args := [d1, d2, d3] }
  | _ => none }
def packHidesRow : OpenClaim := { program := "ytpbhendndelonaadoor", sum := "98aab612ec5094a93ab2291a7e8a8f0346daa7c7f0f4b01ef5cfdba2be09751f", func := "reportescrow/reportescrowlaw05.PackHides", spec := "packHides", inPlace := ["internal/abi.NoEscape", "internal/bytealg.MakeNoZero", "internal/bytealg.IndexByteString", "internal/bytealg.IndexString"], named := ["reportescrow/field.bases", "unicode/utf8.first", "unicode/utf8.acceptRanges", "internal/bytealg.MaxLen"], apart := false, laid := [("reportescrow/field.bases", laid_reportescrow_field_bases), ("unicode/utf8.acceptRanges", laid_unicode_utf8_acceptRanges), ("unicode/utf8.first", laid_unicode_utf8_first)] }
def PackHidesSaid : Prop := packHidesRow.holds Tryd.pinned (OpenSpec.ofChange packHidesSpec)

/-- ITS FALSE NEIGHBOUR: 'it returns false'. Refute it at one input. -/
def packHidesWrong : ChangeSpec := { name := "packHides", fn := fun _ => fun
  | [d1, d2, d3] => { results := [.lit (.bool false)], args := [d1, d2, d3] }
  | _ => none }
def PackHidesWrongFalsely : Prop := packHidesRow.holds Tryd.pinned (OpenSpec.ofChange packHidesWrong)

/- THE SECOND FORM. 'bulk': how many values and letters a reading holds, each counted each time it is reached (what is shared counts as often as it is met; a slice's spare places count too). A statement '..UptoSaid' is the law's where the arguments, and the package variables that the reading takes, are together of bulk at most 1048576: NARROWER than '..Said'. Prove '..Said' where nothing that the law and all that it calls make is longer than what came in: it says more and counts as full. Else prove '..UptoSaid'. A law counts once. -/
mutual
def uptoBulk {H : Type} : DataW H → Nat
  | .lit (.string bytes) => bytes.length + 1
  | .lit _ => 1
  | .nil => 1
  | .ptr d => uptoBulk d + 1
  | .slice elems spare => uptoBulkAll elems + uptoBulkAll spare + 1
  | .agg parts => uptoBulkAll parts + 1
  | .iface _ d => uptoBulk d + 1
  | .map entries => uptoBulkEntries entries + 1
  | .held _ => 1
def uptoBulkAll {H : Type} : List (DataW H) → Nat
  | [] => 0
  | d :: r => uptoBulk d + uptoBulkAll r
def uptoBulkEntries {H : Type} : List (Lit × DataW H) → Nat
  | [] => 0
  | x :: r => uptoBulkEntry x + uptoBulkEntries r
def uptoBulkEntry {H : Type} : Lit × DataW H → Nat
  | (.string bytes, d) => bytes.length + uptoBulk d + 1
  | (_, d) => uptoBulk d + 1
 end
def uptoSmall : (H : Type) → List (DataW H) → Bool := fun _ ds => decide (uptoBulkAll ds ≤ 1048576)
def OpenSpec.upto (s : _root_.Go.ChangeSpec) : _root_.Go.OpenSpec := { _root_.Go.OpenSpec.ofChange s with cond := some uptoSmall }

/-- 'reportescrowlaw05.PackBack', WHERE WHAT IT READS IS OF BULK AT MOST 1048576: true; the input reads as it did. -/
def packBackUptoRow : OpenClaim := { program := "ytpbhendndelonaadoor", sum := "98aab612ec5094a93ab2291a7e8a8f0346daa7c7f0f4b01ef5cfdba2be09751f", func := "reportescrow/reportescrowlaw05.PackBack", spec := "packBack", named := ["reportescrow/field.bases"], apart := false, laid := [("reportescrow/field.bases", laid_reportescrow_field_bases)], narrowed := true }
def PackBackUptoSaid : Prop := packBackUptoRow.holds Tryd.pinned (OpenSpec.upto packBackSpec)

/-- 'reportescrowlaw05.PackLimits', WHERE WHAT IT READS IS OF BULK AT MOST 1048576: true; the input reads as it did. -/
def packLimitsUptoRow : OpenClaim := { program := "ytpbhendndelonaadoor", sum := "98aab612ec5094a93ab2291a7e8a8f0346daa7c7f0f4b01ef5cfdba2be09751f", func := "reportescrow/reportescrowlaw05.PackLimits", spec := "packLimits", inPlace := ["internal/abi.NoEscape", "internal/bytealg.MakeNoZero"], named := ["reportescrow/field.bases"], apart := false, laid := [("reportescrow/field.bases", laid_reportescrow_field_bases)], narrowed := true }
def PackLimitsUptoSaid : Prop := packLimitsUptoRow.holds Tryd.pinned (OpenSpec.upto packLimitsSpec)

/-- 'reportescrowlaw05.PackPads', WHERE WHAT IT READS IS OF BULK AT MOST 1048576: true; the input reads as it did. -/
def packPadsUptoRow : OpenClaim := { program := "ytpbhendndelonaadoor", sum := "98aab612ec5094a93ab2291a7e8a8f0346daa7c7f0f4b01ef5cfdba2be09751f", func := "reportescrow/reportescrowlaw05.PackPads", spec := "packPads", inPlace := ["internal/abi.NoEscape", "internal/bytealg.MakeNoZero", "internal/bytealg.IndexByteString", "internal/bytealg.IndexString"], named := ["reportescrow/field.bases", "unicode/utf8.first", "unicode/utf8.acceptRanges", "internal/bytealg.MaxLen"], apart := false, laid := [("reportescrow/field.bases", laid_reportescrow_field_bases), ("unicode/utf8.acceptRanges", laid_unicode_utf8_acceptRanges), ("unicode/utf8.first", laid_unicode_utf8_first)], narrowed := true }
def PackPadsUptoSaid : Prop := packPadsUptoRow.holds Tryd.pinned (OpenSpec.upto packPadsSpec)

/-- 'reportescrowlaw05.PackHides', WHERE WHAT IT READS IS OF BULK AT MOST 1048576: true; the input reads as it did. -/
def packHidesUptoRow : OpenClaim := { program := "ytpbhendndelonaadoor", sum := "98aab612ec5094a93ab2291a7e8a8f0346daa7c7f0f4b01ef5cfdba2be09751f", func := "reportescrow/reportescrowlaw05.PackHides", spec := "packHides", inPlace := ["internal/abi.NoEscape", "internal/bytealg.MakeNoZero", "internal/bytealg.IndexByteString", "internal/bytealg.IndexString"], named := ["reportescrow/field.bases", "unicode/utf8.first", "unicode/utf8.acceptRanges", "internal/bytealg.MaxLen"], apart := false, laid := [("reportescrow/field.bases", laid_reportescrow_field_bases), ("unicode/utf8.acceptRanges", laid_unicode_utf8_acceptRanges), ("unicode/utf8.first", laid_unicode_utf8_first)], narrowed := true }
def PackHidesUptoSaid : Prop := packHidesUptoRow.holds Tryd.pinned (OpenSpec.upto packHidesSpec)

end Rows
end Go.Proofs.YtpbhendndelonaaDoor
