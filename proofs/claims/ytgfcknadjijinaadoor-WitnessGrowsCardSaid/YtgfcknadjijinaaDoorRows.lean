/-
  NARROWER THAN 'FOR EVERY INPUT', by the rows' own cells (each row's printed sentence says how): WitnessChanges: laid · WitnessOrder: laid · WitnessGrows: laid · WitnessTwo: laid.
  DERIVED. THE GIVEN ROWS OF THIS SEAT. 4 by the template 'for every input the law returns true; each argument reads behind the call as it read before'; 0 by the template 'total and deterministic' (their statements: YtgfcknadjijinaaDoorTotals.lean).
  GIVEN WITH THE SEED: the statements are not yours to turn. If you find one false, say at which input.
  Laid BY PROGRAM, IN A SANDBOX (cutbox-rows.mjs): the forced cells as the released guide's own fill.sh prints them over the translation e5006260b6501881… (all of the seat's roots in one cut). By AI agents, Wed Nov 11 2026. No macro, syntax, notation, axiom, sorry.
-/
import Derived.Test.YtgfcknadjijinaaDoorChecked
import GoSem.Claim
import GoSem.ClaimJoined
import GoSem.ClaimMapViews
import Derived.JoinedTies
import Derived.KernelRfl
namespace Go.Proofs.YtgfcknadjijinaaDoor
/- THE CELL 'sum', in the pinned program and in every row, IS THE sha256 OF THE DUMP (.gsa) THAT YtgfcknadjijinaaDoorProg.lean LOADS. Nothing in Lean hashes anything: it is a label: what it is worth is what the hold of that sum in a sandbox is worth. -/
noncomputable def Tryd.pinned : Pinned := { name := "ytgfcknadjijinaadoor", sum := "e5006260b6501881b9e1a0da942a72b249873441365098c3b5e46dc9adefeacf", checked := Tryd.checked }
namespace Rows
def none {H : Type} : Left H := { results := [], args := [] }

/- WHAT THE LISTED PACKAGE-LEVEL VARIABLES READ AS WHEN THE CALL BEGINS. Each datum BY PROGRAM (the guide's laid-datum.mjs) off the statement by which the dump's own 'gosem.cut.vars' lays the variable. In a bare row this is a premise. The card (YtgfcknadjijinaaDoorCards.lean) ties it to the program's text. -/
def laid_reportescrow_field_bases {H : Type} : DataW H := .agg [.lit (.int .i64 2), .lit (.int .i64 3), .lit (.int .i64 5), .lit (.int .i64 7)]

/-- 'reportescrowlaw21.WitnessChanges': WHATEVER THE INPUT: true; the input reads as it did. -/
def witnessChangesSpec : ChangeSpec := { name := "witnessChanges", fn := fun _ => fun
  | [d1, d2, d3] => { results := [.lit (.bool true)], args := [d1, d2, d3] }
  | _ => none }
def witnessChangesRow : OpenClaim := { program := "ytgfcknadjijinaadoor", sum := "e5006260b6501881b9e1a0da942a72b249873441365098c3b5e46dc9adefeacf", func := "reportescrow/reportescrowlaw21.WitnessChanges", spec := "witnessChanges", inPlace := ["internal/abi.NoEscape", "internal/bytealg.MakeNoZero"], named := ["reportescrow/field.bases"], apart := false, laid := [("reportescrow/field.bases", laid_reportescrow_field_bases)] }
def WitnessChangesSaid : Prop := witnessChangesRow.holds Tryd.pinned (OpenSpec.ofChange witnessChangesSpec)

/-- ITS FALSE NEIGHBOUR: 'it returns false'. Refute it at one input. -/
def witnessChangesWrong : ChangeSpec := { name := "witnessChanges", fn := fun _ => fun
  | [d1, d2, d3] => { results := [.lit (.bool false)], args := [d1, d2, d3] }
  | _ => none }
def WitnessChangesWrongFalsely : Prop := witnessChangesRow.holds Tryd.pinned (OpenSpec.ofChange witnessChangesWrong)

/-- 'reportescrowlaw21.WitnessOrder': WHATEVER THE INPUT: true; the input reads as it did. -/
def witnessOrderSpec : ChangeSpec := { name := "witnessOrder", fn := fun _ => fun
  | [d] => { results := [.lit (.bool true)], args := [d] }
  | _ => none }
def witnessOrderRow : OpenClaim := { program := "ytgfcknadjijinaadoor", sum := "e5006260b6501881b9e1a0da942a72b249873441365098c3b5e46dc9adefeacf", func := "reportescrow/reportescrowlaw21.WitnessOrder", spec := "witnessOrder", inPlace := ["internal/abi.NoEscape", "internal/bytealg.MakeNoZero"], recurses := true, named := ["reportescrow/field.bases"], apart := false, laid := [("reportescrow/field.bases", laid_reportescrow_field_bases)] }
def WitnessOrderSaid : Prop := witnessOrderRow.holds Tryd.pinned (OpenSpec.ofChange witnessOrderSpec)

/-- ITS FALSE NEIGHBOUR: 'it returns false'. Refute it at one input. -/
def witnessOrderWrong : ChangeSpec := { name := "witnessOrder", fn := fun _ => fun
  | [d] => { results := [.lit (.bool false)], args := [d] }
  | _ => none }
def WitnessOrderWrongFalsely : Prop := witnessOrderRow.holds Tryd.pinned (OpenSpec.ofChange witnessOrderWrong)

/-- 'reportescrowlaw21.WitnessGrows': WHATEVER THE INPUT: true; the input reads as it did. -/
def witnessGrowsSpec : ChangeSpec := { name := "witnessGrows", fn := fun _ => fun
  | [d] => { results := [.lit (.bool true)], args := [d] }
  | _ => none }
def witnessGrowsRow : OpenClaim := { program := "ytgfcknadjijinaadoor", sum := "e5006260b6501881b9e1a0da942a72b249873441365098c3b5e46dc9adefeacf", func := "reportescrow/reportescrowlaw21.WitnessGrows", spec := "witnessGrows", inPlace := ["internal/abi.NoEscape", "internal/bytealg.MakeNoZero"], recurses := true, named := ["reportescrow/field.bases"], apart := false, laid := [("reportescrow/field.bases", laid_reportescrow_field_bases)] }
def WitnessGrowsSaid : Prop := witnessGrowsRow.holds Tryd.pinned (OpenSpec.ofChange witnessGrowsSpec)

/-- ITS FALSE NEIGHBOUR: 'it returns false'. Refute it at one input. -/
def witnessGrowsWrong : ChangeSpec := { name := "witnessGrows", fn := fun _ => fun
  | [d] => { results := [.lit (.bool false)], args := [d] }
  | _ => none }
def WitnessGrowsWrongFalsely : Prop := witnessGrowsRow.holds Tryd.pinned (OpenSpec.ofChange witnessGrowsWrong)

/-- 'reportescrowlaw21.WitnessTwo': WHATEVER THE INPUT: true; the input reads as it did. -/
def witnessTwoSpec : ChangeSpec := { name := "witnessTwo", fn := fun _ => fun
  | [d1, d2] => { results := [.lit (.bool true)], args := [d1, d2] }
  | _ => none }
def witnessTwoRow : OpenClaim := { program := "ytgfcknadjijinaadoor", sum := "e5006260b6501881b9e1a0da942a72b249873441365098c3b5e46dc9adefeacf", func := "reportescrow/reportescrowlaw21.WitnessTwo", spec := "witnessTwo", inPlace := ["internal/abi.NoEscape", "internal/bytealg.MakeNoZero"], recurses := true, named := ["reportescrow/field.bases"], apart := false, laid := [("reportescrow/field.bases", laid_reportescrow_field_bases)] }
def WitnessTwoSaid : Prop := witnessTwoRow.holds Tryd.pinned (OpenSpec.ofChange witnessTwoSpec)

/-- ITS FALSE NEIGHBOUR: 'it returns false'. Refute it at one input. -/
def witnessTwoWrong : ChangeSpec := { name := "witnessTwo", fn := fun _ => fun
  | [d1, d2] => { results := [.lit (.bool false)], args := [d1, d2] }
  | _ => none }
def WitnessTwoWrongFalsely : Prop := witnessTwoRow.holds Tryd.pinned (OpenSpec.ofChange witnessTwoWrong)

/- THE SECOND FORM. 'bulk': how many values and letters a reading holds, each counted each time it is reached (what is shared counts as often as it is met; a slice's spare places count too). A statement '..UptoSaid' is the law's where the arguments, and the package variables that the reading takes, are together of bulk at most 1048576: NARROWER than '..Said'. Prove '..Said' where nothing that the law and all that it calls make is longer than what came in: it says more and counts as full. Else prove '..UptoSaid'. A law counts once. -/
mutual
def uptoBulk {H : Type} : DataW H → Nat
  | .lit (.string bytes) => bytes.length + 1
  | .lit _ => 1
  | .nil => 1
  | .ptr d => uptoBulk d + 1
  | .slice elems spare => uptoBulkAll elems + uptoBulkAll spare + 1
  | .agg parts => uptoBulkAll parts + 1
  | .iface _ d => uptoBulk d + 1
  | .map entries => uptoBulkEntries entries + 1
  | .held _ => 1
def uptoBulkAll {H : Type} : List (DataW H) → Nat
  | [] => 0
  | d :: r => uptoBulk d + uptoBulkAll r
def uptoBulkEntries {H : Type} : List (Lit × DataW H) → Nat
  | [] => 0
  | x :: r => uptoBulkEntry x + uptoBulkEntries r
def uptoBulkEntry {H : Type} : Lit × DataW H → Nat
  | (.string bytes, d) => bytes.length + uptoBulk d + 1
  | (_, d) => uptoBulk d + 1
 end
def uptoSmall : (H : Type) → List (DataW H) → Bool := fun _ ds => decide (uptoBulkAll ds ≤ 1048576)
def OpenSpec.upto (s : _root_.Go.ChangeSpec) : _root_.Go.OpenSpec := { _root_.Go.OpenSpec.ofChange s with cond := some uptoSmall }

/-- 'reportescrowlaw21.WitnessChanges', WHERE WHAT IT READS IS OF BULK AT MOST 1048576: true; the input reads as it did. -/
def witnessChangesUptoRow : OpenClaim := { program := "ytgfcknadjijinaadoor", sum := "e5006260b6501881b9e1a0da942a72b249873441365098c3b5e46dc9adefeacf", func := "reportescrow/reportescrowlaw21.WitnessChanges", spec := "witnessChanges", inPlace := ["internal/abi.NoEscape", "internal/bytealg.MakeNoZero"], named := ["reportescrow/field.bases"], apart := false, laid := [("reportescrow/field.bases", laid_reportescrow_field_bases)], narrowed := true }
def WitnessChangesUptoSaid : Prop := witnessChangesUptoRow.holds Tryd.pinned (OpenSpec.upto witnessChangesSpec)

/-- 'reportescrowlaw21.WitnessOrder', WHERE WHAT IT READS IS OF BULK AT MOST 1048576: true; the input reads as it did. -/
def witnessOrderUptoRow : OpenClaim := { program := "ytgfcknadjijinaadoor", sum := "e5006260b6501881b9e1a0da942a72b249873441365098c3b5e46dc9adefeacf", func := "reportescrow/reportescrowlaw21.WitnessOrder", spec := "witnessOrder", inPlace := ["internal/abi.NoEscape", "internal/bytealg.MakeNoZero"], recurses := true, named := ["reportescrow/field.bases"], apart := false, laid := [("reportescrow/field.bases", laid_reportescrow_field_bases)], narrowed := true }
def WitnessOrderUptoSaid : Prop := witnessOrderUptoRow.holds Tryd.pinned (OpenSpec.upto witnessOrderSpec)

/-- 'reportescrowlaw21.WitnessGrows', WHERE WHAT IT READS IS OF BULK AT MOST 1048576: true; the input reads as it did. -/
def witnessGrowsUptoRow : OpenClaim := { program := "ytgfcknadjijinaadoor", sum := "e5006260b6501881b9e1a0da942a72b249873441365098c3b5e46dc9adefeacf", func := "reportescrow/reportescrowlaw21.WitnessGrows", spec := "witnessGrows", inPlace := ["internal/abi.NoEscape", "internal/bytealg.MakeNoZero"], recurses := true, named := ["reportescrow/field.bases"], apart := false, laid := [("reportescrow/field.bases", laid_reportescrow_field_bases)], narrowed := true }
def WitnessGrowsUptoSaid : Prop := witnessGrowsUptoRow.holds Tryd.pinned (OpenSpec.upto witnessGrowsSpec)

/-- 'reportescrowlaw21.WitnessTwo', WHERE WHAT IT READS IS OF BULK AT MOST 1048576: true; the input reads as it did. -/
def witnessTwoUptoRow : OpenClaim := { program := "ytgfcknadjijinaadoor", sum := "e5006260b6501881b9e1a0da942a72b249873441365098c3b5e46dc9adefeacf", func := "reportescrow/reportescrowlaw21.WitnessTwo", spec := "witnessTwo", inPlace := ["internal/abi.NoEscape", "internal/bytealg.MakeNoZero"], recurses := true, named := ["reportescrow/field.bases"], apart := false, laid := [("reportescrow/field.bases", laid_reportescrow_field_bases)], narrowed := true }
def WitnessTwoUptoSaid : Prop := witnessTwoUptoRow.holds Tryd.pinned (OpenSpec.upto witnessTwoSpec)

end Rows
end Go.Proofs.YtgfcknadjijinaaDoor
