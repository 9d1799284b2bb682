/-
  No cell of these rows narrows 'for every input' (looked for: loops, veiled, ifaces, maps, wideKeys, modest, calm, conditions, laid).
  DERIVED. THE GIVEN ROWS OF THIS SEAT. 4 by the template 'for every input the law returns true; each argument reads behind the call as it read before'; 0 by the template 'total and deterministic' (their statements: YtejdaeonknpgeaaTotals.lean).
  GIVEN WITH THE SEED: the statements are not yours to turn. If you find one false, say at which input.
  Laid BY PROGRAM, IN A SANDBOX (cutbox-rows.mjs): the forced cells as the released guide's own fill.sh prints them over the translation f299833d085115fc… (all of the seat's roots in one cut). By AI agents, Wed Nov 11 2026. No macro, syntax, notation, axiom, sorry.
-/
import Derived.Test.YtejdaeonknpgeaaChecked
import GoSem.Claim
import GoSem.ClaimJoined
import GoSem.ClaimMapViews
import Derived.JoinedTies
import Derived.KernelRfl
namespace Go.Proofs.Ytejdaeonknpgeaa
/- THE CELL 'sum', in the pinned program and in every row, IS THE sha256 OF THE DUMP (.gsa) THAT YtejdaeonknpgeaaProg.lean LOADS. Nothing in Lean hashes anything: it is a label: what it is worth is what the hold of that sum in a sandbox is worth. -/
noncomputable def Try.pinned : Pinned := { name := "ytejdaeonknpgeaa", sum := "f299833d085115fc86b2898579286dd0c28cc61845526ebbcf54b951842f2e77", checked := Try.checked }
namespace Rows
def none {H : Type} : Left H := { results := [], args := [] }

/-- 'reportescrowlaw17.ConditionOrder': WHATEVER THE INPUT: true; the input reads as it did. -/
def conditionOrderSpec : ChangeSpec := { name := "conditionOrder", fn := fun _ => fun
  | [d] => { results := [.lit (.bool true)], args := [d] }
  | _ => none }
def conditionOrderRow : OpenClaim := { program := "ytejdaeonknpgeaa", sum := "f299833d085115fc86b2898579286dd0c28cc61845526ebbcf54b951842f2e77", func := "reportescrow/reportescrowlaw17.ConditionOrder", spec := "conditionOrder", inPlace := ["internal/bytealg.IndexByteString", "internal/bytealg.IndexString"], unfollowed := true, recurses := true, named := ["internal/bytealg.MaxLen"], apart := false }
def ConditionOrderSaid : Prop := conditionOrderRow.holds Try.pinned (OpenSpec.ofChange conditionOrderSpec)

/-- ITS FALSE NEIGHBOUR: 'it returns false'. Refute it at one input. -/
def conditionOrderWrong : ChangeSpec := { name := "conditionOrder", fn := fun _ => fun
  | [d] => { results := [.lit (.bool false)], args := [d] }
  | _ => none }
def ConditionOrderWrongFalsely : Prop := conditionOrderRow.holds Try.pinned (OpenSpec.ofChange conditionOrderWrong)

/-- 'reportescrowlaw17.ConditionGrows': WHATEVER THE INPUT: true; the input reads as it did. -/
def conditionGrowsSpec : ChangeSpec := { name := "conditionGrows", fn := fun _ => fun
  | [d] => { results := [.lit (.bool true)], args := [d] }
  | _ => none }
def conditionGrowsRow : OpenClaim := { program := "ytejdaeonknpgeaa", sum := "f299833d085115fc86b2898579286dd0c28cc61845526ebbcf54b951842f2e77", func := "reportescrow/reportescrowlaw17.ConditionGrows", spec := "conditionGrows", inPlace := ["internal/bytealg.IndexByteString", "internal/bytealg.IndexString"], unfollowed := true, recurses := true, named := ["internal/bytealg.MaxLen"], apart := false }
def ConditionGrowsSaid : Prop := conditionGrowsRow.holds Try.pinned (OpenSpec.ofChange conditionGrowsSpec)

/-- ITS FALSE NEIGHBOUR: 'it returns false'. Refute it at one input. -/
def conditionGrowsWrong : ChangeSpec := { name := "conditionGrows", fn := fun _ => fun
  | [d] => { results := [.lit (.bool false)], args := [d] }
  | _ => none }
def ConditionGrowsWrongFalsely : Prop := conditionGrowsRow.holds Try.pinned (OpenSpec.ofChange conditionGrowsWrong)

/-- 'reportescrowlaw17.ConditionLeast': WHATEVER THE INPUT: true; the input reads as it did. -/
def conditionLeastSpec : ChangeSpec := { name := "conditionLeast", fn := fun _ => fun
  | [d] => { results := [.lit (.bool true)], args := [d] }
  | _ => none }
def conditionLeastRow : OpenClaim := { program := "ytejdaeonknpgeaa", sum := "f299833d085115fc86b2898579286dd0c28cc61845526ebbcf54b951842f2e77", func := "reportescrow/reportescrowlaw17.ConditionLeast", spec := "conditionLeast", inPlace := ["internal/bytealg.IndexByteString", "internal/bytealg.IndexString"], unfollowed := true, recurses := true, named := ["internal/bytealg.MaxLen"], apart := false }
def ConditionLeastSaid : Prop := conditionLeastRow.holds Try.pinned (OpenSpec.ofChange conditionLeastSpec)

/-- ITS FALSE NEIGHBOUR: 'it returns false'. Refute it at one input. -/
def conditionLeastWrong : ChangeSpec := { name := "conditionLeast", fn := fun _ => fun
  | [d] => { results := [.lit (.bool false)], args := [d] }
  | _ => none }
def ConditionLeastWrongFalsely : Prop := conditionLeastRow.holds Try.pinned (OpenSpec.ofChange conditionLeastWrong)

/-- 'reportescrowlaw17.ConditionJoins': WHATEVER THE INPUT: true; the input reads as it did. -/
def conditionJoinsSpec : ChangeSpec := { name := "conditionJoins", fn := fun _ => fun
  | [d] => { results := [.lit (.bool true)], args := [d] }
  | _ => none }
def conditionJoinsRow : OpenClaim := { program := "ytejdaeonknpgeaa", sum := "f299833d085115fc86b2898579286dd0c28cc61845526ebbcf54b951842f2e77", func := "reportescrow/reportescrowlaw17.ConditionJoins", spec := "conditionJoins", inPlace := ["internal/bytealg.IndexByteString", "internal/bytealg.IndexString"], unfollowed := true, recurses := true, named := ["internal/bytealg.MaxLen"], apart := false }
def ConditionJoinsSaid : Prop := conditionJoinsRow.holds Try.pinned (OpenSpec.ofChange conditionJoinsSpec)

/-- ITS FALSE NEIGHBOUR: 'it returns false'. Refute it at one input. -/
def conditionJoinsWrong : ChangeSpec := { name := "conditionJoins", fn := fun _ => fun
  | [d] => { results := [.lit (.bool false)], args := [d] }
  | _ => none }
def ConditionJoinsWrongFalsely : Prop := conditionJoinsRow.holds Try.pinned (OpenSpec.ofChange conditionJoinsWrong)

/- THE SECOND FORM. 'bulk': how many values and letters a reading holds, each counted each time it is reached (what is shared counts as often as it is met; a slice's spare places count too). A statement '..UptoSaid' is the law's where the arguments, and the package variables that the reading takes, are together of bulk at most 1048576: NARROWER than '..Said'. Prove '..Said' where nothing that the law and all that it calls make is longer than what came in: it says more and counts as full. Else prove '..UptoSaid'. A law counts once. -/
mutual
def uptoBulk {H : Type} : DataW H → Nat
  | .lit (.string bytes) => bytes.length + 1
  | .lit _ => 1
  | .nil => 1
  | .ptr d => uptoBulk d + 1
  | .slice elems spare => uptoBulkAll elems + uptoBulkAll spare + 1
  | .agg parts => uptoBulkAll parts + 1
  | .iface _ d => uptoBulk d + 1
  | .map entries => uptoBulkEntries entries + 1
  | .held _ => 1
def uptoBulkAll {H : Type} : List (DataW H) → Nat
  | [] => 0
  | d :: r => uptoBulk d + uptoBulkAll r
def uptoBulkEntries {H : Type} : List (Lit × DataW H) → Nat
  | [] => 0
  | x :: r => uptoBulkEntry x + uptoBulkEntries r
def uptoBulkEntry {H : Type} : Lit × DataW H → Nat
  | (.string bytes, d) => bytes.length + uptoBulk d + 1
  | (_, d) => uptoBulk d + 1
 end
def uptoSmall : (H : Type) → List (DataW H) → Bool := fun _ ds => decide (uptoBulkAll ds ≤ 1048576)
def OpenSpec.upto (s : _root_.Go.ChangeSpec) : _root_.Go.OpenSpec := { _root_.Go.OpenSpec.ofChange s with cond := some uptoSmall }

/-- 'reportescrowlaw17.ConditionOrder', WHERE WHAT IT READS IS OF BULK AT MOST 1048576: true; the input reads as it did. -/
def conditionOrderUptoRow : OpenClaim := { program := "ytejdaeonknpgeaa", sum := "f299833d085115fc86b2898579286dd0c28cc61845526ebbcf54b951842f2e77", func := "reportescrow/reportescrowlaw17.ConditionOrder", spec := "conditionOrder", inPlace := ["internal/bytealg.IndexByteString", "internal/bytealg.IndexString"], unfollowed := true, recurses := true, named := ["internal/bytealg.MaxLen"], apart := false, narrowed := true }
def ConditionOrderUptoSaid : Prop := conditionOrderUptoRow.holds Try.pinned (OpenSpec.upto conditionOrderSpec)

/-- 'reportescrowlaw17.ConditionGrows', WHERE WHAT IT READS IS OF BULK AT MOST 1048576: true; the input reads as it did. -/
def conditionGrowsUptoRow : OpenClaim := { program := "ytejdaeonknpgeaa", sum := "f299833d085115fc86b2898579286dd0c28cc61845526ebbcf54b951842f2e77", func := "reportescrow/reportescrowlaw17.ConditionGrows", spec := "conditionGrows", inPlace := ["internal/bytealg.IndexByteString", "internal/bytealg.IndexString"], unfollowed := true, recurses := true, named := ["internal/bytealg.MaxLen"], apart := false, narrowed := true }
def ConditionGrowsUptoSaid : Prop := conditionGrowsUptoRow.holds Try.pinned (OpenSpec.upto conditionGrowsSpec)

/-- 'reportescrowlaw17.ConditionLeast', WHERE WHAT IT READS IS OF BULK AT MOST 1048576: true; the input reads as it did. -/
def conditionLeastUptoRow : OpenClaim := { program := "ytejdaeonknpgeaa", sum := "f299833d085115fc86b2898579286dd0c28cc61845526ebbcf54b951842f2e77", func := "reportescrow/reportescrowlaw17.ConditionLeast", spec := "conditionLeast", inPlace := ["internal/bytealg.IndexByteString", "internal/bytealg.IndexString"], unfollowed := true, recurses := true, named := ["internal/bytealg.MaxLen"], apart := false, narrowed := true }
def ConditionLeastUptoSaid : Prop := conditionLeastUptoRow.holds Try.pinned (OpenSpec.upto conditionLeastSpec)

/-- 'reportescrowlaw17.ConditionJoins', WHERE WHAT IT READS IS OF BULK AT MOST 1048576: true; the input reads as it did. -/
def conditionJoinsUptoRow : OpenClaim := { program := "ytejdaeonknpgeaa", sum := "f299833d085115fc86b2898579286dd0c28cc61845526ebbcf54b951842f2e77", func := "reportescrow/reportescrowlaw17.ConditionJoins", spec := "conditionJoins", inPlace := ["internal/bytealg.IndexByteString", "internal/bytealg.IndexString"], unfollowed := true, recurses := true, named := ["internal/bytealg.MaxLen"], apart := false, narrowed := true }
def ConditionJoinsUptoSaid : Prop := conditionJoinsUptoRow.holds Try.pinned (OpenSpec.upto conditionJoinsSpec)

end Rows
end Go.Proofs.Ytejdaeonknpgeaa
