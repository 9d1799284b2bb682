/-
  No cell of these rows narrows 'for every input' (looked for: loops, veiled, ifaces, maps, wideKeys, modest, calm, conditions, laid).
  DERIVED. THE GIVEN ROWS OF THIS SEAT. 3 by the template 'for every input the law returns true; each argument reads behind the call as it read before'; 0 by the template 'total and deterministic' (their statements: YtgjjpijcakafhaaTotals.lean).
  GIVEN WITH THE SEED: the statements are not yours to turn. If you find one false, say at which input.
  Laid BY PROGRAM, IN A SANDBOX (cutbox-rows.mjs): the forced cells as the released guide's own fill.sh prints them over the translation c8694cc01787ab50… (all of the seat's roots in one cut). By AI agents, Wed Nov 11 2026. No macro, syntax, notation, axiom, sorry.
-/
import Derived.Test.YtgjjpijcakafhaaChecked
import GoSem.Claim
import GoSem.ClaimJoined
import GoSem.ClaimMapViews
import Derived.JoinedTies
import Derived.KernelRfl
namespace Go.Proofs.Ytgjjpijcakafhaa
/- THE CELL 'sum', in the pinned program and in every row, IS THE sha256 OF THE DUMP (.gsa) THAT YtgjjpijcakafhaaProg.lean LOADS. Nothing in Lean hashes anything: it is a label: what it is worth is what the hold of that sum in a sandbox is worth. -/
noncomputable def Try.pinned : Pinned := { name := "ytgjjpijcakafhaa", sum := "c8694cc01787ab5018847b06d75431e4033840179007457fe0e9e494bc77c99c", checked := Try.checked }
namespace Rows
def none {H : Type} : Left H := { results := [], args := [] }

/-- 'reportescrowlaw20.CustodyLimit': WHATEVER THE INPUT: true; the input reads as it did. -/
def custodyLimitSpec : ChangeSpec := { name := "custodyLimit", fn := fun _ => fun
  | [d] => { results := [.lit (.bool true)], args := [d] }
  | _ => none }
def custodyLimitRow : OpenClaim := { program := "ytgjjpijcakafhaa", sum := "c8694cc01787ab5018847b06d75431e4033840179007457fe0e9e494bc77c99c", func := "reportescrow/reportescrowlaw20.CustodyLimit", spec := "custodyLimit", inPlace := ["internal/abi.NoEscape", "internal/bytealg.MakeNoZero"], recurses := true, apart := false }
def CustodyLimitSaid : Prop := custodyLimitRow.holds Try.pinned (OpenSpec.ofChange custodyLimitSpec)

/-- ITS FALSE NEIGHBOUR: 'it returns false'. Refute it at one input. -/
def custodyLimitWrong : ChangeSpec := { name := "custodyLimit", fn := fun _ => fun
  | [d] => { results := [.lit (.bool false)], args := [d] }
  | _ => none }
def CustodyLimitWrongFalsely : Prop := custodyLimitRow.holds Try.pinned (OpenSpec.ofChange custodyLimitWrong)

/-- 'reportescrowlaw20.CustodyHeads': WHATEVER THE INPUT: true; the input reads as it did. -/
def custodyHeadsSpec : ChangeSpec := { name := "custodyHeads", fn := fun _ => fun
  | [d] => { results := [.lit (.bool true)], args := [d] }
  | _ => none }
def custodyHeadsRow : OpenClaim := { program := "ytgjjpijcakafhaa", sum := "c8694cc01787ab5018847b06d75431e4033840179007457fe0e9e494bc77c99c", func := "reportescrow/reportescrowlaw20.CustodyHeads", spec := "custodyHeads", inPlace := ["internal/abi.NoEscape", "internal/bytealg.MakeNoZero"], recurses := true, apart := false }
def CustodyHeadsSaid : Prop := custodyHeadsRow.holds Try.pinned (OpenSpec.ofChange custodyHeadsSpec)

/-- ITS FALSE NEIGHBOUR: 'it returns false'. Refute it at one input. -/
def custodyHeadsWrong : ChangeSpec := { name := "custodyHeads", fn := fun _ => fun
  | [d] => { results := [.lit (.bool false)], args := [d] }
  | _ => none }
def CustodyHeadsWrongFalsely : Prop := custodyHeadsRow.holds Try.pinned (OpenSpec.ofChange custodyHeadsWrong)

/-- 'reportescrowlaw20.CustodyActs': WHATEVER THE INPUT: true; the input reads as it did. -/
def custodyActsSpec : ChangeSpec := { name := "custodyActs", fn := fun _ => fun
  | [d1, d2, d3, d4, d5] => { results := [.lit (.bool true)], args := [d1, d2, d3, d4, d5] }
  | _ => none }
def custodyActsRow : OpenClaim := { program := "ytgjjpijcakafhaa", sum := "c8694cc01787ab5018847b06d75431e4033840179007457fe0e9e494bc77c99c", func := "reportescrow/reportescrowlaw20.CustodyActs", spec := "custodyActs", inPlace := ["internal/abi.NoEscape", "internal/bytealg.MakeNoZero"], recurses := true, apart := false }
def CustodyActsSaid : Prop := custodyActsRow.holds Try.pinned (OpenSpec.ofChange custodyActsSpec)

/-- ITS FALSE NEIGHBOUR: 'it returns false'. Refute it at one input. -/
def custodyActsWrong : ChangeSpec := { name := "custodyActs", fn := fun _ => fun
  | [d1, d2, d3, d4, d5] => { results := [.lit (.bool false)], args := [d1, d2, d3, d4, d5] }
  | _ => none }
def CustodyActsWrongFalsely : Prop := custodyActsRow.holds Try.pinned (OpenSpec.ofChange custodyActsWrong)

/- THE SECOND FORM. 'bulk': how many values and letters a reading holds, each counted each time it is reached (what is shared counts as often as it is met; a slice's spare places count too). A statement '..UptoSaid' is the law's where the arguments, and the package variables that the reading takes, are together of bulk at most 1048576: NARROWER than '..Said'. Prove '..Said' where nothing that the law and all that it calls make is longer than what came in: it says more and counts as full. Else prove '..UptoSaid'. A law counts once. -/
mutual
def uptoBulk {H : Type} : DataW H → Nat
  | .lit (.string bytes) => bytes.length + 1
  | .lit _ => 1
  | .nil => 1
  | .ptr d => uptoBulk d + 1
  | .slice elems spare => uptoBulkAll elems + uptoBulkAll spare + 1
  | .agg parts => uptoBulkAll parts + 1
  | .iface _ d => uptoBulk d + 1
  | .map entries => uptoBulkEntries entries + 1
  | .held _ => 1
def uptoBulkAll {H : Type} : List (DataW H) → Nat
  | [] => 0
  | d :: r => uptoBulk d + uptoBulkAll r
def uptoBulkEntries {H : Type} : List (Lit × DataW H) → Nat
  | [] => 0
  | x :: r => uptoBulkEntry x + uptoBulkEntries r
def uptoBulkEntry {H : Type} : Lit × DataW H → Nat
  | (.string bytes, d) => bytes.length + uptoBulk d + 1
  | (_, d) => uptoBulk d + 1
 end
def uptoSmall : (H : Type) → List (DataW H) → Bool := fun _ ds => decide (uptoBulkAll ds ≤ 1048576)
def OpenSpec.upto (s : _root_.Go.ChangeSpec) : _root_.Go.OpenSpec := { _root_.Go.OpenSpec.ofChange s with cond := some uptoSmall }

/-- 'reportescrowlaw20.CustodyLimit', WHERE WHAT IT READS IS OF BULK AT MOST 1048576: true; the input reads as it did. -/
def custodyLimitUptoRow : OpenClaim := { program := "ytgjjpijcakafhaa", sum := "c8694cc01787ab5018847b06d75431e4033840179007457fe0e9e494bc77c99c", func := "reportescrow/reportescrowlaw20.CustodyLimit", spec := "custodyLimit", inPlace := ["internal/abi.NoEscape", "internal/bytealg.MakeNoZero"], recurses := true, apart := false, narrowed := true }
def CustodyLimitUptoSaid : Prop := custodyLimitUptoRow.holds Try.pinned (OpenSpec.upto custodyLimitSpec)

/-- 'reportescrowlaw20.CustodyHeads', WHERE WHAT IT READS IS OF BULK AT MOST 1048576: true; the input reads as it did. -/
def custodyHeadsUptoRow : OpenClaim := { program := "ytgjjpijcakafhaa", sum := "c8694cc01787ab5018847b06d75431e4033840179007457fe0e9e494bc77c99c", func := "reportescrow/reportescrowlaw20.CustodyHeads", spec := "custodyHeads", inPlace := ["internal/abi.NoEscape", "internal/bytealg.MakeNoZero"], recurses := true, apart := false, narrowed := true }
def CustodyHeadsUptoSaid : Prop := custodyHeadsUptoRow.holds Try.pinned (OpenSpec.upto custodyHeadsSpec)

/-- 'reportescrowlaw20.CustodyActs', WHERE WHAT IT READS IS OF BULK AT MOST 1048576: true; the input reads as it did. -/
def custodyActsUptoRow : OpenClaim := { program := "ytgjjpijcakafhaa", sum := "c8694cc01787ab5018847b06d75431e4033840179007457fe0e9e494bc77c99c", func := "reportescrow/reportescrowlaw20.CustodyActs", spec := "custodyActs", inPlace := ["internal/abi.NoEscape", "internal/bytealg.MakeNoZero"], recurses := true, apart := false, narrowed := true }
def CustodyActsUptoSaid : Prop := custodyActsUptoRow.holds Try.pinned (OpenSpec.upto custodyActsSpec)

end Rows
end Go.Proofs.Ytgjjpijcakafhaa
