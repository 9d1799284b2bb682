/-
  No cell of these rows narrows 'for every input' (looked for: loops, veiled, ifaces, maps, wideKeys, modest, calm, conditions, laid).
  DERIVED. THE GIVEN ROWS OF THIS SEAT. 3 by the template 'for every input the law returns true; each argument reads behind the call as it read before'; 0 by the template 'total and deterministic' (their statements: YtnlhcfhngdahlaaTotals.lean).
  GIVEN WITH THE SEED: the statements are not yours to turn. If you find one false, say at which input.
  Laid BY PROGRAM, IN A SANDBOX (cutbox-rows.mjs): the forced cells as the released guide's own fill.sh prints them over the translation 0e64a49d2727f9af… (all of the seat's roots in one cut). By AI agents, Wed Nov 11 2026. No macro, syntax, notation, axiom, sorry.
-/
import Derived.Test.YtnlhcfhngdahlaaChecked
import GoSem.Claim
import GoSem.ClaimJoined
import GoSem.ClaimMapViews
import Derived.JoinedTies
import Derived.KernelRfl
namespace Go.Proofs.Ytnlhcfhngdahlaa
/- THE CELL 'sum', in the pinned program and in every row, IS THE sha256 OF THE DUMP (.gsa) THAT YtnlhcfhngdahlaaProg.lean LOADS. Nothing in Lean hashes anything: it is a label: what it is worth is what the hold of that sum in a sandbox is worth. -/
noncomputable def Try.pinned : Pinned := { name := "ytnlhcfhngdahlaa", sum := "0e64a49d2727f9af9e6bc1f4e1837a9da339c5c8ee906d605b1dd32bf58df291", checked := Try.checked }
namespace Rows
def none {H : Type} : Left H := { results := [], args := [] }

/-- 'reportescrowlaw36.ReplayRaw': WHATEVER THE INPUT: true; the input reads as it did. -/
def replayRawSpec : ChangeSpec := { name := "replayRaw", fn := fun _ => fun
  | [d1, d2, d3] => { results := [.lit (.bool true)], args := [d1, d2, d3] }
  | _ => none }
def replayRawRow : OpenClaim := { program := "ytnlhcfhngdahlaa", sum := "0e64a49d2727f9af9e6bc1f4e1837a9da339c5c8ee906d605b1dd32bf58df291", func := "reportescrow/reportescrowlaw36.ReplayRaw", spec := "replayRaw", inPlace := ["internal/abi.NoEscape", "internal/bytealg.MakeNoZero", "slices.overlaps[reportescrow/api.Kept]"], unfollowed := true, recurses := true, apart := false }
def ReplayRawSaid : Prop := replayRawRow.holds Try.pinned (OpenSpec.ofChange replayRawSpec)

/-- ITS FALSE NEIGHBOUR: 'it returns false'. Refute it at one input. -/
def replayRawWrong : ChangeSpec := { name := "replayRaw", fn := fun _ => fun
  | [d1, d2, d3] => { results := [.lit (.bool false)], args := [d1, d2, d3] }
  | _ => none }
def ReplayRawWrongFalsely : Prop := replayRawRow.holds Try.pinned (OpenSpec.ofChange replayRawWrong)

/-- 'reportescrowlaw36.ReplayMade': WHATEVER THE INPUT: true; the input reads as it did. -/
def replayMadeSpec : ChangeSpec := { name := "replayMade", fn := fun _ => fun
  | [d1, d2] => { results := [.lit (.bool true)], args := [d1, d2] }
  | _ => none }
def replayMadeRow : OpenClaim := { program := "ytnlhcfhngdahlaa", sum := "0e64a49d2727f9af9e6bc1f4e1837a9da339c5c8ee906d605b1dd32bf58df291", func := "reportescrow/reportescrowlaw36.ReplayMade", spec := "replayMade", inPlace := ["internal/abi.NoEscape", "internal/bytealg.MakeNoZero", "slices.overlaps[reportescrow/api.Kept]"], unfollowed := true, recurses := true, apart := false }
def ReplayMadeSaid : Prop := replayMadeRow.holds Try.pinned (OpenSpec.ofChange replayMadeSpec)

/-- ITS FALSE NEIGHBOUR: 'it returns false'. Refute it at one input. -/
def replayMadeWrong : ChangeSpec := { name := "replayMade", fn := fun _ => fun
  | [d1, d2] => { results := [.lit (.bool false)], args := [d1, d2] }
  | _ => none }
def ReplayMadeWrongFalsely : Prop := replayMadeRow.holds Try.pinned (OpenSpec.ofChange replayMadeWrong)

/-- 'reportescrowlaw36.ReplayOnce': WHATEVER THE INPUT: true; the input reads as it did. -/
def replayOnceSpec : ChangeSpec := { name := "replayOnce", fn := fun _ => fun
  | [d] => { results := [.lit (.bool true)], args := [d] }
  | _ => none }
def replayOnceRow : OpenClaim := { program := "ytnlhcfhngdahlaa", sum := "0e64a49d2727f9af9e6bc1f4e1837a9da339c5c8ee906d605b1dd32bf58df291", func := "reportescrow/reportescrowlaw36.ReplayOnce", spec := "replayOnce", inPlace := ["internal/abi.NoEscape", "internal/bytealg.MakeNoZero", "slices.overlaps[reportescrow/api.Kept]"], unfollowed := true, recurses := true, apart := false }
def ReplayOnceSaid : Prop := replayOnceRow.holds Try.pinned (OpenSpec.ofChange replayOnceSpec)

/-- ITS FALSE NEIGHBOUR: 'it returns false'. Refute it at one input. -/
def replayOnceWrong : ChangeSpec := { name := "replayOnce", fn := fun _ => fun
  | [d] => { results := [.lit (.bool false)], args := [d] }
  | _ => none }
def ReplayOnceWrongFalsely : Prop := replayOnceRow.holds Try.pinned (OpenSpec.ofChange replayOnceWrong)

/- THE SECOND FORM. 'bulk': how many values and letters a reading holds, each counted each time it is reached (what is shared counts as often as it is met; a slice's spare places count too). A statement '..UptoSaid' is the law's where the arguments, and the package variables that the reading takes, are together of bulk at most 1048576: NARROWER than '..Said'. Prove '..Said' where nothing that the law and all that it calls make is longer than what came in: it says more and counts as full. Else prove '..UptoSaid'. A law counts once. -/
mutual
def uptoBulk {H : Type} : DataW H → Nat
  | .lit (.string bytes) => bytes.length + 1
  | .lit _ => 1
  | .nil => 1
  | .ptr d => uptoBulk d + 1
  | .slice elems spare => uptoBulkAll elems + uptoBulkAll spare + 1
  | .agg parts => uptoBulkAll parts + 1
  | .iface _ d => uptoBulk d + 1
  | .map entries => uptoBulkEntries entries + 1
  | .held _ => 1
def uptoBulkAll {H : Type} : List (DataW H) → Nat
  | [] => 0
  | d :: r => uptoBulk d + uptoBulkAll r
def uptoBulkEntries {H : Type} : List (Lit × DataW H) → Nat
  | [] => 0
  | x :: r => uptoBulkEntry x + uptoBulkEntries r
def uptoBulkEntry {H : Type} : Lit × DataW H → Nat
  | (.string bytes, d) => bytes.length + uptoBulk d + 1
  | (_, d) => uptoBulk d + 1
 end
def uptoSmall : (H : Type) → List (DataW H) → Bool := fun _ ds => decide (uptoBulkAll ds ≤ 1048576)
def OpenSpec.upto (s : _root_.Go.ChangeSpec) : _root_.Go.OpenSpec := { _root_.Go.OpenSpec.ofChange s with cond := some uptoSmall }

/-- 'reportescrowlaw36.ReplayRaw', WHERE WHAT IT READS IS OF BULK AT MOST 1048576: true; the input reads as it did. -/
def replayRawUptoRow : OpenClaim := { program := "ytnlhcfhngdahlaa", sum := "0e64a49d2727f9af9e6bc1f4e1837a9da339c5c8ee906d605b1dd32bf58df291", func := "reportescrow/reportescrowlaw36.ReplayRaw", spec := "replayRaw", inPlace := ["internal/abi.NoEscape", "internal/bytealg.MakeNoZero", "slices.overlaps[reportescrow/api.Kept]"], unfollowed := true, recurses := true, apart := false, narrowed := true }
def ReplayRawUptoSaid : Prop := replayRawUptoRow.holds Try.pinned (OpenSpec.upto replayRawSpec)

/-- 'reportescrowlaw36.ReplayMade', WHERE WHAT IT READS IS OF BULK AT MOST 1048576: true; the input reads as it did. -/
def replayMadeUptoRow : OpenClaim := { program := "ytnlhcfhngdahlaa", sum := "0e64a49d2727f9af9e6bc1f4e1837a9da339c5c8ee906d605b1dd32bf58df291", func := "reportescrow/reportescrowlaw36.ReplayMade", spec := "replayMade", inPlace := ["internal/abi.NoEscape", "internal/bytealg.MakeNoZero", "slices.overlaps[reportescrow/api.Kept]"], unfollowed := true, recurses := true, apart := false, narrowed := true }
def ReplayMadeUptoSaid : Prop := replayMadeUptoRow.holds Try.pinned (OpenSpec.upto replayMadeSpec)

/-- 'reportescrowlaw36.ReplayOnce', WHERE WHAT IT READS IS OF BULK AT MOST 1048576: true; the input reads as it did. -/
def replayOnceUptoRow : OpenClaim := { program := "ytnlhcfhngdahlaa", sum := "0e64a49d2727f9af9e6bc1f4e1837a9da339c5c8ee906d605b1dd32bf58df291", func := "reportescrow/reportescrowlaw36.ReplayOnce", spec := "replayOnce", inPlace := ["internal/abi.NoEscape", "internal/bytealg.MakeNoZero", "slices.overlaps[reportescrow/api.Kept]"], unfollowed := true, recurses := true, apart := false, narrowed := true }
def ReplayOnceUptoSaid : Prop := replayOnceUptoRow.holds Try.pinned (OpenSpec.upto replayOnceSpec)

end Rows
end Go.Proofs.Ytnlhcfhngdahlaa
