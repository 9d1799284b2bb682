/-
  No cell of these rows narrows 'for every input' (looked for: loops, veiled, ifaces, maps, wideKeys, modest, calm, conditions, laid).
  DERIVED. THE GIVEN ROWS OF THIS SEAT. 10 by the template 'for every input the law returns true; each argument reads behind the call as it read before'; 0 by the template 'total and deterministic' (their statements: YtcppedmcchhhoaaTotals.lean).
  GIVEN WITH THE SEED: the statements are not yours to turn. If you find one false, say at which input.
  Laid BY PROGRAM, IN A SANDBOX (cutbox-rows.mjs): the forced cells as the released guide's own fill.sh prints them over the translation b4eac2623ba2c24e… (all of the seat's roots in one cut). By AI agents, Wed Nov 11 2026. No macro, syntax, notation, axiom, sorry.
-/
import Derived.Test.YtcppedmcchhhoaaChecked
import GoSem.Claim
import GoSem.ClaimJoined
import GoSem.ClaimMapViews
import Derived.JoinedTies
import Derived.KernelRfl
namespace Go.Proofs.Ytcppedmcchhhoaa
/- THE CELL 'sum', in the pinned program and in every row, IS THE sha256 OF THE DUMP (.gsa) THAT YtcppedmcchhhoaaProg.lean LOADS. Nothing in Lean hashes anything: it is a label: what it is worth is what the hold of that sum in a sandbox is worth. -/
noncomputable def Try.pinned : Pinned := { name := "ytcppedmcchhhoaa", sum := "b4eac2623ba2c24edc47890c32c354635bdb8bb8e9979c51a2f614f31e51adca", checked := Try.checked }
namespace Rows
def none {H : Type} : Left H := { results := [], args := [] }

/-- 'reportescrowlaw04.CodecOnce': WHATEVER THE INPUT: true; the input reads as it did. -/
def codecOnceSpec : ChangeSpec := { name := "codecOnce", fn := fun _ => fun
  | [d1, d2] => { results := [.lit (.bool true)], args := [d1, d2] }
  | _ => none }
def codecOnceRow : OpenClaim := { program := "ytcppedmcchhhoaa", sum := "b4eac2623ba2c24edc47890c32c354635bdb8bb8e9979c51a2f614f31e51adca", func := "reportescrow/reportescrowlaw04.CodecOnce", spec := "codecOnce", apart := false }
def CodecOnceSaid : Prop := codecOnceRow.holds Try.pinned (OpenSpec.ofChange codecOnceSpec)

/-- ITS FALSE NEIGHBOUR: 'it returns false'. Refute it at one input. -/
def codecOnceWrong : ChangeSpec := { name := "codecOnce", fn := fun _ => fun
  | [d1, d2] => { results := [.lit (.bool false)], args := [d1, d2] }
  | _ => none }
def CodecOnceWrongFalsely : Prop := codecOnceRow.holds Try.pinned (OpenSpec.ofChange codecOnceWrong)

/-- 'reportescrowlaw04.CodecWrites': WHATEVER THE INPUT: true; the input reads as it did. -/
def codecWritesSpec : ChangeSpec := { name := "codecWrites", fn := fun _ => fun
  | [d1, d2, d3, d4, d5] => { results := [.lit (.bool true)], args := [d1, d2, d3, d4, d5] }
  | _ => none }
def codecWritesRow : OpenClaim := { program := "ytcppedmcchhhoaa", sum := "b4eac2623ba2c24edc47890c32c354635bdb8bb8e9979c51a2f614f31e51adca", func := "reportescrow/reportescrowlaw04.CodecWrites", spec := "codecWrites", unfollowed := true, recurses := true, apart := false }
def CodecWritesSaid : Prop := codecWritesRow.holds Try.pinned (OpenSpec.ofChange codecWritesSpec)

/-- ITS FALSE NEIGHBOUR: 'it returns false'. Refute it at one input. -/
def codecWritesWrong : ChangeSpec := { name := "codecWrites", fn := fun _ => fun
  | [d1, d2, d3, d4, d5] => { results := [.lit (.bool false)], args := [d1, d2, d3, d4, d5] }
  | _ => none }
def CodecWritesWrongFalsely : Prop := codecWritesRow.holds Try.pinned (OpenSpec.ofChange codecWritesWrong)

/-- 'reportescrowlaw04.CodecApart': WHATEVER THE INPUT: true; the input reads as it did. -/
def codecApartSpec : ChangeSpec := { name := "codecApart", fn := fun _ => fun
  | [d1, d2, d3, d4] => { results := [.lit (.bool true)], args := [d1, d2, d3, d4] }
  | _ => none }
def codecApartRow : OpenClaim := { program := "ytcppedmcchhhoaa", sum := "b4eac2623ba2c24edc47890c32c354635bdb8bb8e9979c51a2f614f31e51adca", func := "reportescrow/reportescrowlaw04.CodecApart", spec := "codecApart", unfollowed := true, recurses := true, apart := false }
def CodecApartSaid : Prop := codecApartRow.holds Try.pinned (OpenSpec.ofChange codecApartSpec)

/-- ITS FALSE NEIGHBOUR: 'it returns false'. Refute it at one input. -/
def codecApartWrong : ChangeSpec := { name := "codecApart", fn := fun _ => fun
  | [d1, d2, d3, d4] => { results := [.lit (.bool false)], args := [d1, d2, d3, d4] }
  | _ => none }
def CodecApartWrongFalsely : Prop := codecApartRow.holds Try.pinned (OpenSpec.ofChange codecApartWrong)

/-- 'reportescrowlaw04.CodecReads': WHATEVER THE INPUT: true; the input reads as it did. -/
def codecReadsSpec : ChangeSpec := { name := "codecReads", fn := fun _ => fun
  | [d1, d2, d3, d4, d5] => { results := [.lit (.bool true)], args := [d1, d2, d3, d4, d5] }
  | _ => none }
def codecReadsRow : OpenClaim := { program := "ytcppedmcchhhoaa", sum := "b4eac2623ba2c24edc47890c32c354635bdb8bb8e9979c51a2f614f31e51adca", func := "reportescrow/reportescrowlaw04.CodecReads", spec := "codecReads", unfollowed := true, recurses := true, apart := false }
def CodecReadsSaid : Prop := codecReadsRow.holds Try.pinned (OpenSpec.ofChange codecReadsSpec)

/-- ITS FALSE NEIGHBOUR: 'it returns false'. Refute it at one input. -/
def codecReadsWrong : ChangeSpec := { name := "codecReads", fn := fun _ => fun
  | [d1, d2, d3, d4, d5] => { results := [.lit (.bool false)], args := [d1, d2, d3, d4, d5] }
  | _ => none }
def CodecReadsWrongFalsely : Prop := codecReadsRow.holds Try.pinned (OpenSpec.ofChange codecReadsWrong)

/-- 'reportescrowlaw04.CodecCut': WHATEVER THE INPUT: true; the input reads as it did. -/
def codecCutSpec : ChangeSpec := { name := "codecCut", fn := fun _ => fun
  | [d1, d2, d3] => { results := [.lit (.bool true)], args := [d1, d2, d3] }
  | _ => none }
def codecCutRow : OpenClaim := { program := "ytcppedmcchhhoaa", sum := "b4eac2623ba2c24edc47890c32c354635bdb8bb8e9979c51a2f614f31e51adca", func := "reportescrow/reportescrowlaw04.CodecCut", spec := "codecCut", unfollowed := true, recurses := true, apart := false }
def CodecCutSaid : Prop := codecCutRow.holds Try.pinned (OpenSpec.ofChange codecCutSpec)

/-- ITS FALSE NEIGHBOUR: 'it returns false'. Refute it at one input. -/
def codecCutWrong : ChangeSpec := { name := "codecCut", fn := fun _ => fun
  | [d1, d2, d3] => { results := [.lit (.bool false)], args := [d1, d2, d3] }
  | _ => none }
def CodecCutWrongFalsely : Prop := codecCutRow.holds Try.pinned (OpenSpec.ofChange codecCutWrong)

/-- 'reportescrowlaw04.CodecBack': WHATEVER THE INPUT: true; the input reads as it did. -/
def codecBackSpec : ChangeSpec := { name := "codecBack", fn := fun _ => fun
  | [d1, d2, d3, d4, d5, d6] => { results := [.lit (.bool true)], args := [d1, d2, d3, d4, d5, d6] }
  | _ => none }
def codecBackRow : OpenClaim := { program := "ytcppedmcchhhoaa", sum := "b4eac2623ba2c24edc47890c32c354635bdb8bb8e9979c51a2f614f31e51adca", func := "reportescrow/reportescrowlaw04.CodecBack", spec := "codecBack", unfollowed := true, recurses := true, apart := false }
def CodecBackSaid : Prop := codecBackRow.holds Try.pinned (OpenSpec.ofChange codecBackSpec)

/-- ITS FALSE NEIGHBOUR: 'it returns false'. Refute it at one input. -/
def codecBackWrong : ChangeSpec := { name := "codecBack", fn := fun _ => fun
  | [d1, d2, d3, d4, d5, d6] => { results := [.lit (.bool false)], args := [d1, d2, d3, d4, d5, d6] }
  | _ => none }
def CodecBackWrongFalsely : Prop := codecBackRow.holds Try.pinned (OpenSpec.ofChange codecBackWrong)

/-- 'reportescrowlaw03.DigestSums': WHATEVER THE INPUT: true; the input reads as it did. -/
def digestSumsSpec : ChangeSpec := { name := "digestSums", fn := fun _ => fun
  | [d1, d2] => { results := [.lit (.bool true)], args := [d1, d2] }
  | _ => none }
def digestSumsRow : OpenClaim := { program := "ytcppedmcchhhoaa", sum := "b4eac2623ba2c24edc47890c32c354635bdb8bb8e9979c51a2f614f31e51adca", func := "reportescrow/reportescrowlaw03.DigestSums", spec := "digestSums", inPlace := ["internal/abi.NoEscape", "internal/bytealg.MakeNoZero"], apart := false }
def DigestSumsSaid : Prop := digestSumsRow.holds Try.pinned (OpenSpec.ofChange digestSumsSpec)

/-- ITS FALSE NEIGHBOUR: 'it returns false'. Refute it at one input. -/
def digestSumsWrong : ChangeSpec := { name := "digestSums", fn := fun _ => fun
  | [d1, d2] => { results := [.lit (.bool false)], args := [d1, d2] }
  | _ => none }
def DigestSumsWrongFalsely : Prop := digestSumsRow.holds Try.pinned (OpenSpec.ofChange digestSumsWrong)

/-- 'reportescrowlaw03.DigestLists': WHATEVER THE INPUT: true; the input reads as it did. -/
def digestListsSpec : ChangeSpec := { name := "digestLists", fn := fun _ => fun
  | [d1, d2, d3] => { results := [.lit (.bool true)], args := [d1, d2, d3] }
  | _ => none }
def digestListsRow : OpenClaim := { program := "ytcppedmcchhhoaa", sum := "b4eac2623ba2c24edc47890c32c354635bdb8bb8e9979c51a2f614f31e51adca", func := "reportescrow/reportescrowlaw03.DigestLists", spec := "digestLists", inPlace := ["internal/abi.NoEscape", "internal/bytealg.MakeNoZero"], apart := false }
def DigestListsSaid : Prop := digestListsRow.holds Try.pinned (OpenSpec.ofChange digestListsSpec)

/-- ITS FALSE NEIGHBOUR: 'it returns false'. Refute it at one input. -/
def digestListsWrong : ChangeSpec := { name := "digestLists", fn := fun _ => fun
  | [d1, d2, d3] => { results := [.lit (.bool false)], args := [d1, d2, d3] }
  | _ => none }
def DigestListsWrongFalsely : Prop := digestListsRow.holds Try.pinned (OpenSpec.ofChange digestListsWrong)

/-- 'reportescrowlaw03.DigestElements': WHATEVER THE INPUT: true; the input reads as it did. -/
def digestElementsSpec : ChangeSpec := { name := "digestElements", fn := fun _ => fun
  | [d1, d2, d3] => { results := [.lit (.bool true)], args := [d1, d2, d3] }
  | _ => none }
def digestElementsRow : OpenClaim := { program := "ytcppedmcchhhoaa", sum := "b4eac2623ba2c24edc47890c32c354635bdb8bb8e9979c51a2f614f31e51adca", func := "reportescrow/reportescrowlaw03.DigestElements", spec := "digestElements", inPlace := ["internal/abi.NoEscape", "internal/bytealg.MakeNoZero"], apart := false }
def DigestElementsSaid : Prop := digestElementsRow.holds Try.pinned (OpenSpec.ofChange digestElementsSpec)

/-- ITS FALSE NEIGHBOUR: 'it returns false'. Refute it at one input. -/
def digestElementsWrong : ChangeSpec := { name := "digestElements", fn := fun _ => fun
  | [d1, d2, d3] => { results := [.lit (.bool false)], args := [d1, d2, d3] }
  | _ => none }
def DigestElementsWrongFalsely : Prop := digestElementsRow.holds Try.pinned (OpenSpec.ofChange digestElementsWrong)

/-- 'reportescrowlaw03.DigestStreams': WHATEVER THE INPUT: true; the input reads as it did. -/
def digestStreamsSpec : ChangeSpec := { name := "digestStreams", fn := fun _ => fun
  | [d1, d2, d3, d4] => { results := [.lit (.bool true)], args := [d1, d2, d3, d4] }
  | _ => none }
def digestStreamsRow : OpenClaim := { program := "ytcppedmcchhhoaa", sum := "b4eac2623ba2c24edc47890c32c354635bdb8bb8e9979c51a2f614f31e51adca", func := "reportescrow/reportescrowlaw03.DigestStreams", spec := "digestStreams", inPlace := ["internal/abi.NoEscape", "internal/bytealg.MakeNoZero"], apart := false }
def DigestStreamsSaid : Prop := digestStreamsRow.holds Try.pinned (OpenSpec.ofChange digestStreamsSpec)

/-- ITS FALSE NEIGHBOUR: 'it returns false'. Refute it at one input. -/
def digestStreamsWrong : ChangeSpec := { name := "digestStreams", fn := fun _ => fun
  | [d1, d2, d3, d4] => { results := [.lit (.bool false)], args := [d1, d2, d3, d4] }
  | _ => none }
def DigestStreamsWrongFalsely : Prop := digestStreamsRow.holds Try.pinned (OpenSpec.ofChange digestStreamsWrong)

/- THE SECOND FORM. 'bulk': how many values and letters a reading holds, each counted each time it is reached (what is shared counts as often as it is met; a slice's spare places count too). A statement '..UptoSaid' is the law's where the arguments, and the package variables that the reading takes, are together of bulk at most 1048576: NARROWER than '..Said'. Prove '..Said' where nothing that the law and all that it calls make is longer than what came in: it says more and counts as full. Else prove '..UptoSaid'. A law counts once. -/
mutual
def uptoBulk {H : Type} : DataW H → Nat
  | .lit (.string bytes) => bytes.length + 1
  | .lit _ => 1
  | .nil => 1
  | .ptr d => uptoBulk d + 1
  | .slice elems spare => uptoBulkAll elems + uptoBulkAll spare + 1
  | .agg parts => uptoBulkAll parts + 1
  | .iface _ d => uptoBulk d + 1
  | .map entries => uptoBulkEntries entries + 1
  | .held _ => 1
def uptoBulkAll {H : Type} : List (DataW H) → Nat
  | [] => 0
  | d :: r => uptoBulk d + uptoBulkAll r
def uptoBulkEntries {H : Type} : List (Lit × DataW H) → Nat
  | [] => 0
  | x :: r => uptoBulkEntry x + uptoBulkEntries r
def uptoBulkEntry {H : Type} : Lit × DataW H → Nat
  | (.string bytes, d) => bytes.length + uptoBulk d + 1
  | (_, d) => uptoBulk d + 1
 end
def uptoSmall : (H : Type) → List (DataW H) → Bool := fun _ ds => decide (uptoBulkAll ds ≤ 1048576)
def OpenSpec.upto (s : _root_.Go.ChangeSpec) : _root_.Go.OpenSpec := { _root_.Go.OpenSpec.ofChange s with cond := some uptoSmall }

/-- 'reportescrowlaw04.CodecOnce', WHERE WHAT IT READS IS OF BULK AT MOST 1048576: true; the input reads as it did. -/
def codecOnceUptoRow : OpenClaim := { program := "ytcppedmcchhhoaa", sum := "b4eac2623ba2c24edc47890c32c354635bdb8bb8e9979c51a2f614f31e51adca", func := "reportescrow/reportescrowlaw04.CodecOnce", spec := "codecOnce", apart := false, narrowed := true }
def CodecOnceUptoSaid : Prop := codecOnceUptoRow.holds Try.pinned (OpenSpec.upto codecOnceSpec)

/-- 'reportescrowlaw04.CodecWrites', WHERE WHAT IT READS IS OF BULK AT MOST 1048576: true; the input reads as it did. -/
def codecWritesUptoRow : OpenClaim := { program := "ytcppedmcchhhoaa", sum := "b4eac2623ba2c24edc47890c32c354635bdb8bb8e9979c51a2f614f31e51adca", func := "reportescrow/reportescrowlaw04.CodecWrites", spec := "codecWrites", unfollowed := true, recurses := true, apart := false, narrowed := true }
def CodecWritesUptoSaid : Prop := codecWritesUptoRow.holds Try.pinned (OpenSpec.upto codecWritesSpec)

/-- 'reportescrowlaw04.CodecApart', WHERE WHAT IT READS IS OF BULK AT MOST 1048576: true; the input reads as it did. -/
def codecApartUptoRow : OpenClaim := { program := "ytcppedmcchhhoaa", sum := "b4eac2623ba2c24edc47890c32c354635bdb8bb8e9979c51a2f614f31e51adca", func := "reportescrow/reportescrowlaw04.CodecApart", spec := "codecApart", unfollowed := true, recurses := true, apart := false, narrowed := true }
def CodecApartUptoSaid : Prop := codecApartUptoRow.holds Try.pinned (OpenSpec.upto codecApartSpec)

/-- 'reportescrowlaw04.CodecReads', WHERE WHAT IT READS IS OF BULK AT MOST 1048576: true; the input reads as it did. -/
def codecReadsUptoRow : OpenClaim := { program := "ytcppedmcchhhoaa", sum := "b4eac2623ba2c24edc47890c32c354635bdb8bb8e9979c51a2f614f31e51adca", func := "reportescrow/reportescrowlaw04.CodecReads", spec := "codecReads", unfollowed := true, recurses := true, apart := false, narrowed := true }
def CodecReadsUptoSaid : Prop := codecReadsUptoRow.holds Try.pinned (OpenSpec.upto codecReadsSpec)

/-- 'reportescrowlaw04.CodecCut', WHERE WHAT IT READS IS OF BULK AT MOST 1048576: true; the input reads as it did. -/
def codecCutUptoRow : OpenClaim := { program := "ytcppedmcchhhoaa", sum := "b4eac2623ba2c24edc47890c32c354635bdb8bb8e9979c51a2f614f31e51adca", func := "reportescrow/reportescrowlaw04.CodecCut", spec := "codecCut", unfollowed := true, recurses := true, apart := false, narrowed := true }
def CodecCutUptoSaid : Prop := codecCutUptoRow.holds Try.pinned (OpenSpec.upto codecCutSpec)

/-- 'reportescrowlaw04.CodecBack', WHERE WHAT IT READS IS OF BULK AT MOST 1048576: true; the input reads as it did. -/
def codecBackUptoRow : OpenClaim := { program := "ytcppedmcchhhoaa", sum := "b4eac2623ba2c24edc47890c32c354635bdb8bb8e9979c51a2f614f31e51adca", func := "reportescrow/reportescrowlaw04.CodecBack", spec := "codecBack", unfollowed := true, recurses := true, apart := false, narrowed := true }
def CodecBackUptoSaid : Prop := codecBackUptoRow.holds Try.pinned (OpenSpec.upto codecBackSpec)

/-- 'reportescrowlaw03.DigestSums', WHERE WHAT IT READS IS OF BULK AT MOST 1048576: true; the input reads as it did. -/
def digestSumsUptoRow : OpenClaim := { program := "ytcppedmcchhhoaa", sum := "b4eac2623ba2c24edc47890c32c354635bdb8bb8e9979c51a2f614f31e51adca", func := "reportescrow/reportescrowlaw03.DigestSums", spec := "digestSums", inPlace := ["internal/abi.NoEscape", "internal/bytealg.MakeNoZero"], apart := false, narrowed := true }
def DigestSumsUptoSaid : Prop := digestSumsUptoRow.holds Try.pinned (OpenSpec.upto digestSumsSpec)

/-- 'reportescrowlaw03.DigestLists', WHERE WHAT IT READS IS OF BULK AT MOST 1048576: true; the input reads as it did. -/
def digestListsUptoRow : OpenClaim := { program := "ytcppedmcchhhoaa", sum := "b4eac2623ba2c24edc47890c32c354635bdb8bb8e9979c51a2f614f31e51adca", func := "reportescrow/reportescrowlaw03.DigestLists", spec := "digestLists", inPlace := ["internal/abi.NoEscape", "internal/bytealg.MakeNoZero"], apart := false, narrowed := true }
def DigestListsUptoSaid : Prop := digestListsUptoRow.holds Try.pinned (OpenSpec.upto digestListsSpec)

/-- 'reportescrowlaw03.DigestElements', WHERE WHAT IT READS IS OF BULK AT MOST 1048576: true; the input reads as it did. -/
def digestElementsUptoRow : OpenClaim := { program := "ytcppedmcchhhoaa", sum := "b4eac2623ba2c24edc47890c32c354635bdb8bb8e9979c51a2f614f31e51adca", func := "reportescrow/reportescrowlaw03.DigestElements", spec := "digestElements", inPlace := ["internal/abi.NoEscape", "internal/bytealg.MakeNoZero"], apart := false, narrowed := true }
def DigestElementsUptoSaid : Prop := digestElementsUptoRow.holds Try.pinned (OpenSpec.upto digestElementsSpec)

/-- 'reportescrowlaw03.DigestStreams', WHERE WHAT IT READS IS OF BULK AT MOST 1048576: true; the input reads as it did. -/
def digestStreamsUptoRow : OpenClaim := { program := "ytcppedmcchhhoaa", sum := "b4eac2623ba2c24edc47890c32c354635bdb8bb8e9979c51a2f614f31e51adca", func := "reportescrow/reportescrowlaw03.DigestStreams", spec := "digestStreams", inPlace := ["internal/abi.NoEscape", "internal/bytealg.MakeNoZero"], apart := false, narrowed := true }
def DigestStreamsUptoSaid : Prop := digestStreamsUptoRow.holds Try.pinned (OpenSpec.upto digestStreamsSpec)

end Rows
end Go.Proofs.Ytcppedmcchhhoaa
