/-
  DERIVED. GIVEN WITH THE SEED: THE CARDS: each row of YtcnffdgmdeflmaaDoorRows.lean that lists a variable, with what it lists TIED to the program's text (the seventh form; the later family's looks); each row that meets fmt, with fmt's text TOLD by the authors' own Lean function (tested against real Go, not proved from fmt's source: count such statements apart). THE CARD IS WHAT COUNTS. Prove the row's statement (the work); the ties are given (YtcnffdgmdeflmaaDoorTie.lean); close each card by the builder's one call (the guide's Derived/Test/ToyasCard.lean, 'card_holds'). Laid BY PROGRAM, IN A SANDBOX (cutbox-door.mjs). By AI agents, Wed Nov 11 2026. No macro, syntax, notation, axiom, sorry.
-/
import Derived.Test.YtcnffdgmdeflmaaDoorRows
import GoSem.ClaimSeven
namespace Go.Proofs.YtcnffdgmdeflmaaDoor
namespace Rows

/-- THE TIED CARD OF 'reportescrowlaw25.RateHides'. -/
def rateHidesCard : Claim7 := { stood := { row := rateHidesRow, standIns := [], harness := (true, "570ce6608402a6f4531b1187938e1e2ce82d7079c0822a8d29a0baf63e4f49b5"), looks := false }, kinds := [], alts := [], laidByText := true, laidKinds := [.data], laidTests := true, laidLooks := .later }
def RateHidesCardSaid : Prop := Claim7.holds Tryd.pinned (.plain (OpenSpec.ofChange rateHidesSpec)) rateHidesCard

/-- THE TIED CARD OF 'reportescrowlaw25.RateMarks'. -/
def rateMarksCard : Claim7 := { stood := { row := rateMarksRow, standIns := [], harness := (true, "570ce6608402a6f4531b1187938e1e2ce82d7079c0822a8d29a0baf63e4f49b5"), looks := false }, kinds := [], alts := [], laidByText := true, laidKinds := [.data], laidTests := true, laidLooks := .later }
def RateMarksCardSaid : Prop := Claim7.holds Tryd.pinned (.plain (OpenSpec.ofChange rateMarksSpec)) rateMarksCard

/-- THE SECOND FORM's CARD OF 'reportescrowlaw25.RateHides'. -/
def rateHidesUptoCard : Claim7 := { stood := { row := rateHidesUptoRow, standIns := [], harness := (true, "570ce6608402a6f4531b1187938e1e2ce82d7079c0822a8d29a0baf63e4f49b5"), looks := false }, kinds := [], alts := [], laidByText := true, laidKinds := [.data], laidTests := true, laidLooks := .later }
def RateHidesUptoCardSaid : Prop := Claim7.holds Tryd.pinned (.plain (OpenSpec.upto rateHidesSpec)) rateHidesUptoCard

/-- THE SECOND FORM's CARD OF 'reportescrowlaw25.RateMarks'. -/
def rateMarksUptoCard : Claim7 := { stood := { row := rateMarksUptoRow, standIns := [], harness := (true, "570ce6608402a6f4531b1187938e1e2ce82d7079c0822a8d29a0baf63e4f49b5"), looks := false }, kinds := [], alts := [], laidByText := true, laidKinds := [.data], laidTests := true, laidLooks := .later }
def RateMarksUptoCardSaid : Prop := Claim7.holds Tryd.pinned (.plain (OpenSpec.upto rateMarksSpec)) rateMarksUptoCard
end Rows
end Go.Proofs.YtcnffdgmdeflmaaDoor
