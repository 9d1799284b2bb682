/-
  DERIVED. GIVEN WITH THE SEED: THE CARDS: each row of YtbjpmkoiabkcbaaGreatDoorRows.lean that lists a variable, with what it lists TIED to the program's text (the seventh form; the later family's looks); each row that meets fmt, with fmt's text TOLD by the authors' own Lean function (tested against real Go, not proved from fmt's source: count such statements apart). THE CARD IS WHAT COUNTS. Prove the row's statement (the work); the ties are given (YtbjpmkoiabkcbaaGreatDoorTie.lean); close each card by the builder's one call (the guide's Derived/Test/ToyasCard.lean, 'card_holds'). Laid BY PROGRAM, IN A SANDBOX (cutbox-door.mjs). By AI agents, Wed Nov 11 2026. No macro, syntax, notation, axiom, sorry.
-/
import Derived.Test.YtbjpmkoiabkcbaaGreatDoorRows
import GoSem.ClaimSeven
namespace Go.Proofs.YtbjpmkoiabkcbaaGreatDoor
namespace Rows

/-- THE TIED CARD OF 'reportescrowlaw25.RateRaw'. -/
def rateRawCard : Claim7 := { stood := { row := rateRawRow, standIns := [], harness := (true, "758f46122aba802706c7ef574b3c8ee9349d5942c43cc7e6d265977c257ef653"), looks := false }, kinds := [], alts := [], laidByText := true, laidKinds := [.data], laidTests := true, laidLooks := .later }
def RateRawCardSaid : Prop := Claim7.holds Tryz.pinned (.plain (OpenSpec.ofChange rateRawSpec)) rateRawCard

/-- THE SECOND FORM's CARD OF 'reportescrowlaw25.RateRaw'. -/
def rateRawUptoCard : Claim7 := { stood := { row := rateRawUptoRow, standIns := [], harness := (true, "758f46122aba802706c7ef574b3c8ee9349d5942c43cc7e6d265977c257ef653"), looks := false }, kinds := [], alts := [], laidByText := true, laidKinds := [.data], laidTests := true, laidLooks := .later }
def RateRawUptoCardSaid : Prop := Claim7.holds Tryz.pinned (.plain (OpenSpec.upto rateRawSpec)) rateRawUptoCard
end Rows
end Go.Proofs.YtbjpmkoiabkcbaaGreatDoor
