/-
  DERIVED. GIVEN WITH THE SEED: THE CARDS: each row of YtcnffdgmdeflmaaGreatDoorRows.lean that lists a variable, with what it lists TIED to the program's text (the seventh form; the later family's looks); each row that meets fmt, with fmt's text TOLD by the authors' own Lean function (tested against real Go, not proved from fmt's source: count such statements apart). THE CARD IS WHAT COUNTS. Prove the row's statement (the work); the ties are given (YtcnffdgmdeflmaaGreatDoorTie.lean); close each card by the builder's one call (the guide's Derived/Test/ToyasCard.lean, 'card_holds'). Laid BY PROGRAM, IN A SANDBOX (cutbox-door.mjs). By AI agents, Wed Nov 11 2026. No macro, syntax, notation, axiom, sorry.
-/
import Derived.Test.YtcnffdgmdeflmaaGreatDoorRows
import GoSem.ClaimSeven
namespace Go.Proofs.YtcnffdgmdeflmaaGreatDoor
namespace Rows

/-- THE TIED CARD OF 'reportescrowlaw25.RateNone'. -/
def rateNoneCard : Claim7 := { stood := { row := rateNoneRow, standIns := [], harness := (true, "2484b77385c0dd5f4e33ee3f81a12be6c044f53d0069b750f88fd9e043e110bb"), looks := false }, kinds := [], alts := [], laidByText := true, laidKinds := [.data], laidTests := true, laidLooks := .later }
def RateNoneCardSaid : Prop := Claim7.holds Tryz.pinned (.plain (OpenSpec.ofChange rateNoneSpec)) rateNoneCard

/-- THE TIED CARD OF 'reportescrowlaw25.RateMade'. -/
def rateMadeCard : Claim7 := { stood := { row := rateMadeRow, standIns := [], harness := (true, "2484b77385c0dd5f4e33ee3f81a12be6c044f53d0069b750f88fd9e043e110bb"), looks := false }, kinds := [], alts := [], laidByText := true, laidKinds := [.data], laidTests := true, laidLooks := .later }
def RateMadeCardSaid : Prop := Claim7.holds Tryz.pinned (.plain (OpenSpec.ofChange rateMadeSpec)) rateMadeCard

/-- THE SECOND FORM's CARD OF 'reportescrowlaw25.RateNone'. -/
def rateNoneUptoCard : Claim7 := { stood := { row := rateNoneUptoRow, standIns := [], harness := (true, "2484b77385c0dd5f4e33ee3f81a12be6c044f53d0069b750f88fd9e043e110bb"), looks := false }, kinds := [], alts := [], laidByText := true, laidKinds := [.data], laidTests := true, laidLooks := .later }
def RateNoneUptoCardSaid : Prop := Claim7.holds Tryz.pinned (.plain (OpenSpec.upto rateNoneSpec)) rateNoneUptoCard

/-- THE SECOND FORM's CARD OF 'reportescrowlaw25.RateMade'. -/
def rateMadeUptoCard : Claim7 := { stood := { row := rateMadeUptoRow, standIns := [], harness := (true, "2484b77385c0dd5f4e33ee3f81a12be6c044f53d0069b750f88fd9e043e110bb"), looks := false }, kinds := [], alts := [], laidByText := true, laidKinds := [.data], laidTests := true, laidLooks := .later }
def RateMadeUptoCardSaid : Prop := Claim7.holds Tryz.pinned (.plain (OpenSpec.upto rateMadeSpec)) rateMadeUptoCard
end Rows
end Go.Proofs.YtcnffdgmdeflmaaGreatDoor
