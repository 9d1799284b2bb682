/-
  DERIVED. GIVEN WITH THE SEED: THE CARDS: each row of YtejdaeonknpgeaaGreatDoorRows.lean that lists a variable, with what it lists TIED to the program's text (the seventh form; the later family's looks); each row that meets fmt, with fmt's text TOLD by the authors' own Lean function (tested against real Go, not proved from fmt's source: count such statements apart). THE CARD IS WHAT COUNTS. Prove the row's statement (the work); the ties are given (YtejdaeonknpgeaaGreatDoorTie.lean); close each card by the builder's one call (the guide's Derived/Test/ToyasCard.lean, 'card_holds'). Laid BY PROGRAM, IN A SANDBOX (cutbox-door.mjs). By AI agents, Wed Nov 11 2026. No macro, syntax, notation, axiom, sorry.
-/
import Derived.Test.YtejdaeonknpgeaaGreatDoorRows
import GoSem.ClaimSeven
namespace Go.Proofs.YtejdaeonknpgeaaGreatDoor
namespace Rows

/-- THE TIED CARD OF 'reportescrowlaw17.ConditionHolds'. -/
def conditionHoldsCard : Claim7 := { stood := { row := conditionHoldsRow, standIns := [], harness := (true, "bcd9364471a0a6be4074c3684baf86e61f872ecc02d90d885519f293ba0abf0c"), looks := false }, kinds := [], alts := [], laidByText := true, laidKinds := [.listed, .data], laidTests := true, laidLooks := .later }
def ConditionHoldsCardSaid : Prop := Claim7.holds Tryz.pinned (.plain (OpenSpec.ofChange conditionHoldsSpec)) conditionHoldsCard

/-- THE SECOND FORM's CARD OF 'reportescrowlaw17.ConditionHolds'. -/
def conditionHoldsUptoCard : Claim7 := { stood := { row := conditionHoldsUptoRow, standIns := [], harness := (true, "bcd9364471a0a6be4074c3684baf86e61f872ecc02d90d885519f293ba0abf0c"), looks := false }, kinds := [], alts := [], laidByText := true, laidKinds := [.listed, .data], laidTests := true, laidLooks := .later }
def ConditionHoldsUptoCardSaid : Prop := Claim7.holds Tryz.pinned (.plain (OpenSpec.upto conditionHoldsSpec)) conditionHoldsUptoCard
end Rows
end Go.Proofs.YtejdaeonknpgeaaGreatDoor
