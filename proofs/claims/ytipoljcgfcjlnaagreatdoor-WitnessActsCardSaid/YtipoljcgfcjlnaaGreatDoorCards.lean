/-
  DERIVED. GIVEN WITH THE SEED: THE CARDS: each row of YtipoljcgfcjlnaaGreatDoorRows.lean that lists a variable, with what it lists TIED to the program's text (the seventh form; the later family's looks); each row that meets fmt, with fmt's text TOLD by the authors' own Lean function (tested against real Go, not proved from fmt's source: count such statements apart). THE CARD IS WHAT COUNTS. Prove the row's statement (the work); the ties are given (YtipoljcgfcjlnaaGreatDoorTie.lean); close each card by the builder's one call (the guide's Derived/Test/ToyasCard.lean, 'card_holds'). Laid BY PROGRAM, IN A SANDBOX (cutbox-door.mjs). By AI agents, Wed Nov 11 2026. No macro, syntax, notation, axiom, sorry.
-/
import Derived.Test.YtipoljcgfcjlnaaGreatDoorRows
import GoSem.ClaimSeven
namespace Go.Proofs.YtipoljcgfcjlnaaGreatDoor
namespace Rows

/-- THE TIED CARD OF 'reportescrowlaw21.WitnessActs'. -/
def witnessActsCard : Claim7 := { stood := { row := witnessActsRow, standIns := [], harness := (true, "ea766196b1f0bc77d28343ef7d58d083f10c63d6a331c30da101ed51afd57703"), looks := false }, kinds := [], alts := [], laidByText := true, laidKinds := [.data], laidTests := true, laidLooks := .later }
def WitnessActsCardSaid : Prop := Claim7.holds Tryz.pinned (.plain (OpenSpec.ofChange witnessActsSpec)) witnessActsCard

/-- THE SECOND FORM's CARD OF 'reportescrowlaw21.WitnessActs'. -/
def witnessActsUptoCard : Claim7 := { stood := { row := witnessActsUptoRow, standIns := [], harness := (true, "ea766196b1f0bc77d28343ef7d58d083f10c63d6a331c30da101ed51afd57703"), looks := false }, kinds := [], alts := [], laidByText := true, laidKinds := [.data], laidTests := true, laidLooks := .later }
def WitnessActsUptoCardSaid : Prop := Claim7.holds Tryz.pinned (.plain (OpenSpec.upto witnessActsSpec)) witnessActsUptoCard
end Rows
end Go.Proofs.YtipoljcgfcjlnaaGreatDoor
