/-
  DERIVED. GIVEN WITH THE SEED: THE CARDS: each row of YtejdaeonknpgeaaDoorRows.lean that lists a variable, with what it lists TIED to the program's text (the seventh form; the later family's looks); each row that meets fmt, with fmt's text TOLD by the authors' own Lean function (tested against real Go, not proved from fmt's source: count such statements apart). THE CARD IS WHAT COUNTS. Prove the row's statement (the work); the ties are given (YtejdaeonknpgeaaDoorTie.lean); close each card by the builder's one call (the guide's Derived/Test/ToyasCard.lean, 'card_holds'). Laid BY PROGRAM, IN A SANDBOX (cutbox-door.mjs). By AI agents, Wed Nov 11 2026. No macro, syntax, notation, axiom, sorry.
-/
import Derived.Test.YtejdaeonknpgeaaDoorRows
import GoSem.ClaimSeven
namespace Go.Proofs.YtejdaeonknpgeaaDoor
namespace Rows

/-- THE TIED CARD OF 'reportescrowlaw17.ConditionWeaker'. -/
def conditionWeakerCard : Claim7 := { stood := { row := conditionWeakerRow, standIns := [], harness := (true, "8de012cfe262a34e8392f54d677862eefdaeea776c05afa7c777480f14088458"), looks := false }, kinds := [], alts := [], laidByText := true, laidKinds := [.listed, .data], laidTests := true, laidLooks := .later }
def ConditionWeakerCardSaid : Prop := Claim7.holds Tryd.pinned (.plain (OpenSpec.ofChange conditionWeakerSpec)) conditionWeakerCard

/-- THE SECOND FORM's CARD OF 'reportescrowlaw17.ConditionWeaker'. -/
def conditionWeakerUptoCard : Claim7 := { stood := { row := conditionWeakerUptoRow, standIns := [], harness := (true, "8de012cfe262a34e8392f54d677862eefdaeea776c05afa7c777480f14088458"), looks := false }, kinds := [], alts := [], laidByText := true, laidKinds := [.listed, .data], laidTests := true, laidLooks := .later }
def ConditionWeakerUptoCardSaid : Prop := Claim7.holds Tryd.pinned (.plain (OpenSpec.upto conditionWeakerSpec)) conditionWeakerUptoCard
end Rows
end Go.Proofs.YtejdaeonknpgeaaDoor
