/-
  DERIVED. GIVEN WITH THE SEED: THE CARDS: each row of YtekhepklaokaiaaDoorRows.lean that lists a variable, with what it lists TIED to the program's text (the seventh form; the later family's looks); each row that meets fmt, with fmt's text TOLD by the authors' own Lean function (tested against real Go, not proved from fmt's source: count such statements apart). THE CARD IS WHAT COUNTS. Prove the row's statement (the work); the ties are given (YtekhepklaokaiaaDoorTie.lean); close each card by the builder's one call (the guide's Derived/Test/ToyasCard.lean, 'card_holds'). Laid BY PROGRAM, IN A SANDBOX (cutbox-door.mjs). By AI agents, Wed Nov 11 2026. No macro, syntax, notation, axiom, sorry.
-/
import Derived.Test.YtekhepklaokaiaaDoorRows
import GoSem.ClaimSeven
namespace Go.Proofs.YtekhepklaokaiaaDoor
namespace Rows

/-- THE TIED CARD OF 'reportescrowlaw24.TokenBlind'. -/
def tokenBlindCard : Claim7 := { stood := { row := tokenBlindRow, standIns := [], harness := (true, "b5d7070c704b846fe4eca2e45ee4d3e5902cdc16aa031e3a666d662164353f3b"), looks := false }, kinds := [], alts := [], laidByText := true, laidKinds := [.data], laidTests := true, laidLooks := .later }
def TokenBlindCardSaid : Prop := Claim7.holds Tryd.pinned (.plain (OpenSpec.ofChange tokenBlindSpec)) tokenBlindCard

/-- THE TIED CARD OF 'reportescrowlaw24.TokenPeriods'. -/
def tokenPeriodsCard : Claim7 := { stood := { row := tokenPeriodsRow, standIns := [], harness := (true, "b5d7070c704b846fe4eca2e45ee4d3e5902cdc16aa031e3a666d662164353f3b"), looks := false }, kinds := [], alts := [], laidByText := true, laidKinds := [.data], laidTests := true, laidLooks := .later }
def TokenPeriodsCardSaid : Prop := Claim7.holds Tryd.pinned (.plain (OpenSpec.ofChange tokenPeriodsSpec)) tokenPeriodsCard

/-- THE SECOND FORM's CARD OF 'reportescrowlaw24.TokenBlind'. -/
def tokenBlindUptoCard : Claim7 := { stood := { row := tokenBlindUptoRow, standIns := [], harness := (true, "b5d7070c704b846fe4eca2e45ee4d3e5902cdc16aa031e3a666d662164353f3b"), looks := false }, kinds := [], alts := [], laidByText := true, laidKinds := [.data], laidTests := true, laidLooks := .later }
def TokenBlindUptoCardSaid : Prop := Claim7.holds Tryd.pinned (.plain (OpenSpec.upto tokenBlindSpec)) tokenBlindUptoCard

/-- THE SECOND FORM's CARD OF 'reportescrowlaw24.TokenPeriods'. -/
def tokenPeriodsUptoCard : Claim7 := { stood := { row := tokenPeriodsUptoRow, standIns := [], harness := (true, "b5d7070c704b846fe4eca2e45ee4d3e5902cdc16aa031e3a666d662164353f3b"), looks := false }, kinds := [], alts := [], laidByText := true, laidKinds := [.data], laidTests := true, laidLooks := .later }
def TokenPeriodsUptoCardSaid : Prop := Claim7.holds Tryd.pinned (.plain (OpenSpec.upto tokenPeriodsSpec)) tokenPeriodsUptoCard
end Rows
end Go.Proofs.YtekhepklaokaiaaDoor
