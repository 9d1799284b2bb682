/-
  DERIVED. GIVEN WITH THE SEED: THE CARDS: each row of YtnahkfchcminpaaGreatDoorRows.lean that lists a variable, with what it lists TIED to the program's text (the seventh form; the later family's looks); each row that meets fmt, with fmt's text TOLD by the authors' own Lean function (tested against real Go, not proved from fmt's source: count such statements apart). THE CARD IS WHAT COUNTS. Prove the row's statement (the work); the ties are given (YtnahkfchcminpaaGreatDoorTie.lean); close each card by the builder's one call (the guide's Derived/Test/ToyasCard.lean, 'card_holds'). Laid BY PROGRAM, IN A SANDBOX (cutbox-door.mjs). By AI agents, Wed Nov 11 2026. No macro, syntax, notation, axiom, sorry.
-/
import Derived.Test.YtnahkfchcminpaaGreatDoorRows
import GoSem.ClaimSeven
namespace Go.Proofs.YtnahkfchcminpaaGreatDoor
namespace Rows

/-- THE TIED CARD OF 'reportescrowlaw23.EnrolOrder'. -/
def enrolOrderCard : Claim7 := { stood := { row := enrolOrderRow, standIns := [], harness := (true, "4eb0ece47c423ef9d37d2078cdad071e1ee721655987a50e5ddf7b8689d9e54b"), looks := false }, kinds := [], alts := [], laidByText := true, laidKinds := [.data], laidTests := true, laidLooks := .later }
def EnrolOrderCardSaid : Prop := Claim7.holds Tryz.pinned (.plain (OpenSpec.ofChange enrolOrderSpec)) enrolOrderCard

/-- THE TIED CARD OF 'reportescrowlaw23.EnrolRaw'. -/
def enrolRawCard : Claim7 := { stood := { row := enrolRawRow, standIns := [], harness := (true, "4eb0ece47c423ef9d37d2078cdad071e1ee721655987a50e5ddf7b8689d9e54b"), looks := false }, kinds := [], alts := [], laidByText := true, laidKinds := [.data], laidTests := true, laidLooks := .later }
def EnrolRawCardSaid : Prop := Claim7.holds Tryz.pinned (.plain (OpenSpec.ofChange enrolRawSpec)) enrolRawCard

/-- THE TIED CARD OF 'reportescrowlaw23.EnrolMade'. -/
def enrolMadeCard : Claim7 := { stood := { row := enrolMadeRow, standIns := [], harness := (true, "4eb0ece47c423ef9d37d2078cdad071e1ee721655987a50e5ddf7b8689d9e54b"), looks := false }, kinds := [], alts := [], laidByText := true, laidKinds := [.data], laidTests := true, laidLooks := .later }
def EnrolMadeCardSaid : Prop := Claim7.holds Tryz.pinned (.plain (OpenSpec.ofChange enrolMadeSpec)) enrolMadeCard

/-- THE SECOND FORM's CARD OF 'reportescrowlaw23.EnrolOrder'. -/
def enrolOrderUptoCard : Claim7 := { stood := { row := enrolOrderUptoRow, standIns := [], harness := (true, "4eb0ece47c423ef9d37d2078cdad071e1ee721655987a50e5ddf7b8689d9e54b"), looks := false }, kinds := [], alts := [], laidByText := true, laidKinds := [.data], laidTests := true, laidLooks := .later }
def EnrolOrderUptoCardSaid : Prop := Claim7.holds Tryz.pinned (.plain (OpenSpec.upto enrolOrderSpec)) enrolOrderUptoCard

/-- THE SECOND FORM's CARD OF 'reportescrowlaw23.EnrolRaw'. -/
def enrolRawUptoCard : Claim7 := { stood := { row := enrolRawUptoRow, standIns := [], harness := (true, "4eb0ece47c423ef9d37d2078cdad071e1ee721655987a50e5ddf7b8689d9e54b"), looks := false }, kinds := [], alts := [], laidByText := true, laidKinds := [.data], laidTests := true, laidLooks := .later }
def EnrolRawUptoCardSaid : Prop := Claim7.holds Tryz.pinned (.plain (OpenSpec.upto enrolRawSpec)) enrolRawUptoCard

/-- THE SECOND FORM's CARD OF 'reportescrowlaw23.EnrolMade'. -/
def enrolMadeUptoCard : Claim7 := { stood := { row := enrolMadeUptoRow, standIns := [], harness := (true, "4eb0ece47c423ef9d37d2078cdad071e1ee721655987a50e5ddf7b8689d9e54b"), looks := false }, kinds := [], alts := [], laidByText := true, laidKinds := [.data], laidTests := true, laidLooks := .later }
def EnrolMadeUptoCardSaid : Prop := Claim7.holds Tryz.pinned (.plain (OpenSpec.upto enrolMadeSpec)) enrolMadeUptoCard
end Rows
end Go.Proofs.YtnahkfchcminpaaGreatDoor
