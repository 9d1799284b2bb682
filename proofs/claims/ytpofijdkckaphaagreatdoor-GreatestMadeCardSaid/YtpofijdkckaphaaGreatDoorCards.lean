/-
  DERIVED. GIVEN WITH THE SEED: THE CARDS: each row of YtpofijdkckaphaaGreatDoorRows.lean that lists a variable, with what it lists TIED to the program's text (the seventh form; the later family's looks); each row that meets fmt, with fmt's text TOLD by the authors' own Lean function (tested against real Go, not proved from fmt's source: count such statements apart). THE CARD IS WHAT COUNTS. Prove the row's statement (the work); the ties are given (YtpofijdkckaphaaGreatDoorTie.lean); close each card by the builder's one call (the guide's Derived/Test/ToyasCard.lean, 'card_holds'). Laid BY PROGRAM, IN A SANDBOX (cutbox-door.mjs). By AI agents, Wed Nov 11 2026. No macro, syntax, notation, axiom, sorry.
-/
import Derived.Test.YtpofijdkckaphaaGreatDoorRows
import GoSem.ClaimSeven
namespace Go.Proofs.YtpofijdkckaphaaGreatDoor
namespace Rows

/-- THE TIED CARD OF 'reportescrowlaw28.GreatestIs'. -/
def greatestIsCard : Claim7 := { stood := { row := greatestIsRow, standIns := [], harness := (true, "3b5616a50d9dfe9c762a23cf01472a1f45fc22e45ebdeebdd78cdbd63b78bad0"), looks := false }, kinds := [], alts := [], laidByText := true, laidKinds := [.listed, .data], laidTests := true, laidLooks := .later }
def GreatestIsCardSaid : Prop := Claim7.holds Tryz.pinned (.plain (OpenSpec.ofChange greatestIsSpec)) greatestIsCard

/-- THE TIED CARD OF 'reportescrowlaw28.GreatestChecks'. -/
def greatestChecksCard : Claim7 := { stood := { row := greatestChecksRow, standIns := [], harness := (true, "3b5616a50d9dfe9c762a23cf01472a1f45fc22e45ebdeebdd78cdbd63b78bad0"), looks := false }, kinds := [], alts := [], laidByText := true, laidKinds := [.listed, .data], laidTests := true, laidLooks := .later }
def GreatestChecksCardSaid : Prop := Claim7.holds Tryz.pinned (.plain (OpenSpec.ofChange greatestChecksSpec)) greatestChecksCard

/-- THE TIED CARD OF 'reportescrowlaw28.GreatestRaw'. -/
def greatestRawCard : Claim7 := { stood := { row := greatestRawRow, standIns := [], harness := (true, "3b5616a50d9dfe9c762a23cf01472a1f45fc22e45ebdeebdd78cdbd63b78bad0"), looks := false }, kinds := [], alts := [], laidByText := true, laidKinds := [.listed, .data], laidTests := true, laidLooks := .later }
def GreatestRawCardSaid : Prop := Claim7.holds Tryz.pinned (.plain (OpenSpec.ofChange greatestRawSpec)) greatestRawCard

/-- THE TIED CARD OF 'reportescrowlaw28.GreatestMade'. -/
def greatestMadeCard : Claim7 := { stood := { row := greatestMadeRow, standIns := [], harness := (true, "3b5616a50d9dfe9c762a23cf01472a1f45fc22e45ebdeebdd78cdbd63b78bad0"), looks := false }, kinds := [], alts := [], laidByText := true, laidKinds := [.listed, .data], laidTests := true, laidLooks := .later }
def GreatestMadeCardSaid : Prop := Claim7.holds Tryz.pinned (.plain (OpenSpec.ofChange greatestMadeSpec)) greatestMadeCard

/-- THE SECOND FORM's CARD OF 'reportescrowlaw28.GreatestIs'. -/
def greatestIsUptoCard : Claim7 := { stood := { row := greatestIsUptoRow, standIns := [], harness := (true, "3b5616a50d9dfe9c762a23cf01472a1f45fc22e45ebdeebdd78cdbd63b78bad0"), looks := false }, kinds := [], alts := [], laidByText := true, laidKinds := [.listed, .data], laidTests := true, laidLooks := .later }
def GreatestIsUptoCardSaid : Prop := Claim7.holds Tryz.pinned (.plain (OpenSpec.upto greatestIsSpec)) greatestIsUptoCard

/-- THE SECOND FORM's CARD OF 'reportescrowlaw28.GreatestChecks'. -/
def greatestChecksUptoCard : Claim7 := { stood := { row := greatestChecksUptoRow, standIns := [], harness := (true, "3b5616a50d9dfe9c762a23cf01472a1f45fc22e45ebdeebdd78cdbd63b78bad0"), looks := false }, kinds := [], alts := [], laidByText := true, laidKinds := [.listed, .data], laidTests := true, laidLooks := .later }
def GreatestChecksUptoCardSaid : Prop := Claim7.holds Tryz.pinned (.plain (OpenSpec.upto greatestChecksSpec)) greatestChecksUptoCard

/-- THE SECOND FORM's CARD OF 'reportescrowlaw28.GreatestRaw'. -/
def greatestRawUptoCard : Claim7 := { stood := { row := greatestRawUptoRow, standIns := [], harness := (true, "3b5616a50d9dfe9c762a23cf01472a1f45fc22e45ebdeebdd78cdbd63b78bad0"), looks := false }, kinds := [], alts := [], laidByText := true, laidKinds := [.listed, .data], laidTests := true, laidLooks := .later }
def GreatestRawUptoCardSaid : Prop := Claim7.holds Tryz.pinned (.plain (OpenSpec.upto greatestRawSpec)) greatestRawUptoCard

/-- THE SECOND FORM's CARD OF 'reportescrowlaw28.GreatestMade'. -/
def greatestMadeUptoCard : Claim7 := { stood := { row := greatestMadeUptoRow, standIns := [], harness := (true, "3b5616a50d9dfe9c762a23cf01472a1f45fc22e45ebdeebdd78cdbd63b78bad0"), looks := false }, kinds := [], alts := [], laidByText := true, laidKinds := [.listed, .data], laidTests := true, laidLooks := .later }
def GreatestMadeUptoCardSaid : Prop := Claim7.holds Tryz.pinned (.plain (OpenSpec.upto greatestMadeSpec)) greatestMadeUptoCard
end Rows
end Go.Proofs.YtpofijdkckaphaaGreatDoor
