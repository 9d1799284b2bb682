/-
  DERIVED. GIVEN WITH THE SEED: THE CARDS: each row of YtgfcknadjijinaaDoorRows.lean that lists a variable, with what it lists TIED to the program's text (the seventh form; the later family's looks); each row that meets fmt, with fmt's text TOLD by the authors' own Lean function (tested against real Go, not proved from fmt's source: count such statements apart). THE CARD IS WHAT COUNTS. Prove the row's statement (the work); the ties are given (YtgfcknadjijinaaDoorTie.lean); close each card by the builder's one call (the guide's Derived/Test/ToyasCard.lean, 'card_holds'). Laid BY PROGRAM, IN A SANDBOX (cutbox-door.mjs). By AI agents, Wed Nov 11 2026. No macro, syntax, notation, axiom, sorry.
-/
import Derived.Test.YtgfcknadjijinaaDoorRows
import GoSem.ClaimSeven
namespace Go.Proofs.YtgfcknadjijinaaDoor
namespace Rows

/-- THE TIED CARD OF 'reportescrowlaw21.WitnessChanges'. -/
def witnessChangesCard : Claim7 := { stood := { row := witnessChangesRow, standIns := [], harness := (true, "75a1644762abb5c8e65e01eddf94b71052b0a8e95989b841c4d67fe17db06ed0"), looks := false }, kinds := [], alts := [], laidByText := true, laidKinds := [.data], laidTests := true, laidLooks := .later }
def WitnessChangesCardSaid : Prop := Claim7.holds Tryd.pinned (.plain (OpenSpec.ofChange witnessChangesSpec)) witnessChangesCard

/-- THE TIED CARD OF 'reportescrowlaw21.WitnessOrder'. -/
def witnessOrderCard : Claim7 := { stood := { row := witnessOrderRow, standIns := [], harness := (true, "75a1644762abb5c8e65e01eddf94b71052b0a8e95989b841c4d67fe17db06ed0"), looks := false }, kinds := [], alts := [], laidByText := true, laidKinds := [.data], laidTests := true, laidLooks := .later }
def WitnessOrderCardSaid : Prop := Claim7.holds Tryd.pinned (.plain (OpenSpec.ofChange witnessOrderSpec)) witnessOrderCard

/-- THE TIED CARD OF 'reportescrowlaw21.WitnessGrows'. -/
def witnessGrowsCard : Claim7 := { stood := { row := witnessGrowsRow, standIns := [], harness := (true, "75a1644762abb5c8e65e01eddf94b71052b0a8e95989b841c4d67fe17db06ed0"), looks := false }, kinds := [], alts := [], laidByText := true, laidKinds := [.data], laidTests := true, laidLooks := .later }
def WitnessGrowsCardSaid : Prop := Claim7.holds Tryd.pinned (.plain (OpenSpec.ofChange witnessGrowsSpec)) witnessGrowsCard

/-- THE TIED CARD OF 'reportescrowlaw21.WitnessTwo'. -/
def witnessTwoCard : Claim7 := { stood := { row := witnessTwoRow, standIns := [], harness := (true, "75a1644762abb5c8e65e01eddf94b71052b0a8e95989b841c4d67fe17db06ed0"), looks := false }, kinds := [], alts := [], laidByText := true, laidKinds := [.data], laidTests := true, laidLooks := .later }
def WitnessTwoCardSaid : Prop := Claim7.holds Tryd.pinned (.plain (OpenSpec.ofChange witnessTwoSpec)) witnessTwoCard

/-- THE SECOND FORM's CARD OF 'reportescrowlaw21.WitnessChanges'. -/
def witnessChangesUptoCard : Claim7 := { stood := { row := witnessChangesUptoRow, standIns := [], harness := (true, "75a1644762abb5c8e65e01eddf94b71052b0a8e95989b841c4d67fe17db06ed0"), looks := false }, kinds := [], alts := [], laidByText := true, laidKinds := [.data], laidTests := true, laidLooks := .later }
def WitnessChangesUptoCardSaid : Prop := Claim7.holds Tryd.pinned (.plain (OpenSpec.upto witnessChangesSpec)) witnessChangesUptoCard

/-- THE SECOND FORM's CARD OF 'reportescrowlaw21.WitnessOrder'. -/
def witnessOrderUptoCard : Claim7 := { stood := { row := witnessOrderUptoRow, standIns := [], harness := (true, "75a1644762abb5c8e65e01eddf94b71052b0a8e95989b841c4d67fe17db06ed0"), looks := false }, kinds := [], alts := [], laidByText := true, laidKinds := [.data], laidTests := true, laidLooks := .later }
def WitnessOrderUptoCardSaid : Prop := Claim7.holds Tryd.pinned (.plain (OpenSpec.upto witnessOrderSpec)) witnessOrderUptoCard

/-- THE SECOND FORM's CARD OF 'reportescrowlaw21.WitnessGrows'. -/
def witnessGrowsUptoCard : Claim7 := { stood := { row := witnessGrowsUptoRow, standIns := [], harness := (true, "75a1644762abb5c8e65e01eddf94b71052b0a8e95989b841c4d67fe17db06ed0"), looks := false }, kinds := [], alts := [], laidByText := true, laidKinds := [.data], laidTests := true, laidLooks := .later }
def WitnessGrowsUptoCardSaid : Prop := Claim7.holds Tryd.pinned (.plain (OpenSpec.upto witnessGrowsSpec)) witnessGrowsUptoCard

/-- THE SECOND FORM's CARD OF 'reportescrowlaw21.WitnessTwo'. -/
def witnessTwoUptoCard : Claim7 := { stood := { row := witnessTwoUptoRow, standIns := [], harness := (true, "75a1644762abb5c8e65e01eddf94b71052b0a8e95989b841c4d67fe17db06ed0"), looks := false }, kinds := [], alts := [], laidByText := true, laidKinds := [.data], laidTests := true, laidLooks := .later }
def WitnessTwoUptoCardSaid : Prop := Claim7.holds Tryd.pinned (.plain (OpenSpec.upto witnessTwoSpec)) witnessTwoUptoCard
end Rows
end Go.Proofs.YtgfcknadjijinaaDoor
