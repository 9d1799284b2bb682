/-
  DERIVED. GIVEN WITH THE SEED: THE CARDS: each row of YtpbhendndelonaaDoorRows.lean that lists a variable, with what it lists TIED to the program's text (the seventh form; the later family's looks); each row that meets fmt, with fmt's text TOLD by the authors' own Lean function (tested against real Go, not proved from fmt's source: count such statements apart). THE CARD IS WHAT COUNTS. Prove the row's statement (the work); the ties are given (YtpbhendndelonaaDoorTie.lean); close each card by the builder's one call (the guide's Derived/Test/ToyasCard.lean, 'card_holds'). Laid BY PROGRAM, IN A SANDBOX (cutbox-door.mjs). By AI agents, Wed Nov 11 2026. No macro, syntax, notation, axiom, sorry.
-/
import Derived.Test.YtpbhendndelonaaDoorRows
import GoSem.ClaimSeven
namespace Go.Proofs.YtpbhendndelonaaDoor
namespace Rows

/-- THE TIED CARD OF 'reportescrowlaw05.PackBack'. -/
def packBackCard : Claim7 := { stood := { row := packBackRow, standIns := [], harness := (true, "09693238e0cfca4ad7ad10b405877ec332260cc1d5ab10d2d1430ab6eb6931ad"), looks := false }, kinds := [], alts := [], laidByText := true, laidKinds := [.data], laidTests := true, laidLooks := .later }
def PackBackCardSaid : Prop := Claim7.holds Tryd.pinned (.plain (OpenSpec.ofChange packBackSpec)) packBackCard

/-- THE TIED CARD OF 'reportescrowlaw05.PackLimits'. -/
def packLimitsCard : Claim7 := { stood := { row := packLimitsRow, standIns := [], harness := (true, "09693238e0cfca4ad7ad10b405877ec332260cc1d5ab10d2d1430ab6eb6931ad"), looks := false }, kinds := [], alts := [], laidByText := true, laidKinds := [.data], laidTests := true, laidLooks := .later }
def PackLimitsCardSaid : Prop := Claim7.holds Tryd.pinned (.plain (OpenSpec.ofChange packLimitsSpec)) packLimitsCard

/-- THE TIED CARD OF 'reportescrowlaw05.PackPads'. -/
def packPadsCard : Claim7 := { stood := { row := packPadsRow, standIns := [], harness := (true, "09693238e0cfca4ad7ad10b405877ec332260cc1d5ab10d2d1430ab6eb6931ad"), looks := false }, kinds := [], alts := [], laidByText := true, laidKinds := [.data, .data, .pinned], laidTests := true, laidLooks := .later }
def PackPadsCardSaid : Prop := Claim7.holds Tryd.pinned (.plain (OpenSpec.ofChange packPadsSpec)) packPadsCard

/-- THE TIED CARD OF 'reportescrowlaw05.PackHides'. -/
def packHidesCard : Claim7 := { stood := { row := packHidesRow, standIns := [], harness := (true, "09693238e0cfca4ad7ad10b405877ec332260cc1d5ab10d2d1430ab6eb6931ad"), looks := false }, kinds := [], alts := [], laidByText := true, laidKinds := [.data, .data, .pinned], laidTests := true, laidLooks := .later }
def PackHidesCardSaid : Prop := Claim7.holds Tryd.pinned (.plain (OpenSpec.ofChange packHidesSpec)) packHidesCard

/-- THE SECOND FORM's CARD OF 'reportescrowlaw05.PackBack'. -/
def packBackUptoCard : Claim7 := { stood := { row := packBackUptoRow, standIns := [], harness := (true, "09693238e0cfca4ad7ad10b405877ec332260cc1d5ab10d2d1430ab6eb6931ad"), looks := false }, kinds := [], alts := [], laidByText := true, laidKinds := [.data], laidTests := true, laidLooks := .later }
def PackBackUptoCardSaid : Prop := Claim7.holds Tryd.pinned (.plain (OpenSpec.upto packBackSpec)) packBackUptoCard

/-- THE SECOND FORM's CARD OF 'reportescrowlaw05.PackLimits'. -/
def packLimitsUptoCard : Claim7 := { stood := { row := packLimitsUptoRow, standIns := [], harness := (true, "09693238e0cfca4ad7ad10b405877ec332260cc1d5ab10d2d1430ab6eb6931ad"), looks := false }, kinds := [], alts := [], laidByText := true, laidKinds := [.data], laidTests := true, laidLooks := .later }
def PackLimitsUptoCardSaid : Prop := Claim7.holds Tryd.pinned (.plain (OpenSpec.upto packLimitsSpec)) packLimitsUptoCard

/-- THE SECOND FORM's CARD OF 'reportescrowlaw05.PackPads'. -/
def packPadsUptoCard : Claim7 := { stood := { row := packPadsUptoRow, standIns := [], harness := (true, "09693238e0cfca4ad7ad10b405877ec332260cc1d5ab10d2d1430ab6eb6931ad"), looks := false }, kinds := [], alts := [], laidByText := true, laidKinds := [.data, .data, .pinned], laidTests := true, laidLooks := .later }
def PackPadsUptoCardSaid : Prop := Claim7.holds Tryd.pinned (.plain (OpenSpec.upto packPadsSpec)) packPadsUptoCard

/-- THE SECOND FORM's CARD OF 'reportescrowlaw05.PackHides'. -/
def packHidesUptoCard : Claim7 := { stood := { row := packHidesUptoRow, standIns := [], harness := (true, "09693238e0cfca4ad7ad10b405877ec332260cc1d5ab10d2d1430ab6eb6931ad"), looks := false }, kinds := [], alts := [], laidByText := true, laidKinds := [.data, .data, .pinned], laidTests := true, laidLooks := .later }
def PackHidesUptoCardSaid : Prop := Claim7.holds Tryd.pinned (.plain (OpenSpec.upto packHidesSpec)) packHidesUptoCard
end Rows
end Go.Proofs.YtpbhendndelonaaDoor
