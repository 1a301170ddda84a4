/-
  DERIVED. GIVEN WITH THE SEED: THE CARDS: each row of YtjkhkmcmnnhmcaaDoorRows.lean that lists a variable, with what it lists TIED to the program's text (the seventh form; the later family's looks); each row that meets fmt, with fmt's text TOLD by the authors' own Lean function (tested against real Go, not proved from fmt's source: count such statements apart). THE CARD IS WHAT COUNTS. Prove the row's statement (the work); the ties are given (YtjkhkmcmnnhmcaaDoorTie.lean); close each card by the builder's one call (the guide's Derived/Test/ToyasCard.lean, 'card_holds'). Laid BY PROGRAM, IN A SANDBOX (cutbox-door.mjs). By AI agents, Wed Nov 11 2026. No macro, syntax, notation, axiom, sorry.
-/
import Derived.Test.YtjkhkmcmnnhmcaaDoorRows
import GoSem.ClaimSeven
namespace Go.Proofs.YtjkhkmcmnnhmcaaDoor
namespace Rows

/-- THE TIED CARD OF 'numerarylaw08.RatioMakes'. -/
def ratioMakesCard : Claim7 := { stood := { row := ratioMakesRow, standIns := [], harness := (true, "4c84e439748241c22171f6a4f48da6ea246dbd14941fbe924f96ab9c8a21d77e"), looks := false }, kinds := [], alts := [], laidByText := true, laidKinds := [.data], laidTests := true, laidLooks := .later }
def RatioMakesCardSaid : Prop := Claim7.holds Tryd.pinned (.plain (OpenSpec.ofChange ratioMakesSpec)) ratioMakesCard

/-- THE TIED CARD OF 'numerarylaw08.RatioReckons'. -/
def ratioReckonsCard : Claim7 := { stood := { row := ratioReckonsRow, standIns := [], harness := (true, "4c84e439748241c22171f6a4f48da6ea246dbd14941fbe924f96ab9c8a21d77e"), looks := false }, kinds := [], alts := [], laidByText := true, laidKinds := [.data], laidTests := true, laidLooks := .later }
def RatioReckonsCardSaid : Prop := Claim7.holds Tryd.pinned (.plain (OpenSpec.ofChange ratioReckonsSpec)) ratioReckonsCard

/-- THE TIED CARD OF 'numerarylaw08.RatioParts'. -/
def ratioPartsCard : Claim7 := { stood := { row := ratioPartsRow, standIns := [], harness := (true, "4c84e439748241c22171f6a4f48da6ea246dbd14941fbe924f96ab9c8a21d77e"), looks := false }, kinds := [], alts := [], laidByText := true, laidKinds := [.data], laidTests := true, laidLooks := .later }
def RatioPartsCardSaid : Prop := Claim7.holds Tryd.pinned (.plain (OpenSpec.ofChange ratioPartsSpec)) ratioPartsCard

/-- THE TIED CARD OF 'numerarylaw08.RatioLaws'. -/
def ratioLawsCard : Claim7 := { stood := { row := ratioLawsRow, standIns := [], harness := (true, "4c84e439748241c22171f6a4f48da6ea246dbd14941fbe924f96ab9c8a21d77e"), looks := false }, kinds := [], alts := [], laidByText := true, laidKinds := [.data], laidTests := true, laidLooks := .later }
def RatioLawsCardSaid : Prop := Claim7.holds Tryd.pinned (.plain (OpenSpec.ofChange ratioLawsSpec)) ratioLawsCard

/-- THE TIED CARD OF 'numerarylaw25.ClockTimes'. -/
def clockTimesCard : Claim7 := { stood := { row := clockTimesRow, standIns := [], harness := (true, "4c84e439748241c22171f6a4f48da6ea246dbd14941fbe924f96ab9c8a21d77e"), looks := false }, kinds := [], alts := [], laidByText := true, laidKinds := [.data], laidTests := true, laidLooks := .later }
def ClockTimesCardSaid : Prop := Claim7.holds Tryd.pinned (.plain (OpenSpec.ofChange clockTimesSpec)) clockTimesCard

/-- THE SECOND FORM's CARD OF 'numerarylaw08.RatioMakes'. -/
def ratioMakesUptoCard : Claim7 := { stood := { row := ratioMakesUptoRow, standIns := [], harness := (true, "4c84e439748241c22171f6a4f48da6ea246dbd14941fbe924f96ab9c8a21d77e"), looks := false }, kinds := [], alts := [], laidByText := true, laidKinds := [.data], laidTests := true, laidLooks := .later }
def RatioMakesUptoCardSaid : Prop := Claim7.holds Tryd.pinned (.plain (OpenSpec.upto ratioMakesSpec)) ratioMakesUptoCard

/-- THE SECOND FORM's CARD OF 'numerarylaw08.RatioReckons'. -/
def ratioReckonsUptoCard : Claim7 := { stood := { row := ratioReckonsUptoRow, standIns := [], harness := (true, "4c84e439748241c22171f6a4f48da6ea246dbd14941fbe924f96ab9c8a21d77e"), looks := false }, kinds := [], alts := [], laidByText := true, laidKinds := [.data], laidTests := true, laidLooks := .later }
def RatioReckonsUptoCardSaid : Prop := Claim7.holds Tryd.pinned (.plain (OpenSpec.upto ratioReckonsSpec)) ratioReckonsUptoCard

/-- THE SECOND FORM's CARD OF 'numerarylaw08.RatioParts'. -/
def ratioPartsUptoCard : Claim7 := { stood := { row := ratioPartsUptoRow, standIns := [], harness := (true, "4c84e439748241c22171f6a4f48da6ea246dbd14941fbe924f96ab9c8a21d77e"), looks := false }, kinds := [], alts := [], laidByText := true, laidKinds := [.data], laidTests := true, laidLooks := .later }
def RatioPartsUptoCardSaid : Prop := Claim7.holds Tryd.pinned (.plain (OpenSpec.upto ratioPartsSpec)) ratioPartsUptoCard

/-- THE SECOND FORM's CARD OF 'numerarylaw08.RatioLaws'. -/
def ratioLawsUptoCard : Claim7 := { stood := { row := ratioLawsUptoRow, standIns := [], harness := (true, "4c84e439748241c22171f6a4f48da6ea246dbd14941fbe924f96ab9c8a21d77e"), looks := false }, kinds := [], alts := [], laidByText := true, laidKinds := [.data], laidTests := true, laidLooks := .later }
def RatioLawsUptoCardSaid : Prop := Claim7.holds Tryd.pinned (.plain (OpenSpec.upto ratioLawsSpec)) ratioLawsUptoCard

/-- THE SECOND FORM's CARD OF 'numerarylaw25.ClockTimes'. -/
def clockTimesUptoCard : Claim7 := { stood := { row := clockTimesUptoRow, standIns := [], harness := (true, "4c84e439748241c22171f6a4f48da6ea246dbd14941fbe924f96ab9c8a21d77e"), looks := false }, kinds := [], alts := [], laidByText := true, laidKinds := [.data], laidTests := true, laidLooks := .later }
def ClockTimesUptoCardSaid : Prop := Claim7.holds Tryd.pinned (.plain (OpenSpec.upto clockTimesSpec)) clockTimesUptoCard
end Rows
end Go.Proofs.YtjkhkmcmnnhmcaaDoor
