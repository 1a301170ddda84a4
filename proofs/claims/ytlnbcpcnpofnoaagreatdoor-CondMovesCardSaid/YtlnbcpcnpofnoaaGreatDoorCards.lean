/-
  DERIVED. GIVEN WITH THE SEED: THE CARDS: each row of YtlnbcpcnpofnoaaGreatDoorRows.lean that lists a variable, with what it lists TIED to the program's text (the seventh form; the later family's looks); each row that meets fmt, with fmt's text TOLD by the authors' own Lean function (tested against real Go, not proved from fmt's source: count such statements apart). THE CARD IS WHAT COUNTS. Prove the row's statement (the work); the ties are given (YtlnbcpcnpofnoaaGreatDoorTie.lean); close each card by the builder's one call (the guide's Derived/Test/ToyasCard.lean, 'card_holds'). Laid BY PROGRAM, IN A SANDBOX (cutbox-door.mjs). By AI agents, Wed Nov 11 2026. No macro, syntax, notation, axiom, sorry.
-/
import Derived.Test.YtlnbcpcnpofnoaaGreatDoorRows
import GoSem.ClaimSeven
namespace Go.Proofs.YtlnbcpcnpofnoaaGreatDoor
namespace Rows

/-- THE TIED CARD OF 'numerarylaw13.CondParses'. -/
def condParsesCard : Claim7 := { stood := { row := condParsesRow, standIns := [], harness := (true, "3379b9865544a95fb94eba8d2515c3e79eb21d557e1f68f4da41aa1e0baf3e65"), looks := true }, kinds := [], alts := [], laidByText := true, laidKinds := [.data, .data, .data, .data, .sentinel, .sentinel, .pinned], laidTests := true, laidLooks := .later }
def CondParsesCardSaid : Prop := Claim7.holds Tryz.pinned (.plain (OpenSpec.ofChange condParsesSpec)) condParsesCard

/-- THE TIED CARD OF 'numerarylaw13.CondTexts'. -/
def condTextsCard : Claim7 := { stood := { row := condTextsRow, standIns := [], harness := (true, "3379b9865544a95fb94eba8d2515c3e79eb21d557e1f68f4da41aa1e0baf3e65"), looks := true }, kinds := [], alts := [], laidByText := true, laidKinds := [.data, .data, .data, .data, .sentinel, .sentinel, .pinned], laidTests := true, laidLooks := .later }
def CondTextsCardSaid : Prop := Claim7.holds Tryz.pinned (.plain (OpenSpec.ofChange condTextsSpec)) condTextsCard

/-- THE TIED CARD OF 'numerarylaw13.CondHolds'. -/
def condHoldsCard : Claim7 := { stood := { row := condHoldsRow, standIns := [], harness := (true, "3379b9865544a95fb94eba8d2515c3e79eb21d557e1f68f4da41aa1e0baf3e65"), looks := true }, kinds := [], alts := [], laidByText := true, laidKinds := [.data, .data, .data, .data, .sentinel, .sentinel, .pinned], laidTests := true, laidLooks := .later }
def CondHoldsCardSaid : Prop := Claim7.holds Tryz.pinned (.plain (OpenSpec.ofChange condHoldsSpec)) condHoldsCard

/-- THE TIED CARD OF 'numerarylaw13.CondOne'. -/
def condOneCard : Claim7 := { stood := { row := condOneRow, standIns := [], harness := (true, "3379b9865544a95fb94eba8d2515c3e79eb21d557e1f68f4da41aa1e0baf3e65"), looks := true }, kinds := [], alts := [], laidByText := true, laidKinds := [.data, .data, .data, .data, .sentinel, .sentinel, .pinned], laidTests := true, laidLooks := .later }
def CondOneCardSaid : Prop := Claim7.holds Tryz.pinned (.plain (OpenSpec.ofChange condOneSpec)) condOneCard

/-- THE TIED CARD OF 'numerarylaw13.CondMoves'. -/
def condMovesCard : Claim7 := { stood := { row := condMovesRow, standIns := [], harness := (true, "3379b9865544a95fb94eba8d2515c3e79eb21d557e1f68f4da41aa1e0baf3e65"), looks := true }, kinds := [], alts := [], laidByText := true, laidKinds := [.data, .data, .data, .data, .sentinel, .sentinel, .pinned], laidTests := true, laidLooks := .later }
def CondMovesCardSaid : Prop := Claim7.holds Tryz.pinned (.plain (OpenSpec.ofChange condMovesSpec)) condMovesCard

/-- THE SECOND FORM's CARD OF 'numerarylaw13.CondParses'. -/
def condParsesUptoCard : Claim7 := { stood := { row := condParsesUptoRow, standIns := [], harness := (true, "3379b9865544a95fb94eba8d2515c3e79eb21d557e1f68f4da41aa1e0baf3e65"), looks := true }, kinds := [], alts := [], laidByText := true, laidKinds := [.data, .data, .data, .data, .sentinel, .sentinel, .pinned], laidTests := true, laidLooks := .later }
def CondParsesUptoCardSaid : Prop := Claim7.holds Tryz.pinned (.plain (OpenSpec.upto condParsesSpec)) condParsesUptoCard

/-- THE SECOND FORM's CARD OF 'numerarylaw13.CondTexts'. -/
def condTextsUptoCard : Claim7 := { stood := { row := condTextsUptoRow, standIns := [], harness := (true, "3379b9865544a95fb94eba8d2515c3e79eb21d557e1f68f4da41aa1e0baf3e65"), looks := true }, kinds := [], alts := [], laidByText := true, laidKinds := [.data, .data, .data, .data, .sentinel, .sentinel, .pinned], laidTests := true, laidLooks := .later }
def CondTextsUptoCardSaid : Prop := Claim7.holds Tryz.pinned (.plain (OpenSpec.upto condTextsSpec)) condTextsUptoCard

/-- THE SECOND FORM's CARD OF 'numerarylaw13.CondHolds'. -/
def condHoldsUptoCard : Claim7 := { stood := { row := condHoldsUptoRow, standIns := [], harness := (true, "3379b9865544a95fb94eba8d2515c3e79eb21d557e1f68f4da41aa1e0baf3e65"), looks := true }, kinds := [], alts := [], laidByText := true, laidKinds := [.data, .data, .data, .data, .sentinel, .sentinel, .pinned], laidTests := true, laidLooks := .later }
def CondHoldsUptoCardSaid : Prop := Claim7.holds Tryz.pinned (.plain (OpenSpec.upto condHoldsSpec)) condHoldsUptoCard

/-- THE SECOND FORM's CARD OF 'numerarylaw13.CondOne'. -/
def condOneUptoCard : Claim7 := { stood := { row := condOneUptoRow, standIns := [], harness := (true, "3379b9865544a95fb94eba8d2515c3e79eb21d557e1f68f4da41aa1e0baf3e65"), looks := true }, kinds := [], alts := [], laidByText := true, laidKinds := [.data, .data, .data, .data, .sentinel, .sentinel, .pinned], laidTests := true, laidLooks := .later }
def CondOneUptoCardSaid : Prop := Claim7.holds Tryz.pinned (.plain (OpenSpec.upto condOneSpec)) condOneUptoCard

/-- THE SECOND FORM's CARD OF 'numerarylaw13.CondMoves'. -/
def condMovesUptoCard : Claim7 := { stood := { row := condMovesUptoRow, standIns := [], harness := (true, "3379b9865544a95fb94eba8d2515c3e79eb21d557e1f68f4da41aa1e0baf3e65"), looks := true }, kinds := [], alts := [], laidByText := true, laidKinds := [.data, .data, .data, .data, .sentinel, .sentinel, .pinned], laidTests := true, laidLooks := .later }
def CondMovesUptoCardSaid : Prop := Claim7.holds Tryz.pinned (.plain (OpenSpec.upto condMovesSpec)) condMovesUptoCard
end Rows
end Go.Proofs.YtlnbcpcnpofnoaaGreatDoor
