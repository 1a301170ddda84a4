/-
  DERIVED. GIVEN WITH THE SEED: THE CARDS: each row of YtglepnebcidjmaaGreatDoorRows.lean that lists a variable, with what it lists TIED to the program's text (the seventh form; the later family's looks); each row that meets fmt, with fmt's text TOLD by the authors' own Lean function (tested against real Go, not proved from fmt's source: count such statements apart). THE CARD IS WHAT COUNTS. Prove the row's statement (the work); the ties are given (YtglepnebcidjmaaGreatDoorTie.lean); close each card by the builder's one call (the guide's Derived/Test/ToyasCard.lean, 'card_holds'). Laid BY PROGRAM, IN A SANDBOX (cutbox-door.mjs). By AI agents, Wed Nov 11 2026. No macro, syntax, notation, axiom, sorry.
-/
import Derived.Test.YtglepnebcidjmaaGreatDoorRows
import GoSem.ClaimSeven
namespace Go.Proofs.YtglepnebcidjmaaGreatDoor
namespace Rows

/-- THE TIED CARD OF 'numerarylaw13.CondParses'. -/
def condParsesCard : Claim7 := { stood := { row := condParsesRow, standIns := [], harness := (true, "cc8a269ea549a0a38d40b9d47487dc082107a8ed6e4f619bbca2cdd235c66a02"), looks := true }, kinds := [], alts := [], laidByText := true, laidKinds := [.data, .data, .data, .data, .sentinel, .sentinel, .pinned], laidTests := true, laidLooks := .later }
def CondParsesCardSaid : Prop := Claim7.holds Tryz.pinned (.plain (OpenSpec.ofChange condParsesSpec)) condParsesCard

/-- THE TIED CARD OF 'numerarylaw13.CondTexts'. -/
def condTextsCard : Claim7 := { stood := { row := condTextsRow, standIns := [], harness := (true, "cc8a269ea549a0a38d40b9d47487dc082107a8ed6e4f619bbca2cdd235c66a02"), looks := true }, kinds := [], alts := [], laidByText := true, laidKinds := [.data, .data, .data, .data, .sentinel, .sentinel, .pinned], laidTests := true, laidLooks := .later }
def CondTextsCardSaid : Prop := Claim7.holds Tryz.pinned (.plain (OpenSpec.ofChange condTextsSpec)) condTextsCard

/-- THE TIED CARD OF 'numerarylaw13.CondHolds'. -/
def condHoldsCard : Claim7 := { stood := { row := condHoldsRow, standIns := [], harness := (true, "cc8a269ea549a0a38d40b9d47487dc082107a8ed6e4f619bbca2cdd235c66a02"), looks := true }, kinds := [], alts := [], laidByText := true, laidKinds := [.data, .data, .data, .data, .sentinel, .sentinel, .pinned], laidTests := true, laidLooks := .later }
def CondHoldsCardSaid : Prop := Claim7.holds Tryz.pinned (.plain (OpenSpec.ofChange condHoldsSpec)) condHoldsCard

/-- THE TIED CARD OF 'numerarylaw13.CondOne'. -/
def condOneCard : Claim7 := { stood := { row := condOneRow, standIns := [], harness := (true, "cc8a269ea549a0a38d40b9d47487dc082107a8ed6e4f619bbca2cdd235c66a02"), looks := true }, kinds := [], alts := [], laidByText := true, laidKinds := [.data, .data, .data, .data, .sentinel, .sentinel, .pinned], laidTests := true, laidLooks := .later }
def CondOneCardSaid : Prop := Claim7.holds Tryz.pinned (.plain (OpenSpec.ofChange condOneSpec)) condOneCard

/-- THE TIED CARD OF 'numerarylaw13.CondMoves'. -/
def condMovesCard : Claim7 := { stood := { row := condMovesRow, standIns := [], harness := (true, "cc8a269ea549a0a38d40b9d47487dc082107a8ed6e4f619bbca2cdd235c66a02"), looks := true }, kinds := [], alts := [], laidByText := true, laidKinds := [.data, .data, .data, .data, .sentinel, .sentinel, .pinned], laidTests := true, laidLooks := .later }
def CondMovesCardSaid : Prop := Claim7.holds Tryz.pinned (.plain (OpenSpec.ofChange condMovesSpec)) condMovesCard

/-- THE TIED CARD OF 'numerarylaw10.ShortDigits'. -/
def shortDigitsCard : Claim7 := { stood := { row := shortDigitsRow, standIns := [], harness := (true, "cc8a269ea549a0a38d40b9d47487dc082107a8ed6e4f619bbca2cdd235c66a02"), looks := true }, kinds := [], alts := [], laidByText := true, laidKinds := [.data, .data, .data, .data, .sentinel, .sentinel, .pinned], laidTests := true, laidLooks := .later }
def ShortDigitsCardSaid : Prop := Claim7.holds Tryz.pinned (.plain (OpenSpec.ofChange shortDigitsSpec)) shortDigitsCard

/-- THE TIED CARD OF 'numerarylaw10.ShortPlain'. -/
def shortPlainCard : Claim7 := { stood := { row := shortPlainRow, standIns := [], harness := (true, "cc8a269ea549a0a38d40b9d47487dc082107a8ed6e4f619bbca2cdd235c66a02"), looks := true }, kinds := [], alts := [], laidByText := true, laidKinds := [.data, .data, .data, .data, .sentinel, .sentinel, .pinned], laidTests := true, laidLooks := .later }
def ShortPlainCardSaid : Prop := Claim7.holds Tryz.pinned (.plain (OpenSpec.ofChange shortPlainSpec)) shortPlainCard

/-- THE TIED CARD OF 'numerarylaw10.ShortBack'. -/
def shortBackCard : Claim7 := { stood := { row := shortBackRow, standIns := [], harness := (true, "cc8a269ea549a0a38d40b9d47487dc082107a8ed6e4f619bbca2cdd235c66a02"), looks := true }, kinds := [], alts := [], laidByText := true, laidKinds := [.data, .data, .data, .data, .sentinel, .sentinel, .pinned], laidTests := true, laidLooks := .later }
def ShortBackCardSaid : Prop := Claim7.holds Tryz.pinned (.plain (OpenSpec.ofChange shortBackSpec)) shortBackCard

/-- THE TIED CARD OF 'numerarylaw10.ShortNear'. -/
def shortNearCard : Claim7 := { stood := { row := shortNearRow, standIns := [], harness := (true, "cc8a269ea549a0a38d40b9d47487dc082107a8ed6e4f619bbca2cdd235c66a02"), looks := true }, kinds := [], alts := [], laidByText := true, laidKinds := [.data, .data, .data, .data, .sentinel, .sentinel, .pinned], laidTests := true, laidLooks := .later }
def ShortNearCardSaid : Prop := Claim7.holds Tryz.pinned (.plain (OpenSpec.ofChange shortNearSpec)) shortNearCard

/-- THE TIED CARD OF 'numerarylaw10.ShortLess'. -/
def shortLessCard : Claim7 := { stood := { row := shortLessRow, standIns := [], harness := (true, "cc8a269ea549a0a38d40b9d47487dc082107a8ed6e4f619bbca2cdd235c66a02"), looks := true }, kinds := [], alts := [], laidByText := true, laidKinds := [.data, .data, .data, .data, .sentinel, .sentinel, .pinned], laidTests := true, laidLooks := .later }
def ShortLessCardSaid : Prop := Claim7.holds Tryz.pinned (.plain (OpenSpec.ofChange shortLessSpec)) shortLessCard

/-- THE SECOND FORM's CARD OF 'numerarylaw13.CondParses'. -/
def condParsesUptoCard : Claim7 := { stood := { row := condParsesUptoRow, standIns := [], harness := (true, "cc8a269ea549a0a38d40b9d47487dc082107a8ed6e4f619bbca2cdd235c66a02"), looks := true }, kinds := [], alts := [], laidByText := true, laidKinds := [.data, .data, .data, .data, .sentinel, .sentinel, .pinned], laidTests := true, laidLooks := .later }
def CondParsesUptoCardSaid : Prop := Claim7.holds Tryz.pinned (.plain (OpenSpec.upto condParsesSpec)) condParsesUptoCard

/-- THE SECOND FORM's CARD OF 'numerarylaw13.CondTexts'. -/
def condTextsUptoCard : Claim7 := { stood := { row := condTextsUptoRow, standIns := [], harness := (true, "cc8a269ea549a0a38d40b9d47487dc082107a8ed6e4f619bbca2cdd235c66a02"), looks := true }, kinds := [], alts := [], laidByText := true, laidKinds := [.data, .data, .data, .data, .sentinel, .sentinel, .pinned], laidTests := true, laidLooks := .later }
def CondTextsUptoCardSaid : Prop := Claim7.holds Tryz.pinned (.plain (OpenSpec.upto condTextsSpec)) condTextsUptoCard

/-- THE SECOND FORM's CARD OF 'numerarylaw13.CondHolds'. -/
def condHoldsUptoCard : Claim7 := { stood := { row := condHoldsUptoRow, standIns := [], harness := (true, "cc8a269ea549a0a38d40b9d47487dc082107a8ed6e4f619bbca2cdd235c66a02"), looks := true }, kinds := [], alts := [], laidByText := true, laidKinds := [.data, .data, .data, .data, .sentinel, .sentinel, .pinned], laidTests := true, laidLooks := .later }
def CondHoldsUptoCardSaid : Prop := Claim7.holds Tryz.pinned (.plain (OpenSpec.upto condHoldsSpec)) condHoldsUptoCard

/-- THE SECOND FORM's CARD OF 'numerarylaw13.CondOne'. -/
def condOneUptoCard : Claim7 := { stood := { row := condOneUptoRow, standIns := [], harness := (true, "cc8a269ea549a0a38d40b9d47487dc082107a8ed6e4f619bbca2cdd235c66a02"), looks := true }, kinds := [], alts := [], laidByText := true, laidKinds := [.data, .data, .data, .data, .sentinel, .sentinel, .pinned], laidTests := true, laidLooks := .later }
def CondOneUptoCardSaid : Prop := Claim7.holds Tryz.pinned (.plain (OpenSpec.upto condOneSpec)) condOneUptoCard

/-- THE SECOND FORM's CARD OF 'numerarylaw13.CondMoves'. -/
def condMovesUptoCard : Claim7 := { stood := { row := condMovesUptoRow, standIns := [], harness := (true, "cc8a269ea549a0a38d40b9d47487dc082107a8ed6e4f619bbca2cdd235c66a02"), looks := true }, kinds := [], alts := [], laidByText := true, laidKinds := [.data, .data, .data, .data, .sentinel, .sentinel, .pinned], laidTests := true, laidLooks := .later }
def CondMovesUptoCardSaid : Prop := Claim7.holds Tryz.pinned (.plain (OpenSpec.upto condMovesSpec)) condMovesUptoCard

/-- THE SECOND FORM's CARD OF 'numerarylaw10.ShortDigits'. -/
def shortDigitsUptoCard : Claim7 := { stood := { row := shortDigitsUptoRow, standIns := [], harness := (true, "cc8a269ea549a0a38d40b9d47487dc082107a8ed6e4f619bbca2cdd235c66a02"), looks := true }, kinds := [], alts := [], laidByText := true, laidKinds := [.data, .data, .data, .data, .sentinel, .sentinel, .pinned], laidTests := true, laidLooks := .later }
def ShortDigitsUptoCardSaid : Prop := Claim7.holds Tryz.pinned (.plain (OpenSpec.upto shortDigitsSpec)) shortDigitsUptoCard

/-- THE SECOND FORM's CARD OF 'numerarylaw10.ShortPlain'. -/
def shortPlainUptoCard : Claim7 := { stood := { row := shortPlainUptoRow, standIns := [], harness := (true, "cc8a269ea549a0a38d40b9d47487dc082107a8ed6e4f619bbca2cdd235c66a02"), looks := true }, kinds := [], alts := [], laidByText := true, laidKinds := [.data, .data, .data, .data, .sentinel, .sentinel, .pinned], laidTests := true, laidLooks := .later }
def ShortPlainUptoCardSaid : Prop := Claim7.holds Tryz.pinned (.plain (OpenSpec.upto shortPlainSpec)) shortPlainUptoCard

/-- THE SECOND FORM's CARD OF 'numerarylaw10.ShortBack'. -/
def shortBackUptoCard : Claim7 := { stood := { row := shortBackUptoRow, standIns := [], harness := (true, "cc8a269ea549a0a38d40b9d47487dc082107a8ed6e4f619bbca2cdd235c66a02"), looks := true }, kinds := [], alts := [], laidByText := true, laidKinds := [.data, .data, .data, .data, .sentinel, .sentinel, .pinned], laidTests := true, laidLooks := .later }
def ShortBackUptoCardSaid : Prop := Claim7.holds Tryz.pinned (.plain (OpenSpec.upto shortBackSpec)) shortBackUptoCard

/-- THE SECOND FORM's CARD OF 'numerarylaw10.ShortNear'. -/
def shortNearUptoCard : Claim7 := { stood := { row := shortNearUptoRow, standIns := [], harness := (true, "cc8a269ea549a0a38d40b9d47487dc082107a8ed6e4f619bbca2cdd235c66a02"), looks := true }, kinds := [], alts := [], laidByText := true, laidKinds := [.data, .data, .data, .data, .sentinel, .sentinel, .pinned], laidTests := true, laidLooks := .later }
def ShortNearUptoCardSaid : Prop := Claim7.holds Tryz.pinned (.plain (OpenSpec.upto shortNearSpec)) shortNearUptoCard

/-- THE SECOND FORM's CARD OF 'numerarylaw10.ShortLess'. -/
def shortLessUptoCard : Claim7 := { stood := { row := shortLessUptoRow, standIns := [], harness := (true, "cc8a269ea549a0a38d40b9d47487dc082107a8ed6e4f619bbca2cdd235c66a02"), looks := true }, kinds := [], alts := [], laidByText := true, laidKinds := [.data, .data, .data, .data, .sentinel, .sentinel, .pinned], laidTests := true, laidLooks := .later }
def ShortLessUptoCardSaid : Prop := Claim7.holds Tryz.pinned (.plain (OpenSpec.upto shortLessSpec)) shortLessUptoCard
end Rows
end Go.Proofs.YtglepnebcidjmaaGreatDoor
