/-
  DERIVED. GIVEN WITH THE SEED: THE CARDS: each row of YtbapeilokmphdaaGreatDoorRows.lean that lists a variable, with what it lists TIED to the program's text (the seventh form; the later family's looks); each row that meets fmt, with fmt's text TOLD by the authors' own Lean function (tested against real Go, not proved from fmt's source: count such statements apart). THE CARD IS WHAT COUNTS. Prove the row's statement (the work); the ties are given (YtbapeilokmphdaaGreatDoorTie.lean); close each card by the builder's one call (the guide's Derived/Test/ToyasCard.lean, 'card_holds'). Laid BY PROGRAM, IN A SANDBOX (cutbox-door.mjs). By AI agents, Wed Nov 11 2026. No macro, syntax, notation, axiom, sorry.
-/
import Derived.Test.YtbapeilokmphdaaGreatDoorRows
import GoSem.ClaimSeven
namespace Go.Proofs.YtbapeilokmphdaaGreatDoor
namespace Rows

/-- THE TIED CARD OF 'numerarylaw21.GeneralOrder'. -/
def generalOrderCard : Claim7 := { stood := { row := generalOrderRow, standIns := [], harness := (true, "dd43ff39a1842963160e31ccb223fef3ddea8ea525190e8b9ccc6b58fe9aaa14"), looks := true }, kinds := [], alts := [], laidByText := true, laidKinds := [.data, .data, .data, .data, .sentinel, .sentinel, .pinned], laidTests := true, laidLooks := .later }
def GeneralOrderCardSaid : Prop := Claim7.holds Tryz.pinned (.plain (OpenSpec.ofChange generalOrderSpec)) generalOrderCard

/-- THE TIED CARD OF 'numerarylaw21.GeneralShort'. -/
def generalShortCard : Claim7 := { stood := { row := generalShortRow, standIns := [], harness := (true, "dd43ff39a1842963160e31ccb223fef3ddea8ea525190e8b9ccc6b58fe9aaa14"), looks := true }, kinds := [], alts := [], laidByText := true, laidKinds := [.data, .data, .data, .data, .sentinel, .sentinel, .pinned], laidTests := true, laidLooks := .later }
def GeneralShortCardSaid : Prop := Claim7.holds Tryz.pinned (.plain (OpenSpec.ofChange generalShortSpec)) generalShortCard

/-- THE TIED CARD OF 'numerarylaw09.RoundAt'. -/
def roundAtCard : Claim7 := { stood := { row := roundAtRow, standIns := [], harness := (true, "dd43ff39a1842963160e31ccb223fef3ddea8ea525190e8b9ccc6b58fe9aaa14"), looks := true }, kinds := [], alts := [], laidByText := true, laidKinds := [.data, .data, .data, .data, .pinned], laidTests := true, laidLooks := .later }
def RoundAtCardSaid : Prop := Claim7.holds Tryz.pinned (.plain (OpenSpec.ofChange roundAtSpec)) roundAtCard

/-- THE TIED CARD OF 'numerarylaw09.RoundTo'. -/
def roundToCard : Claim7 := { stood := { row := roundToRow, standIns := [], harness := (true, "dd43ff39a1842963160e31ccb223fef3ddea8ea525190e8b9ccc6b58fe9aaa14"), looks := true }, kinds := [], alts := [], laidByText := true, laidKinds := [.data, .data, .data, .data, .pinned], laidTests := true, laidLooks := .later }
def RoundToCardSaid : Prop := Claim7.holds Tryz.pinned (.plain (OpenSpec.ofChange roundToSpec)) roundToCard

/-- THE TIED CARD OF 'numerarylaw09.RoundTwice'. -/
def roundTwiceCard : Claim7 := { stood := { row := roundTwiceRow, standIns := [], harness := (true, "dd43ff39a1842963160e31ccb223fef3ddea8ea525190e8b9ccc6b58fe9aaa14"), looks := true }, kinds := [], alts := [], laidByText := true, laidKinds := [.data, .data, .data, .data, .pinned], laidTests := true, laidLooks := .later }
def RoundTwiceCardSaid : Prop := Claim7.holds Tryz.pinned (.plain (OpenSpec.ofChange roundTwiceSpec)) roundTwiceCard

/-- THE TIED CARD OF 'numerarylaw06.DigitsTexts'. -/
def digitsTextsCard : Claim7 := { stood := { row := digitsTextsRow, standIns := [], harness := (true, "dd43ff39a1842963160e31ccb223fef3ddea8ea525190e8b9ccc6b58fe9aaa14"), looks := true }, kinds := [], alts := [], laidByText := true, laidKinds := [.data, .data, .data, .data, .sentinel, .sentinel, .pinned], laidTests := true, laidLooks := .later }
def DigitsTextsCardSaid : Prop := Claim7.holds Tryz.pinned (.plain (OpenSpec.ofChange digitsTextsSpec)) digitsTextsCard

/-- THE TIED CARD OF 'numerarylaw06.DigitsParses'. -/
def digitsParsesCard : Claim7 := { stood := { row := digitsParsesRow, standIns := [], harness := (true, "dd43ff39a1842963160e31ccb223fef3ddea8ea525190e8b9ccc6b58fe9aaa14"), looks := true }, kinds := [], alts := [], laidByText := true, laidKinds := [.data, .data, .data, .data, .sentinel, .sentinel, .pinned], laidTests := true, laidLooks := .later }
def DigitsParsesCardSaid : Prop := Claim7.holds Tryz.pinned (.plain (OpenSpec.ofChange digitsParsesSpec)) digitsParsesCard

/-- THE TIED CARD OF 'numerarylaw06.DigitsBack'. -/
def digitsBackCard : Claim7 := { stood := { row := digitsBackRow, standIns := [], harness := (true, "dd43ff39a1842963160e31ccb223fef3ddea8ea525190e8b9ccc6b58fe9aaa14"), looks := true }, kinds := [], alts := [], laidByText := true, laidKinds := [.data, .data, .data, .data, .sentinel, .sentinel, .pinned], laidTests := true, laidLooks := .later }
def DigitsBackCardSaid : Prop := Claim7.holds Tryz.pinned (.plain (OpenSpec.ofChange digitsBackSpec)) digitsBackCard

/-- THE TIED CARD OF 'numerarylaw21.GeneralValues'. -/
def generalValuesCard : Claim7 := { stood := { row := generalValuesRow, standIns := [], harness := (true, "dd43ff39a1842963160e31ccb223fef3ddea8ea525190e8b9ccc6b58fe9aaa14"), looks := true }, kinds := [], alts := [], laidByText := true, laidKinds := [.data, .data, .data, .data, .pinned], laidTests := true, laidLooks := .later }
def GeneralValuesCardSaid : Prop := Claim7.holds Tryz.pinned (.plain (OpenSpec.ofChange generalValuesSpec)) generalValuesCard

/-- THE TIED CARD OF 'numerarylaw21.GeneralTrim'. -/
def generalTrimCard : Claim7 := { stood := { row := generalTrimRow, standIns := [], harness := (true, "dd43ff39a1842963160e31ccb223fef3ddea8ea525190e8b9ccc6b58fe9aaa14"), looks := true }, kinds := [], alts := [], laidByText := true, laidKinds := [.data, .data, .data, .data, .pinned], laidTests := true, laidLooks := .later }
def GeneralTrimCardSaid : Prop := Claim7.holds Tryz.pinned (.plain (OpenSpec.ofChange generalTrimSpec)) generalTrimCard

/-- THE TIED CARD OF 'numerarylaw21.GeneralDecimals'. -/
def generalDecimalsCard : Claim7 := { stood := { row := generalDecimalsRow, standIns := [], harness := (true, "dd43ff39a1842963160e31ccb223fef3ddea8ea525190e8b9ccc6b58fe9aaa14"), looks := true }, kinds := [], alts := [], laidByText := true, laidKinds := [.data, .data, .data, .data, .sentinel, .sentinel, .pinned], laidTests := true, laidLooks := .later }
def GeneralDecimalsCardSaid : Prop := Claim7.holds Tryz.pinned (.plain (OpenSpec.ofChange generalDecimalsSpec)) generalDecimalsCard

/-- THE SECOND FORM's CARD OF 'numerarylaw21.GeneralOrder'. -/
def generalOrderUptoCard : Claim7 := { stood := { row := generalOrderUptoRow, standIns := [], harness := (true, "dd43ff39a1842963160e31ccb223fef3ddea8ea525190e8b9ccc6b58fe9aaa14"), looks := true }, kinds := [], alts := [], laidByText := true, laidKinds := [.data, .data, .data, .data, .sentinel, .sentinel, .pinned], laidTests := true, laidLooks := .later }
def GeneralOrderUptoCardSaid : Prop := Claim7.holds Tryz.pinned (.plain (OpenSpec.upto generalOrderSpec)) generalOrderUptoCard

/-- THE SECOND FORM's CARD OF 'numerarylaw21.GeneralShort'. -/
def generalShortUptoCard : Claim7 := { stood := { row := generalShortUptoRow, standIns := [], harness := (true, "dd43ff39a1842963160e31ccb223fef3ddea8ea525190e8b9ccc6b58fe9aaa14"), looks := true }, kinds := [], alts := [], laidByText := true, laidKinds := [.data, .data, .data, .data, .sentinel, .sentinel, .pinned], laidTests := true, laidLooks := .later }
def GeneralShortUptoCardSaid : Prop := Claim7.holds Tryz.pinned (.plain (OpenSpec.upto generalShortSpec)) generalShortUptoCard

/-- THE SECOND FORM's CARD OF 'numerarylaw09.RoundAt'. -/
def roundAtUptoCard : Claim7 := { stood := { row := roundAtUptoRow, standIns := [], harness := (true, "dd43ff39a1842963160e31ccb223fef3ddea8ea525190e8b9ccc6b58fe9aaa14"), looks := true }, kinds := [], alts := [], laidByText := true, laidKinds := [.data, .data, .data, .data, .pinned], laidTests := true, laidLooks := .later }
def RoundAtUptoCardSaid : Prop := Claim7.holds Tryz.pinned (.plain (OpenSpec.upto roundAtSpec)) roundAtUptoCard

/-- THE SECOND FORM's CARD OF 'numerarylaw09.RoundTo'. -/
def roundToUptoCard : Claim7 := { stood := { row := roundToUptoRow, standIns := [], harness := (true, "dd43ff39a1842963160e31ccb223fef3ddea8ea525190e8b9ccc6b58fe9aaa14"), looks := true }, kinds := [], alts := [], laidByText := true, laidKinds := [.data, .data, .data, .data, .pinned], laidTests := true, laidLooks := .later }
def RoundToUptoCardSaid : Prop := Claim7.holds Tryz.pinned (.plain (OpenSpec.upto roundToSpec)) roundToUptoCard

/-- THE SECOND FORM's CARD OF 'numerarylaw09.RoundTwice'. -/
def roundTwiceUptoCard : Claim7 := { stood := { row := roundTwiceUptoRow, standIns := [], harness := (true, "dd43ff39a1842963160e31ccb223fef3ddea8ea525190e8b9ccc6b58fe9aaa14"), looks := true }, kinds := [], alts := [], laidByText := true, laidKinds := [.data, .data, .data, .data, .pinned], laidTests := true, laidLooks := .later }
def RoundTwiceUptoCardSaid : Prop := Claim7.holds Tryz.pinned (.plain (OpenSpec.upto roundTwiceSpec)) roundTwiceUptoCard

/-- THE SECOND FORM's CARD OF 'numerarylaw06.DigitsTexts'. -/
def digitsTextsUptoCard : Claim7 := { stood := { row := digitsTextsUptoRow, standIns := [], harness := (true, "dd43ff39a1842963160e31ccb223fef3ddea8ea525190e8b9ccc6b58fe9aaa14"), looks := true }, kinds := [], alts := [], laidByText := true, laidKinds := [.data, .data, .data, .data, .sentinel, .sentinel, .pinned], laidTests := true, laidLooks := .later }
def DigitsTextsUptoCardSaid : Prop := Claim7.holds Tryz.pinned (.plain (OpenSpec.upto digitsTextsSpec)) digitsTextsUptoCard

/-- THE SECOND FORM's CARD OF 'numerarylaw06.DigitsParses'. -/
def digitsParsesUptoCard : Claim7 := { stood := { row := digitsParsesUptoRow, standIns := [], harness := (true, "dd43ff39a1842963160e31ccb223fef3ddea8ea525190e8b9ccc6b58fe9aaa14"), looks := true }, kinds := [], alts := [], laidByText := true, laidKinds := [.data, .data, .data, .data, .sentinel, .sentinel, .pinned], laidTests := true, laidLooks := .later }
def DigitsParsesUptoCardSaid : Prop := Claim7.holds Tryz.pinned (.plain (OpenSpec.upto digitsParsesSpec)) digitsParsesUptoCard

/-- THE SECOND FORM's CARD OF 'numerarylaw06.DigitsBack'. -/
def digitsBackUptoCard : Claim7 := { stood := { row := digitsBackUptoRow, standIns := [], harness := (true, "dd43ff39a1842963160e31ccb223fef3ddea8ea525190e8b9ccc6b58fe9aaa14"), looks := true }, kinds := [], alts := [], laidByText := true, laidKinds := [.data, .data, .data, .data, .sentinel, .sentinel, .pinned], laidTests := true, laidLooks := .later }
def DigitsBackUptoCardSaid : Prop := Claim7.holds Tryz.pinned (.plain (OpenSpec.upto digitsBackSpec)) digitsBackUptoCard

/-- THE SECOND FORM's CARD OF 'numerarylaw21.GeneralValues'. -/
def generalValuesUptoCard : Claim7 := { stood := { row := generalValuesUptoRow, standIns := [], harness := (true, "dd43ff39a1842963160e31ccb223fef3ddea8ea525190e8b9ccc6b58fe9aaa14"), looks := true }, kinds := [], alts := [], laidByText := true, laidKinds := [.data, .data, .data, .data, .pinned], laidTests := true, laidLooks := .later }
def GeneralValuesUptoCardSaid : Prop := Claim7.holds Tryz.pinned (.plain (OpenSpec.upto generalValuesSpec)) generalValuesUptoCard

/-- THE SECOND FORM's CARD OF 'numerarylaw21.GeneralTrim'. -/
def generalTrimUptoCard : Claim7 := { stood := { row := generalTrimUptoRow, standIns := [], harness := (true, "dd43ff39a1842963160e31ccb223fef3ddea8ea525190e8b9ccc6b58fe9aaa14"), looks := true }, kinds := [], alts := [], laidByText := true, laidKinds := [.data, .data, .data, .data, .pinned], laidTests := true, laidLooks := .later }
def GeneralTrimUptoCardSaid : Prop := Claim7.holds Tryz.pinned (.plain (OpenSpec.upto generalTrimSpec)) generalTrimUptoCard

/-- THE SECOND FORM's CARD OF 'numerarylaw21.GeneralDecimals'. -/
def generalDecimalsUptoCard : Claim7 := { stood := { row := generalDecimalsUptoRow, standIns := [], harness := (true, "dd43ff39a1842963160e31ccb223fef3ddea8ea525190e8b9ccc6b58fe9aaa14"), looks := true }, kinds := [], alts := [], laidByText := true, laidKinds := [.data, .data, .data, .data, .sentinel, .sentinel, .pinned], laidTests := true, laidLooks := .later }
def GeneralDecimalsUptoCardSaid : Prop := Claim7.holds Tryz.pinned (.plain (OpenSpec.upto generalDecimalsSpec)) generalDecimalsUptoCard
end Rows
end Go.Proofs.YtbapeilokmphdaaGreatDoor
