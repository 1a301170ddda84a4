/-
  DERIVED. GIVEN WITH THE SEED: THE CARDS: each row of YtbapeilokmphdaaDoorRows.lean that lists a variable, with what it lists TIED to the program's text (the seventh form; the later family's looks); each row that meets fmt, with fmt's text TOLD by the authors' own Lean function (tested against real Go, not proved from fmt's source: count such statements apart). THE CARD IS WHAT COUNTS. Prove the row's statement (the work); the ties are given (YtbapeilokmphdaaDoorTie.lean); close each card by the builder's one call (the guide's Derived/Test/ToyasCard.lean, 'card_holds'). Laid BY PROGRAM, IN A SANDBOX (cutbox-door.mjs). By AI agents, Wed Nov 11 2026. No macro, syntax, notation, axiom, sorry.
-/
import Derived.Test.YtbapeilokmphdaaDoorRows
import GoSem.ClaimSeven
namespace Go.Proofs.YtbapeilokmphdaaDoor
namespace Rows

/-- THE TIED CARD OF 'numerarylaw09.RoundNear'. -/
def roundNearCard : Claim7 := { stood := { row := roundNearRow, standIns := [], harness := (true, "db68b707bda1869da1570a73ef8846e6889281a9ec0aef722b2d60789e994ffb"), looks := true }, kinds := [], alts := [], laidByText := true, laidKinds := [.data, .data, .data, .data, .pinned], laidTests := true, laidLooks := .later }
def RoundNearCardSaid : Prop := Claim7.holds Tryd.pinned (.plain (OpenSpec.ofChange roundNearSpec)) roundNearCard

/-- THE TIED CARD OF 'numerarylaw09.RoundSteps'. -/
def roundStepsCard : Claim7 := { stood := { row := roundStepsRow, standIns := [], harness := (true, "db68b707bda1869da1570a73ef8846e6889281a9ec0aef722b2d60789e994ffb"), looks := true }, kinds := [], alts := [], laidByText := true, laidKinds := [.data, .data, .data, .data, .pinned], laidTests := true, laidLooks := .later }
def RoundStepsCardSaid : Prop := Claim7.holds Tryd.pinned (.plain (OpenSpec.ofChange roundStepsSpec)) roundStepsCard

/-- THE TIED CARD OF 'numerarylaw06.DigitsPads'. -/
def digitsPadsCard : Claim7 := { stood := { row := digitsPadsRow, standIns := [], harness := (true, "db68b707bda1869da1570a73ef8846e6889281a9ec0aef722b2d60789e994ffb"), looks := true }, kinds := [], alts := [], laidByText := true, laidKinds := [.data, .data, .data, .data, .sentinel, .sentinel, .pinned], laidTests := true, laidLooks := .later }
def DigitsPadsCardSaid : Prop := Claim7.holds Tryd.pinned (.plain (OpenSpec.ofChange digitsPadsSpec)) digitsPadsCard

/-- THE TIED CARD OF 'numerarylaw06.DigitsJoin'. -/
def digitsJoinCard : Claim7 := { stood := { row := digitsJoinRow, standIns := [], harness := (true, "db68b707bda1869da1570a73ef8846e6889281a9ec0aef722b2d60789e994ffb"), looks := true }, kinds := [], alts := [], laidByText := true, laidKinds := [.data, .data, .data, .data, .sentinel, .sentinel, .pinned], laidTests := true, laidLooks := .later }
def DigitsJoinCardSaid : Prop := Claim7.holds Tryd.pinned (.plain (OpenSpec.ofChange digitsJoinSpec)) digitsJoinCard

/-- THE SECOND FORM's CARD OF 'numerarylaw09.RoundNear'. -/
def roundNearUptoCard : Claim7 := { stood := { row := roundNearUptoRow, standIns := [], harness := (true, "db68b707bda1869da1570a73ef8846e6889281a9ec0aef722b2d60789e994ffb"), looks := true }, kinds := [], alts := [], laidByText := true, laidKinds := [.data, .data, .data, .data, .pinned], laidTests := true, laidLooks := .later }
def RoundNearUptoCardSaid : Prop := Claim7.holds Tryd.pinned (.plain (OpenSpec.upto roundNearSpec)) roundNearUptoCard

/-- THE SECOND FORM's CARD OF 'numerarylaw09.RoundSteps'. -/
def roundStepsUptoCard : Claim7 := { stood := { row := roundStepsUptoRow, standIns := [], harness := (true, "db68b707bda1869da1570a73ef8846e6889281a9ec0aef722b2d60789e994ffb"), looks := true }, kinds := [], alts := [], laidByText := true, laidKinds := [.data, .data, .data, .data, .pinned], laidTests := true, laidLooks := .later }
def RoundStepsUptoCardSaid : Prop := Claim7.holds Tryd.pinned (.plain (OpenSpec.upto roundStepsSpec)) roundStepsUptoCard

/-- THE SECOND FORM's CARD OF 'numerarylaw06.DigitsPads'. -/
def digitsPadsUptoCard : Claim7 := { stood := { row := digitsPadsUptoRow, standIns := [], harness := (true, "db68b707bda1869da1570a73ef8846e6889281a9ec0aef722b2d60789e994ffb"), looks := true }, kinds := [], alts := [], laidByText := true, laidKinds := [.data, .data, .data, .data, .sentinel, .sentinel, .pinned], laidTests := true, laidLooks := .later }
def DigitsPadsUptoCardSaid : Prop := Claim7.holds Tryd.pinned (.plain (OpenSpec.upto digitsPadsSpec)) digitsPadsUptoCard

/-- THE SECOND FORM's CARD OF 'numerarylaw06.DigitsJoin'. -/
def digitsJoinUptoCard : Claim7 := { stood := { row := digitsJoinUptoRow, standIns := [], harness := (true, "db68b707bda1869da1570a73ef8846e6889281a9ec0aef722b2d60789e994ffb"), looks := true }, kinds := [], alts := [], laidByText := true, laidKinds := [.data, .data, .data, .data, .sentinel, .sentinel, .pinned], laidTests := true, laidLooks := .later }
def DigitsJoinUptoCardSaid : Prop := Claim7.holds Tryd.pinned (.plain (OpenSpec.upto digitsJoinSpec)) digitsJoinUptoCard
end Rows
end Go.Proofs.YtbapeilokmphdaaDoor
