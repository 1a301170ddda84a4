/-
  DERIVED. GIVEN WITH THE SEED: THE CARDS: each row of YtcepdndhkidehaaDoorRows.lean that lists a variable, with what it lists TIED to the program's text (the seventh form; the later family's looks); each row that meets fmt, with fmt's text TOLD by the authors' own Lean function (tested against real Go, not proved from fmt's source: count such statements apart). THE CARD IS WHAT COUNTS. Prove the row's statement (the work); the ties are given (YtcepdndhkidehaaDoorTie.lean); close each card by the builder's one call (the guide's Derived/Test/ToyasCard.lean, 'card_holds'). Laid BY PROGRAM, IN A SANDBOX (cutbox-door.mjs). By AI agents, Wed Nov 11 2026. No macro, syntax, notation, axiom, sorry.
-/
import Derived.Test.YtcepdndhkidehaaDoorRows
import GoSem.ClaimSeven
namespace Go.Proofs.YtcepdndhkidehaaDoor
namespace Rows

/-- THE TIED CARD OF 'numerarylaw05.TensPowers'. -/
def tensPowersCard : Claim7 := { stood := { row := tensPowersRow, standIns := [], harness := (true, "4080509f16c691815a11a068274942290e09a7268be87d28854b1f32f8620344"), looks := false }, kinds := [], alts := [], laidByText := true, laidKinds := [.data], laidTests := true, laidLooks := .later }
def TensPowersCardSaid : Prop := Claim7.holds Tryd.pinned (.plain (OpenSpec.ofChange tensPowersSpec)) tensPowersCard

/-- THE TIED CARD OF 'numerarylaw05.TensShifts'. -/
def tensShiftsCard : Claim7 := { stood := { row := tensShiftsRow, standIns := [], harness := (true, "4080509f16c691815a11a068274942290e09a7268be87d28854b1f32f8620344"), looks := false }, kinds := [], alts := [], laidByText := true, laidKinds := [.data], laidTests := true, laidLooks := .later }
def TensShiftsCardSaid : Prop := Claim7.holds Tryd.pinned (.plain (OpenSpec.ofChange tensShiftsSpec)) tensShiftsCard

/-- THE TIED CARD OF 'numerarylaw05.TensBack'. -/
def tensBackCard : Claim7 := { stood := { row := tensBackRow, standIns := [], harness := (true, "4080509f16c691815a11a068274942290e09a7268be87d28854b1f32f8620344"), looks := false }, kinds := [], alts := [], laidByText := true, laidKinds := [.data], laidTests := true, laidLooks := .later }
def TensBackCardSaid : Prop := Claim7.holds Tryd.pinned (.plain (OpenSpec.ofChange tensBackSpec)) tensBackCard

/-- THE TIED CARD OF 'numerarylaw05.TensBoth'. -/
def tensBothCard : Claim7 := { stood := { row := tensBothRow, standIns := [], harness := (true, "4080509f16c691815a11a068274942290e09a7268be87d28854b1f32f8620344"), looks := false }, kinds := [], alts := [], laidByText := true, laidKinds := [.data], laidTests := true, laidLooks := .later }
def TensBothCardSaid : Prop := Claim7.holds Tryd.pinned (.plain (OpenSpec.ofChange tensBothSpec)) tensBothCard

/-- THE SECOND FORM's CARD OF 'numerarylaw05.TensPowers'. -/
def tensPowersUptoCard : Claim7 := { stood := { row := tensPowersUptoRow, standIns := [], harness := (true, "4080509f16c691815a11a068274942290e09a7268be87d28854b1f32f8620344"), looks := false }, kinds := [], alts := [], laidByText := true, laidKinds := [.data], laidTests := true, laidLooks := .later }
def TensPowersUptoCardSaid : Prop := Claim7.holds Tryd.pinned (.plain (OpenSpec.upto tensPowersSpec)) tensPowersUptoCard

/-- THE SECOND FORM's CARD OF 'numerarylaw05.TensShifts'. -/
def tensShiftsUptoCard : Claim7 := { stood := { row := tensShiftsUptoRow, standIns := [], harness := (true, "4080509f16c691815a11a068274942290e09a7268be87d28854b1f32f8620344"), looks := false }, kinds := [], alts := [], laidByText := true, laidKinds := [.data], laidTests := true, laidLooks := .later }
def TensShiftsUptoCardSaid : Prop := Claim7.holds Tryd.pinned (.plain (OpenSpec.upto tensShiftsSpec)) tensShiftsUptoCard

/-- THE SECOND FORM's CARD OF 'numerarylaw05.TensBack'. -/
def tensBackUptoCard : Claim7 := { stood := { row := tensBackUptoRow, standIns := [], harness := (true, "4080509f16c691815a11a068274942290e09a7268be87d28854b1f32f8620344"), looks := false }, kinds := [], alts := [], laidByText := true, laidKinds := [.data], laidTests := true, laidLooks := .later }
def TensBackUptoCardSaid : Prop := Claim7.holds Tryd.pinned (.plain (OpenSpec.upto tensBackSpec)) tensBackUptoCard

/-- THE SECOND FORM's CARD OF 'numerarylaw05.TensBoth'. -/
def tensBothUptoCard : Claim7 := { stood := { row := tensBothUptoRow, standIns := [], harness := (true, "4080509f16c691815a11a068274942290e09a7268be87d28854b1f32f8620344"), looks := false }, kinds := [], alts := [], laidByText := true, laidKinds := [.data], laidTests := true, laidLooks := .later }
def TensBothUptoCardSaid : Prop := Claim7.holds Tryd.pinned (.plain (OpenSpec.upto tensBothSpec)) tensBothUptoCard
end Rows
end Go.Proofs.YtcepdndhkidehaaDoor
