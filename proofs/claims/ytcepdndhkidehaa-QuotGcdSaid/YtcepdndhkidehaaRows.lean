/-
  No cell of these rows narrows 'for every input' (looked for: loops, veiled, ifaces, maps, wideKeys, modest, calm, conditions, laid).
  DERIVED. THE GIVEN ROWS OF THIS SEAT. 13 by the template 'for every input the law returns true; each argument reads behind the call as it read before'; 0 by the template 'total and deterministic' (their statements: YtcepdndhkidehaaTotals.lean).
  GIVEN WITH THE SEED: the statements are not yours to turn. If you find one false, say at which input.
  Laid BY PROGRAM, IN A SANDBOX (cutbox-rows.mjs): the forced cells as the released guide's own fill.sh prints them over the translation 109a071cbddf0b44… (all of the seat's roots in one cut). By AI agents, Wed Nov 11 2026. No macro, syntax, notation, axiom, sorry.
-/
import Derived.Test.YtcepdndhkidehaaChecked
import GoSem.Claim
import GoSem.ClaimJoined
import GoSem.ClaimMapViews
import Derived.JoinedTies
import Derived.KernelRfl
namespace Go.Proofs.Ytcepdndhkidehaa
/- THE CELL 'sum', in the pinned program and in every row, IS THE sha256 OF THE DUMP (.gsa) THAT YtcepdndhkidehaaProg.lean LOADS. Nothing in Lean hashes anything: it is a label: what it is worth is what the hold of that sum in a sandbox is worth. -/
noncomputable def Try.pinned : Pinned := { name := "ytcepdndhkidehaa", sum := "109a071cbddf0b44e1887d87278107ee5c70928691ec66ef773ddeecd6e130ae", checked := Try.checked }
namespace Rows
def none {H : Type} : Left H := { results := [], args := [] }

/-- 'numerarylaw03.TimesMul': WHATEVER THE INPUT: true; the input reads as it did. -/
def timesMulSpec : ChangeSpec := { name := "timesMul", fn := fun _ => fun
  | [d1, d2, d3] => { results := [.lit (.bool true)], args := [d1, d2, d3] }
  | _ => none }
def timesMulRow : OpenClaim := { program := "ytcepdndhkidehaa", sum := "109a071cbddf0b44e1887d87278107ee5c70928691ec66ef773ddeecd6e130ae", func := "numerary/numerarylaw03.TimesMul", spec := "timesMul", apart := false }
def TimesMulSaid : Prop := timesMulRow.holds Try.pinned (OpenSpec.ofChange timesMulSpec)

/-- ITS FALSE NEIGHBOUR: 'it returns false'. Refute it at one input. -/
def timesMulWrong : ChangeSpec := { name := "timesMul", fn := fun _ => fun
  | [d1, d2, d3] => { results := [.lit (.bool false)], args := [d1, d2, d3] }
  | _ => none }
def TimesMulWrongFalsely : Prop := timesMulRow.holds Try.pinned (OpenSpec.ofChange timesMulWrong)

/-- 'numerarylaw03.TimesPow': WHATEVER THE INPUT: true; the input reads as it did. -/
def timesPowSpec : ChangeSpec := { name := "timesPow", fn := fun _ => fun
  | [d1, d2] => { results := [.lit (.bool true)], args := [d1, d2] }
  | _ => none }
def timesPowRow : OpenClaim := { program := "ytcepdndhkidehaa", sum := "109a071cbddf0b44e1887d87278107ee5c70928691ec66ef773ddeecd6e130ae", func := "numerary/numerarylaw03.TimesPow", spec := "timesPow", apart := false }
def TimesPowSaid : Prop := timesPowRow.holds Try.pinned (OpenSpec.ofChange timesPowSpec)

/-- ITS FALSE NEIGHBOUR: 'it returns false'. Refute it at one input. -/
def timesPowWrong : ChangeSpec := { name := "timesPow", fn := fun _ => fun
  | [d1, d2] => { results := [.lit (.bool false)], args := [d1, d2] }
  | _ => none }
def TimesPowWrongFalsely : Prop := timesPowRow.holds Try.pinned (OpenSpec.ofChange timesPowWrong)

/-- 'numerarylaw02.NatMakes': WHATEVER THE INPUT: true; the input reads as it did. -/
def natMakesSpec : ChangeSpec := { name := "natMakes", fn := fun _ => fun
  | [d1, d2] => { results := [.lit (.bool true)], args := [d1, d2] }
  | _ => none }
def natMakesRow : OpenClaim := { program := "ytcepdndhkidehaa", sum := "109a071cbddf0b44e1887d87278107ee5c70928691ec66ef773ddeecd6e130ae", func := "numerary/numerarylaw02.NatMakes", spec := "natMakes", apart := false }
def NatMakesSaid : Prop := natMakesRow.holds Try.pinned (OpenSpec.ofChange natMakesSpec)

/-- ITS FALSE NEIGHBOUR: 'it returns false'. Refute it at one input. -/
def natMakesWrong : ChangeSpec := { name := "natMakes", fn := fun _ => fun
  | [d1, d2] => { results := [.lit (.bool false)], args := [d1, d2] }
  | _ => none }
def NatMakesWrongFalsely : Prop := natMakesRow.holds Try.pinned (OpenSpec.ofChange natMakesWrong)

/-- 'numerarylaw02.NatAdds': WHATEVER THE INPUT: true; the input reads as it did. -/
def natAddsSpec : ChangeSpec := { name := "natAdds", fn := fun _ => fun
  | [d1, d2] => { results := [.lit (.bool true)], args := [d1, d2] }
  | _ => none }
def natAddsRow : OpenClaim := { program := "ytcepdndhkidehaa", sum := "109a071cbddf0b44e1887d87278107ee5c70928691ec66ef773ddeecd6e130ae", func := "numerary/numerarylaw02.NatAdds", spec := "natAdds", apart := false }
def NatAddsSaid : Prop := natAddsRow.holds Try.pinned (OpenSpec.ofChange natAddsSpec)

/-- ITS FALSE NEIGHBOUR: 'it returns false'. Refute it at one input. -/
def natAddsWrong : ChangeSpec := { name := "natAdds", fn := fun _ => fun
  | [d1, d2] => { results := [.lit (.bool false)], args := [d1, d2] }
  | _ => none }
def NatAddsWrongFalsely : Prop := natAddsRow.holds Try.pinned (OpenSpec.ofChange natAddsWrong)

/-- 'numerarylaw02.NatBack': WHATEVER THE INPUT: true; the input reads as it did. -/
def natBackSpec : ChangeSpec := { name := "natBack", fn := fun _ => fun
  | [d1, d2, d3] => { results := [.lit (.bool true)], args := [d1, d2, d3] }
  | _ => none }
def natBackRow : OpenClaim := { program := "ytcepdndhkidehaa", sum := "109a071cbddf0b44e1887d87278107ee5c70928691ec66ef773ddeecd6e130ae", func := "numerary/numerarylaw02.NatBack", spec := "natBack", apart := false }
def NatBackSaid : Prop := natBackRow.holds Try.pinned (OpenSpec.ofChange natBackSpec)

/-- ITS FALSE NEIGHBOUR: 'it returns false'. Refute it at one input. -/
def natBackWrong : ChangeSpec := { name := "natBack", fn := fun _ => fun
  | [d1, d2, d3] => { results := [.lit (.bool false)], args := [d1, d2, d3] }
  | _ => none }
def NatBackWrongFalsely : Prop := natBackRow.holds Try.pinned (OpenSpec.ofChange natBackWrong)

/-- 'numerarylaw02.NatKeeps': WHATEVER THE INPUT: true; the input reads as it did. -/
def natKeepsSpec : ChangeSpec := { name := "natKeeps", fn := fun _ => fun
  | [d1, d2, d3] => { results := [.lit (.bool true)], args := [d1, d2, d3] }
  | _ => none }
def natKeepsRow : OpenClaim := { program := "ytcepdndhkidehaa", sum := "109a071cbddf0b44e1887d87278107ee5c70928691ec66ef773ddeecd6e130ae", func := "numerary/numerarylaw02.NatKeeps", spec := "natKeeps", apart := false }
def NatKeepsSaid : Prop := natKeepsRow.holds Try.pinned (OpenSpec.ofChange natKeepsSpec)

/-- ITS FALSE NEIGHBOUR: 'it returns false'. Refute it at one input. -/
def natKeepsWrong : ChangeSpec := { name := "natKeeps", fn := fun _ => fun
  | [d1, d2, d3] => { results := [.lit (.bool false)], args := [d1, d2, d3] }
  | _ => none }
def NatKeepsWrongFalsely : Prop := natKeepsRow.holds Try.pinned (OpenSpec.ofChange natKeepsWrong)

/-- 'numerarylaw02.NatOrder': WHATEVER THE INPUT: true; the input reads as it did. -/
def natOrderSpec : ChangeSpec := { name := "natOrder", fn := fun _ => fun
  | [d1, d2, d3] => { results := [.lit (.bool true)], args := [d1, d2, d3] }
  | _ => none }
def natOrderRow : OpenClaim := { program := "ytcepdndhkidehaa", sum := "109a071cbddf0b44e1887d87278107ee5c70928691ec66ef773ddeecd6e130ae", func := "numerary/numerarylaw02.NatOrder", spec := "natOrder", apart := false }
def NatOrderSaid : Prop := natOrderRow.holds Try.pinned (OpenSpec.ofChange natOrderSpec)

/-- ITS FALSE NEIGHBOUR: 'it returns false'. Refute it at one input. -/
def natOrderWrong : ChangeSpec := { name := "natOrder", fn := fun _ => fun
  | [d1, d2, d3] => { results := [.lit (.bool false)], args := [d1, d2, d3] }
  | _ => none }
def NatOrderWrongFalsely : Prop := natOrderRow.holds Try.pinned (OpenSpec.ofChange natOrderWrong)

/-- 'numerarylaw03.TimesLaws': WHATEVER THE INPUT: true; the input reads as it did. -/
def timesLawsSpec : ChangeSpec := { name := "timesLaws", fn := fun _ => fun
  | [d1, d2, d3] => { results := [.lit (.bool true)], args := [d1, d2, d3] }
  | _ => none }
def timesLawsRow : OpenClaim := { program := "ytcepdndhkidehaa", sum := "109a071cbddf0b44e1887d87278107ee5c70928691ec66ef773ddeecd6e130ae", func := "numerary/numerarylaw03.TimesLaws", spec := "timesLaws", apart := false }
def TimesLawsSaid : Prop := timesLawsRow.holds Try.pinned (OpenSpec.ofChange timesLawsSpec)

/-- ITS FALSE NEIGHBOUR: 'it returns false'. Refute it at one input. -/
def timesLawsWrong : ChangeSpec := { name := "timesLaws", fn := fun _ => fun
  | [d1, d2, d3] => { results := [.lit (.bool false)], args := [d1, d2, d3] }
  | _ => none }
def TimesLawsWrongFalsely : Prop := timesLawsRow.holds Try.pinned (OpenSpec.ofChange timesLawsWrong)

/-- 'numerarylaw03.TimesSquares': WHATEVER THE INPUT: true; the input reads as it did. -/
def timesSquaresSpec : ChangeSpec := { name := "timesSquares", fn := fun _ => fun
  | [d1, d2] => { results := [.lit (.bool true)], args := [d1, d2] }
  | _ => none }
def timesSquaresRow : OpenClaim := { program := "ytcepdndhkidehaa", sum := "109a071cbddf0b44e1887d87278107ee5c70928691ec66ef773ddeecd6e130ae", func := "numerary/numerarylaw03.TimesSquares", spec := "timesSquares", apart := false }
def TimesSquaresSaid : Prop := timesSquaresRow.holds Try.pinned (OpenSpec.ofChange timesSquaresSpec)

/-- ITS FALSE NEIGHBOUR: 'it returns false'. Refute it at one input. -/
def timesSquaresWrong : ChangeSpec := { name := "timesSquares", fn := fun _ => fun
  | [d1, d2] => { results := [.lit (.bool false)], args := [d1, d2] }
  | _ => none }
def TimesSquaresWrongFalsely : Prop := timesSquaresRow.holds Try.pinned (OpenSpec.ofChange timesSquaresWrong)

/-- 'numerarylaw04.QuotDivides': WHATEVER THE INPUT: true; the input reads as it did. -/
def quotDividesSpec : ChangeSpec := { name := "quotDivides", fn := fun _ => fun
  | [d1, d2] => { results := [.lit (.bool true)], args := [d1, d2] }
  | _ => none }
def quotDividesRow : OpenClaim := { program := "ytcepdndhkidehaa", sum := "109a071cbddf0b44e1887d87278107ee5c70928691ec66ef773ddeecd6e130ae", func := "numerary/numerarylaw04.QuotDivides", spec := "quotDivides", named := ["math/bits.overflowError"], apart := false }
def QuotDividesSaid : Prop := quotDividesRow.holds Try.pinned (OpenSpec.ofChange quotDividesSpec)

/-- ITS FALSE NEIGHBOUR: 'it returns false'. Refute it at one input. -/
def quotDividesWrong : ChangeSpec := { name := "quotDivides", fn := fun _ => fun
  | [d1, d2] => { results := [.lit (.bool false)], args := [d1, d2] }
  | _ => none }
def QuotDividesWrongFalsely : Prop := quotDividesRow.holds Try.pinned (OpenSpec.ofChange quotDividesWrong)

/-- 'numerarylaw04.QuotBack': WHATEVER THE INPUT: true; the input reads as it did. -/
def quotBackSpec : ChangeSpec := { name := "quotBack", fn := fun _ => fun
  | [d1, d2, d3] => { results := [.lit (.bool true)], args := [d1, d2, d3] }
  | _ => none }
def quotBackRow : OpenClaim := { program := "ytcepdndhkidehaa", sum := "109a071cbddf0b44e1887d87278107ee5c70928691ec66ef773ddeecd6e130ae", func := "numerary/numerarylaw04.QuotBack", spec := "quotBack", named := ["math/bits.overflowError"], apart := false }
def QuotBackSaid : Prop := quotBackRow.holds Try.pinned (OpenSpec.ofChange quotBackSpec)

/-- ITS FALSE NEIGHBOUR: 'it returns false'. Refute it at one input. -/
def quotBackWrong : ChangeSpec := { name := "quotBack", fn := fun _ => fun
  | [d1, d2, d3] => { results := [.lit (.bool false)], args := [d1, d2, d3] }
  | _ => none }
def QuotBackWrongFalsely : Prop := quotBackRow.holds Try.pinned (OpenSpec.ofChange quotBackWrong)

/-- 'numerarylaw04.QuotHalves': WHATEVER THE INPUT: true; the input reads as it did. -/
def quotHalvesSpec : ChangeSpec := { name := "quotHalves", fn := fun _ => fun
  | [d1, d2] => { results := [.lit (.bool true)], args := [d1, d2] }
  | _ => none }
def quotHalvesRow : OpenClaim := { program := "ytcepdndhkidehaa", sum := "109a071cbddf0b44e1887d87278107ee5c70928691ec66ef773ddeecd6e130ae", func := "numerary/numerarylaw04.QuotHalves", spec := "quotHalves", named := ["math/bits.overflowError"], apart := false }
def QuotHalvesSaid : Prop := quotHalvesRow.holds Try.pinned (OpenSpec.ofChange quotHalvesSpec)

/-- ITS FALSE NEIGHBOUR: 'it returns false'. Refute it at one input. -/
def quotHalvesWrong : ChangeSpec := { name := "quotHalves", fn := fun _ => fun
  | [d1, d2] => { results := [.lit (.bool false)], args := [d1, d2] }
  | _ => none }
def QuotHalvesWrongFalsely : Prop := quotHalvesRow.holds Try.pinned (OpenSpec.ofChange quotHalvesWrong)

/-- 'numerarylaw04.QuotGcd': WHATEVER THE INPUT: true; the input reads as it did. -/
def quotGcdSpec : ChangeSpec := { name := "quotGcd", fn := fun _ => fun
  | [d1, d2, d3] => { results := [.lit (.bool true)], args := [d1, d2, d3] }
  | _ => none }
def quotGcdRow : OpenClaim := { program := "ytcepdndhkidehaa", sum := "109a071cbddf0b44e1887d87278107ee5c70928691ec66ef773ddeecd6e130ae", func := "numerary/numerarylaw04.QuotGcd", spec := "quotGcd", named := ["math/bits.overflowError"], apart := false }
def QuotGcdSaid : Prop := quotGcdRow.holds Try.pinned (OpenSpec.ofChange quotGcdSpec)

/-- ITS FALSE NEIGHBOUR: 'it returns false'. Refute it at one input. -/
def quotGcdWrong : ChangeSpec := { name := "quotGcd", fn := fun _ => fun
  | [d1, d2, d3] => { results := [.lit (.bool false)], args := [d1, d2, d3] }
  | _ => none }
def QuotGcdWrongFalsely : Prop := quotGcdRow.holds Try.pinned (OpenSpec.ofChange quotGcdWrong)

/- THE SECOND FORM. 'bulk': how many values and letters a reading holds, each counted each time it is reached (what is shared counts as often as it is met; a slice's spare places count too). A statement '..UptoSaid' is the law's where the arguments, and the package variables that the reading takes, are together of bulk at most 1048576: NARROWER than '..Said'. Prove '..Said' where nothing that the law and all that it calls make is longer than what came in: it says more and counts as full. Else prove '..UptoSaid'. A law counts once. -/
mutual
def uptoBulk {H : Type} : DataW H → Nat
  | .lit (.string bytes) => bytes.length + 1
  | .lit _ => 1
  | .nil => 1
  | .ptr d => uptoBulk d + 1
  | .slice elems spare => uptoBulkAll elems + uptoBulkAll spare + 1
  | .agg parts => uptoBulkAll parts + 1
  | .iface _ d => uptoBulk d + 1
  | .map entries => uptoBulkEntries entries + 1
  | .held _ => 1
def uptoBulkAll {H : Type} : List (DataW H) → Nat
  | [] => 0
  | d :: r => uptoBulk d + uptoBulkAll r
def uptoBulkEntries {H : Type} : List (Lit × DataW H) → Nat
  | [] => 0
  | x :: r => uptoBulkEntry x + uptoBulkEntries r
def uptoBulkEntry {H : Type} : Lit × DataW H → Nat
  | (.string bytes, d) => bytes.length + uptoBulk d + 1
  | (_, d) => uptoBulk d + 1
 end
def uptoSmall : (H : Type) → List (DataW H) → Bool := fun _ ds => decide (uptoBulkAll ds ≤ 1048576)
def OpenSpec.upto (s : _root_.Go.ChangeSpec) : _root_.Go.OpenSpec := { _root_.Go.OpenSpec.ofChange s with cond := some uptoSmall }

/-- 'numerarylaw03.TimesMul', WHERE WHAT IT READS IS OF BULK AT MOST 1048576: true; the input reads as it did. -/
def timesMulUptoRow : OpenClaim := { program := "ytcepdndhkidehaa", sum := "109a071cbddf0b44e1887d87278107ee5c70928691ec66ef773ddeecd6e130ae", func := "numerary/numerarylaw03.TimesMul", spec := "timesMul", apart := false, narrowed := true }
def TimesMulUptoSaid : Prop := timesMulUptoRow.holds Try.pinned (OpenSpec.upto timesMulSpec)

/-- 'numerarylaw03.TimesPow', WHERE WHAT IT READS IS OF BULK AT MOST 1048576: true; the input reads as it did. -/
def timesPowUptoRow : OpenClaim := { program := "ytcepdndhkidehaa", sum := "109a071cbddf0b44e1887d87278107ee5c70928691ec66ef773ddeecd6e130ae", func := "numerary/numerarylaw03.TimesPow", spec := "timesPow", apart := false, narrowed := true }
def TimesPowUptoSaid : Prop := timesPowUptoRow.holds Try.pinned (OpenSpec.upto timesPowSpec)

/-- 'numerarylaw02.NatMakes', WHERE WHAT IT READS IS OF BULK AT MOST 1048576: true; the input reads as it did. -/
def natMakesUptoRow : OpenClaim := { program := "ytcepdndhkidehaa", sum := "109a071cbddf0b44e1887d87278107ee5c70928691ec66ef773ddeecd6e130ae", func := "numerary/numerarylaw02.NatMakes", spec := "natMakes", apart := false, narrowed := true }
def NatMakesUptoSaid : Prop := natMakesUptoRow.holds Try.pinned (OpenSpec.upto natMakesSpec)

/-- 'numerarylaw02.NatAdds', WHERE WHAT IT READS IS OF BULK AT MOST 1048576: true; the input reads as it did. -/
def natAddsUptoRow : OpenClaim := { program := "ytcepdndhkidehaa", sum := "109a071cbddf0b44e1887d87278107ee5c70928691ec66ef773ddeecd6e130ae", func := "numerary/numerarylaw02.NatAdds", spec := "natAdds", apart := false, narrowed := true }
def NatAddsUptoSaid : Prop := natAddsUptoRow.holds Try.pinned (OpenSpec.upto natAddsSpec)

/-- 'numerarylaw02.NatBack', WHERE WHAT IT READS IS OF BULK AT MOST 1048576: true; the input reads as it did. -/
def natBackUptoRow : OpenClaim := { program := "ytcepdndhkidehaa", sum := "109a071cbddf0b44e1887d87278107ee5c70928691ec66ef773ddeecd6e130ae", func := "numerary/numerarylaw02.NatBack", spec := "natBack", apart := false, narrowed := true }
def NatBackUptoSaid : Prop := natBackUptoRow.holds Try.pinned (OpenSpec.upto natBackSpec)

/-- 'numerarylaw02.NatKeeps', WHERE WHAT IT READS IS OF BULK AT MOST 1048576: true; the input reads as it did. -/
def natKeepsUptoRow : OpenClaim := { program := "ytcepdndhkidehaa", sum := "109a071cbddf0b44e1887d87278107ee5c70928691ec66ef773ddeecd6e130ae", func := "numerary/numerarylaw02.NatKeeps", spec := "natKeeps", apart := false, narrowed := true }
def NatKeepsUptoSaid : Prop := natKeepsUptoRow.holds Try.pinned (OpenSpec.upto natKeepsSpec)

/-- 'numerarylaw02.NatOrder', WHERE WHAT IT READS IS OF BULK AT MOST 1048576: true; the input reads as it did. -/
def natOrderUptoRow : OpenClaim := { program := "ytcepdndhkidehaa", sum := "109a071cbddf0b44e1887d87278107ee5c70928691ec66ef773ddeecd6e130ae", func := "numerary/numerarylaw02.NatOrder", spec := "natOrder", apart := false, narrowed := true }
def NatOrderUptoSaid : Prop := natOrderUptoRow.holds Try.pinned (OpenSpec.upto natOrderSpec)

/-- 'numerarylaw03.TimesLaws', WHERE WHAT IT READS IS OF BULK AT MOST 1048576: true; the input reads as it did. -/
def timesLawsUptoRow : OpenClaim := { program := "ytcepdndhkidehaa", sum := "109a071cbddf0b44e1887d87278107ee5c70928691ec66ef773ddeecd6e130ae", func := "numerary/numerarylaw03.TimesLaws", spec := "timesLaws", apart := false, narrowed := true }
def TimesLawsUptoSaid : Prop := timesLawsUptoRow.holds Try.pinned (OpenSpec.upto timesLawsSpec)

/-- 'numerarylaw03.TimesSquares', WHERE WHAT IT READS IS OF BULK AT MOST 1048576: true; the input reads as it did. -/
def timesSquaresUptoRow : OpenClaim := { program := "ytcepdndhkidehaa", sum := "109a071cbddf0b44e1887d87278107ee5c70928691ec66ef773ddeecd6e130ae", func := "numerary/numerarylaw03.TimesSquares", spec := "timesSquares", apart := false, narrowed := true }
def TimesSquaresUptoSaid : Prop := timesSquaresUptoRow.holds Try.pinned (OpenSpec.upto timesSquaresSpec)

/-- 'numerarylaw04.QuotDivides', WHERE WHAT IT READS IS OF BULK AT MOST 1048576: true; the input reads as it did. -/
def quotDividesUptoRow : OpenClaim := { program := "ytcepdndhkidehaa", sum := "109a071cbddf0b44e1887d87278107ee5c70928691ec66ef773ddeecd6e130ae", func := "numerary/numerarylaw04.QuotDivides", spec := "quotDivides", named := ["math/bits.overflowError"], apart := false, narrowed := true }
def QuotDividesUptoSaid : Prop := quotDividesUptoRow.holds Try.pinned (OpenSpec.upto quotDividesSpec)

/-- 'numerarylaw04.QuotBack', WHERE WHAT IT READS IS OF BULK AT MOST 1048576: true; the input reads as it did. -/
def quotBackUptoRow : OpenClaim := { program := "ytcepdndhkidehaa", sum := "109a071cbddf0b44e1887d87278107ee5c70928691ec66ef773ddeecd6e130ae", func := "numerary/numerarylaw04.QuotBack", spec := "quotBack", named := ["math/bits.overflowError"], apart := false, narrowed := true }
def QuotBackUptoSaid : Prop := quotBackUptoRow.holds Try.pinned (OpenSpec.upto quotBackSpec)

/-- 'numerarylaw04.QuotHalves', WHERE WHAT IT READS IS OF BULK AT MOST 1048576: true; the input reads as it did. -/
def quotHalvesUptoRow : OpenClaim := { program := "ytcepdndhkidehaa", sum := "109a071cbddf0b44e1887d87278107ee5c70928691ec66ef773ddeecd6e130ae", func := "numerary/numerarylaw04.QuotHalves", spec := "quotHalves", named := ["math/bits.overflowError"], apart := false, narrowed := true }
def QuotHalvesUptoSaid : Prop := quotHalvesUptoRow.holds Try.pinned (OpenSpec.upto quotHalvesSpec)

/-- 'numerarylaw04.QuotGcd', WHERE WHAT IT READS IS OF BULK AT MOST 1048576: true; the input reads as it did. -/
def quotGcdUptoRow : OpenClaim := { program := "ytcepdndhkidehaa", sum := "109a071cbddf0b44e1887d87278107ee5c70928691ec66ef773ddeecd6e130ae", func := "numerary/numerarylaw04.QuotGcd", spec := "quotGcd", named := ["math/bits.overflowError"], apart := false, narrowed := true }
def QuotGcdUptoSaid : Prop := quotGcdUptoRow.holds Try.pinned (OpenSpec.upto quotGcdSpec)

end Rows
end Go.Proofs.Ytcepdndhkidehaa
