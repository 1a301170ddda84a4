/-
  No cell of these rows narrows 'for every input' (looked for: loops, veiled, ifaces, maps, wideKeys, modest, calm, conditions, laid).
  DERIVED. THE GIVEN ROWS OF THIS SEAT. 3 by the template 'for every input the law returns true; each argument reads behind the call as it read before'; 0 by the template 'total and deterministic' (their statements: YteidggfjcanbjaaTotals.lean).
  GIVEN WITH THE SEED: the statements are not yours to turn. If you find one false, say at which input.
  Laid BY PROGRAM, IN A SANDBOX (cutbox-rows.mjs): the forced cells as the released guide's own fill.sh prints them over the translation 0af4ba812b7a9af0… (all of the seat's roots in one cut). By AI agents, Wed Nov 11 2026. No macro, syntax, notation, axiom, sorry.
-/
import Derived.Test.YteidggfjcanbjaaChecked
import GoSem.Claim
import GoSem.ClaimJoined
import GoSem.ClaimMapViews
import Derived.JoinedTies
import Derived.KernelRfl
namespace Go.Proofs.Yteidggfjcanbjaa
/- THE CELL 'sum', in the pinned program and in every row, IS THE sha256 OF THE DUMP (.gsa) THAT YteidggfjcanbjaaProg.lean LOADS. Nothing in Lean hashes anything: it is a label: what it is worth is what the hold of that sum in a sandbox is worth. -/
noncomputable def Try.pinned : Pinned := { name := "yteidggfjcanbjaa", sum := "0af4ba812b7a9af06fd58e03d7dbb9054b66a7579f5913c517aa14a61bae72d5", checked := Try.checked }
namespace Rows
def none {H : Type} : Left H := { results := [], args := [] }

/-- 'numerarylaw25.ClockTotals': WHATEVER THE INPUT: true; the input reads as it did. -/
def clockTotalsSpec : ChangeSpec := { name := "clockTotals", fn := fun _ => fun
  | [d1, d2, d3] => { results := [.lit (.bool true)], args := [d1, d2, d3] }
  | _ => none }
def clockTotalsRow : OpenClaim := { program := "yteidggfjcanbjaa", sum := "0af4ba812b7a9af06fd58e03d7dbb9054b66a7579f5913c517aa14a61bae72d5", func := "numerary/numerarylaw25.ClockTotals", spec := "clockTotals", named := ["math/bits.overflowError"], apart := false }
def ClockTotalsSaid : Prop := clockTotalsRow.holds Try.pinned (OpenSpec.ofChange clockTotalsSpec)

/-- ITS FALSE NEIGHBOUR: 'it returns false'. Refute it at one input. -/
def clockTotalsWrong : ChangeSpec := { name := "clockTotals", fn := fun _ => fun
  | [d1, d2, d3] => { results := [.lit (.bool false)], args := [d1, d2, d3] }
  | _ => none }
def ClockTotalsWrongFalsely : Prop := clockTotalsRow.holds Try.pinned (OpenSpec.ofChange clockTotalsWrong)

/-- 'numerarylaw25.ClockMore': WHATEVER THE INPUT: true; the input reads as it did. -/
def clockMoreSpec : ChangeSpec := { name := "clockMore", fn := fun _ => fun
  | [d] => { results := [.lit (.bool true)], args := [d] }
  | _ => none }
def clockMoreRow : OpenClaim := { program := "yteidggfjcanbjaa", sum := "0af4ba812b7a9af06fd58e03d7dbb9054b66a7579f5913c517aa14a61bae72d5", func := "numerary/numerarylaw25.ClockMore", spec := "clockMore", named := ["math/bits.overflowError"], apart := false }
def ClockMoreSaid : Prop := clockMoreRow.holds Try.pinned (OpenSpec.ofChange clockMoreSpec)

/-- ITS FALSE NEIGHBOUR: 'it returns false'. Refute it at one input. -/
def clockMoreWrong : ChangeSpec := { name := "clockMore", fn := fun _ => fun
  | [d] => { results := [.lit (.bool false)], args := [d] }
  | _ => none }
def ClockMoreWrongFalsely : Prop := clockMoreRow.holds Try.pinned (OpenSpec.ofChange clockMoreWrong)

/-- 'numerarylaw25.ClockParts': WHATEVER THE INPUT: true; the input reads as it did. -/
def clockPartsSpec : ChangeSpec := { name := "clockParts", fn := fun _ => fun
  | [d] => { results := [.lit (.bool true)], args := [d] }
  | _ => none }
def clockPartsRow : OpenClaim := { program := "yteidggfjcanbjaa", sum := "0af4ba812b7a9af06fd58e03d7dbb9054b66a7579f5913c517aa14a61bae72d5", func := "numerary/numerarylaw25.ClockParts", spec := "clockParts", named := ["math/bits.overflowError"], apart := false }
def ClockPartsSaid : Prop := clockPartsRow.holds Try.pinned (OpenSpec.ofChange clockPartsSpec)

/-- ITS FALSE NEIGHBOUR: 'it returns false'. Refute it at one input. -/
def clockPartsWrong : ChangeSpec := { name := "clockParts", fn := fun _ => fun
  | [d] => { results := [.lit (.bool false)], args := [d] }
  | _ => none }
def ClockPartsWrongFalsely : Prop := clockPartsRow.holds Try.pinned (OpenSpec.ofChange clockPartsWrong)

/- THE SECOND FORM. 'bulk': how many values and letters a reading holds, each counted each time it is reached (what is shared counts as often as it is met; a slice's spare places count too). A statement '..UptoSaid' is the law's where the arguments, and the package variables that the reading takes, are together of bulk at most 1048576: NARROWER than '..Said'. Prove '..Said' where nothing that the law and all that it calls make is longer than what came in: it says more and counts as full. Else prove '..UptoSaid'. A law counts once. -/
mutual
def uptoBulk {H : Type} : DataW H → Nat
  | .lit (.string bytes) => bytes.length + 1
  | .lit _ => 1
  | .nil => 1
  | .ptr d => uptoBulk d + 1
  | .slice elems spare => uptoBulkAll elems + uptoBulkAll spare + 1
  | .agg parts => uptoBulkAll parts + 1
  | .iface _ d => uptoBulk d + 1
  | .map entries => uptoBulkEntries entries + 1
  | .held _ => 1
def uptoBulkAll {H : Type} : List (DataW H) → Nat
  | [] => 0
  | d :: r => uptoBulk d + uptoBulkAll r
def uptoBulkEntries {H : Type} : List (Lit × DataW H) → Nat
  | [] => 0
  | x :: r => uptoBulkEntry x + uptoBulkEntries r
def uptoBulkEntry {H : Type} : Lit × DataW H → Nat
  | (.string bytes, d) => bytes.length + uptoBulk d + 1
  | (_, d) => uptoBulk d + 1
 end
def uptoSmall : (H : Type) → List (DataW H) → Bool := fun _ ds => decide (uptoBulkAll ds ≤ 1048576)
def OpenSpec.upto (s : _root_.Go.ChangeSpec) : _root_.Go.OpenSpec := { _root_.Go.OpenSpec.ofChange s with cond := some uptoSmall }

/-- 'numerarylaw25.ClockTotals', WHERE WHAT IT READS IS OF BULK AT MOST 1048576: true; the input reads as it did. -/
def clockTotalsUptoRow : OpenClaim := { program := "yteidggfjcanbjaa", sum := "0af4ba812b7a9af06fd58e03d7dbb9054b66a7579f5913c517aa14a61bae72d5", func := "numerary/numerarylaw25.ClockTotals", spec := "clockTotals", named := ["math/bits.overflowError"], apart := false, narrowed := true }
def ClockTotalsUptoSaid : Prop := clockTotalsUptoRow.holds Try.pinned (OpenSpec.upto clockTotalsSpec)

/-- 'numerarylaw25.ClockMore', WHERE WHAT IT READS IS OF BULK AT MOST 1048576: true; the input reads as it did. -/
def clockMoreUptoRow : OpenClaim := { program := "yteidggfjcanbjaa", sum := "0af4ba812b7a9af06fd58e03d7dbb9054b66a7579f5913c517aa14a61bae72d5", func := "numerary/numerarylaw25.ClockMore", spec := "clockMore", named := ["math/bits.overflowError"], apart := false, narrowed := true }
def ClockMoreUptoSaid : Prop := clockMoreUptoRow.holds Try.pinned (OpenSpec.upto clockMoreSpec)

/-- 'numerarylaw25.ClockParts', WHERE WHAT IT READS IS OF BULK AT MOST 1048576: true; the input reads as it did. -/
def clockPartsUptoRow : OpenClaim := { program := "yteidggfjcanbjaa", sum := "0af4ba812b7a9af06fd58e03d7dbb9054b66a7579f5913c517aa14a61bae72d5", func := "numerary/numerarylaw25.ClockParts", spec := "clockParts", named := ["math/bits.overflowError"], apart := false, narrowed := true }
def ClockPartsUptoSaid : Prop := clockPartsUptoRow.holds Try.pinned (OpenSpec.upto clockPartsSpec)

end Rows
end Go.Proofs.Yteidggfjcanbjaa
