/-
  No cell of these rows narrows 'for every input' (looked for: loops, veiled, ifaces, maps, wideKeys, modest, calm, conditions, laid).
  DERIVED. THE GIVEN ROWS OF THIS SEAT. 14 by the template 'for every input the law returns true; each argument reads behind the call as it read before'; 0 by the template 'total and deterministic' (their statements: YtjkhkmcmnnhmcaaTotals.lean).
  GIVEN WITH THE SEED: the statements are not yours to turn. If you find one false, say at which input.
  Laid BY PROGRAM, IN A SANDBOX (cutbox-rows.mjs): the forced cells as the released guide's own fill.sh prints them over the translation c9173a91f940e13b… (all of the seat's roots in one cut). By AI agents, Wed Nov 11 2026. No macro, syntax, notation, axiom, sorry.
-/
import Derived.Test.YtjkhkmcmnnhmcaaChecked
import GoSem.Claim
import GoSem.ClaimJoined
import GoSem.ClaimMapViews
import Derived.JoinedTies
import Derived.KernelRfl
namespace Go.Proofs.Ytjkhkmcmnnhmcaa
/- THE CELL 'sum', in the pinned program and in every row, IS THE sha256 OF THE DUMP (.gsa) THAT YtjkhkmcmnnhmcaaProg.lean LOADS. Nothing in Lean hashes anything: it is a label: what it is worth is what the hold of that sum in a sandbox is worth. -/
noncomputable def Try.pinned : Pinned := { name := "ytjkhkmcmnnhmcaa", sum := "c9173a91f940e13bbfa929bbf7c1f9fbd1f99ad604bc8737eacc34e13c373f85", checked := Try.checked }
namespace Rows
def none {H : Type} : Left H := { results := [], args := [] }

/-- 'numerarylaw07.BitsValues': WHATEVER THE INPUT: true; the input reads as it did. -/
def bitsValuesSpec : ChangeSpec := { name := "bitsValues", fn := fun _ => fun
  | [d] => { results := [.lit (.bool true)], args := [d] }
  | _ => none }
def bitsValuesRow : OpenClaim := { program := "ytjkhkmcmnnhmcaa", sum := "c9173a91f940e13bbfa929bbf7c1f9fbd1f99ad604bc8737eacc34e13c373f85", func := "numerary/numerarylaw07.BitsValues", spec := "bitsValues", named := ["math/bits.overflowError"], apart := false }
def BitsValuesSaid : Prop := bitsValuesRow.holds Try.pinned (OpenSpec.ofChange bitsValuesSpec)

/-- ITS FALSE NEIGHBOUR: 'it returns false'. Refute it at one input. -/
def bitsValuesWrong : ChangeSpec := { name := "bitsValues", fn := fun _ => fun
  | [d] => { results := [.lit (.bool false)], args := [d] }
  | _ => none }
def BitsValuesWrongFalsely : Prop := bitsValuesRow.holds Try.pinned (OpenSpec.ofChange bitsValuesWrong)

/-- 'numerarylaw07.BitsMakes': WHATEVER THE INPUT: true; the input reads as it did. -/
def bitsMakesSpec : ChangeSpec := { name := "bitsMakes", fn := fun _ => fun
  | [d] => { results := [.lit (.bool true)], args := [d] }
  | _ => none }
def bitsMakesRow : OpenClaim := { program := "ytjkhkmcmnnhmcaa", sum := "c9173a91f940e13bbfa929bbf7c1f9fbd1f99ad604bc8737eacc34e13c373f85", func := "numerary/numerarylaw07.BitsMakes", spec := "bitsMakes", named := ["math/bits.overflowError"], apart := false }
def BitsMakesSaid : Prop := bitsMakesRow.holds Try.pinned (OpenSpec.ofChange bitsMakesSpec)

/-- ITS FALSE NEIGHBOUR: 'it returns false'. Refute it at one input. -/
def bitsMakesWrong : ChangeSpec := { name := "bitsMakes", fn := fun _ => fun
  | [d] => { results := [.lit (.bool false)], args := [d] }
  | _ => none }
def BitsMakesWrongFalsely : Prop := bitsMakesRow.holds Try.pinned (OpenSpec.ofChange bitsMakesWrong)

/-- 'numerarylaw07.BitsNext': WHATEVER THE INPUT: true; the input reads as it did. -/
def bitsNextSpec : ChangeSpec := { name := "bitsNext", fn := fun _ => fun
  | [d] => { results := [.lit (.bool true)], args := [d] }
  | _ => none }
def bitsNextRow : OpenClaim := { program := "ytjkhkmcmnnhmcaa", sum := "c9173a91f940e13bbfa929bbf7c1f9fbd1f99ad604bc8737eacc34e13c373f85", func := "numerary/numerarylaw07.BitsNext", spec := "bitsNext", named := ["math/bits.overflowError"], apart := false }
def BitsNextSaid : Prop := bitsNextRow.holds Try.pinned (OpenSpec.ofChange bitsNextSpec)

/-- ITS FALSE NEIGHBOUR: 'it returns false'. Refute it at one input. -/
def bitsNextWrong : ChangeSpec := { name := "bitsNext", fn := fun _ => fun
  | [d] => { results := [.lit (.bool false)], args := [d] }
  | _ => none }
def BitsNextWrongFalsely : Prop := bitsNextRow.holds Try.pinned (OpenSpec.ofChange bitsNextWrong)

/-- 'numerarylaw07.BitsOrder': WHATEVER THE INPUT: true; the input reads as it did. -/
def bitsOrderSpec : ChangeSpec := { name := "bitsOrder", fn := fun _ => fun
  | [d1, d2] => { results := [.lit (.bool true)], args := [d1, d2] }
  | _ => none }
def bitsOrderRow : OpenClaim := { program := "ytjkhkmcmnnhmcaa", sum := "c9173a91f940e13bbfa929bbf7c1f9fbd1f99ad604bc8737eacc34e13c373f85", func := "numerary/numerarylaw07.BitsOrder", spec := "bitsOrder", named := ["math/bits.overflowError"], apart := false }
def BitsOrderSaid : Prop := bitsOrderRow.holds Try.pinned (OpenSpec.ofChange bitsOrderSpec)

/-- ITS FALSE NEIGHBOUR: 'it returns false'. Refute it at one input. -/
def bitsOrderWrong : ChangeSpec := { name := "bitsOrder", fn := fun _ => fun
  | [d1, d2] => { results := [.lit (.bool false)], args := [d1, d2] }
  | _ => none }
def BitsOrderWrongFalsely : Prop := bitsOrderRow.holds Try.pinned (OpenSpec.ofChange bitsOrderWrong)

/-- 'numerarylaw07.BitsNearest': WHATEVER THE INPUT: true; the input reads as it did. -/
def bitsNearestSpec : ChangeSpec := { name := "bitsNearest", fn := fun _ => fun
  | [d1, d2, d3] => { results := [.lit (.bool true)], args := [d1, d2, d3] }
  | _ => none }
def bitsNearestRow : OpenClaim := { program := "ytjkhkmcmnnhmcaa", sum := "c9173a91f940e13bbfa929bbf7c1f9fbd1f99ad604bc8737eacc34e13c373f85", func := "numerary/numerarylaw07.BitsNearest", spec := "bitsNearest", named := ["math/bits.overflowError"], apart := false }
def BitsNearestSaid : Prop := bitsNearestRow.holds Try.pinned (OpenSpec.ofChange bitsNearestSpec)

/-- ITS FALSE NEIGHBOUR: 'it returns false'. Refute it at one input. -/
def bitsNearestWrong : ChangeSpec := { name := "bitsNearest", fn := fun _ => fun
  | [d1, d2, d3] => { results := [.lit (.bool false)], args := [d1, d2, d3] }
  | _ => none }
def BitsNearestWrongFalsely : Prop := bitsNearestRow.holds Try.pinned (OpenSpec.ofChange bitsNearestWrong)

/-- 'numerarylaw07.BitsDecimals': WHATEVER THE INPUT: true; the input reads as it did. -/
def bitsDecimalsSpec : ChangeSpec := { name := "bitsDecimals", fn := fun _ => fun
  | [d1, d2] => { results := [.lit (.bool true)], args := [d1, d2] }
  | _ => none }
def bitsDecimalsRow : OpenClaim := { program := "ytjkhkmcmnnhmcaa", sum := "c9173a91f940e13bbfa929bbf7c1f9fbd1f99ad604bc8737eacc34e13c373f85", func := "numerary/numerarylaw07.BitsDecimals", spec := "bitsDecimals", named := ["math/bits.overflowError"], apart := false }
def BitsDecimalsSaid : Prop := bitsDecimalsRow.holds Try.pinned (OpenSpec.ofChange bitsDecimalsSpec)

/-- ITS FALSE NEIGHBOUR: 'it returns false'. Refute it at one input. -/
def bitsDecimalsWrong : ChangeSpec := { name := "bitsDecimals", fn := fun _ => fun
  | [d1, d2] => { results := [.lit (.bool false)], args := [d1, d2] }
  | _ => none }
def BitsDecimalsWrongFalsely : Prop := bitsDecimalsRow.holds Try.pinned (OpenSpec.ofChange bitsDecimalsWrong)

/-- 'numerarylaw22.ApproxBest': WHATEVER THE INPUT: true; the input reads as it did. -/
def approxBestSpec : ChangeSpec := { name := "approxBest", fn := fun _ => fun
  | [d1, d2, d3] => { results := [.lit (.bool true)], args := [d1, d2, d3] }
  | _ => none }
def approxBestRow : OpenClaim := { program := "ytjkhkmcmnnhmcaa", sum := "c9173a91f940e13bbfa929bbf7c1f9fbd1f99ad604bc8737eacc34e13c373f85", func := "numerary/numerarylaw22.ApproxBest", spec := "approxBest", named := ["math/bits.overflowError"], apart := false }
def ApproxBestSaid : Prop := approxBestRow.holds Try.pinned (OpenSpec.ofChange approxBestSpec)

/-- ITS FALSE NEIGHBOUR: 'it returns false'. Refute it at one input. -/
def approxBestWrong : ChangeSpec := { name := "approxBest", fn := fun _ => fun
  | [d1, d2, d3] => { results := [.lit (.bool false)], args := [d1, d2, d3] }
  | _ => none }
def ApproxBestWrongFalsely : Prop := approxBestRow.holds Try.pinned (OpenSpec.ofChange approxBestWrong)

/-- 'numerarylaw22.ApproxNear': WHATEVER THE INPUT: true; the input reads as it did. -/
def approxNearSpec : ChangeSpec := { name := "approxNear", fn := fun _ => fun
  | [d] => { results := [.lit (.bool true)], args := [d] }
  | _ => none }
def approxNearRow : OpenClaim := { program := "ytjkhkmcmnnhmcaa", sum := "c9173a91f940e13bbfa929bbf7c1f9fbd1f99ad604bc8737eacc34e13c373f85", func := "numerary/numerarylaw22.ApproxNear", spec := "approxNear", named := ["math/bits.overflowError"], apart := false }
def ApproxNearSaid : Prop := approxNearRow.holds Try.pinned (OpenSpec.ofChange approxNearSpec)

/-- ITS FALSE NEIGHBOUR: 'it returns false'. Refute it at one input. -/
def approxNearWrong : ChangeSpec := { name := "approxNear", fn := fun _ => fun
  | [d] => { results := [.lit (.bool false)], args := [d] }
  | _ => none }
def ApproxNearWrongFalsely : Prop := approxNearRow.holds Try.pinned (OpenSpec.ofChange approxNearWrong)

/-- 'numerarylaw22.ApproxOver': WHATEVER THE INPUT: true; the input reads as it did. -/
def approxOverSpec : ChangeSpec := { name := "approxOver", fn := fun _ => fun
  | [d1, d2, d3] => { results := [.lit (.bool true)], args := [d1, d2, d3] }
  | _ => none }
def approxOverRow : OpenClaim := { program := "ytjkhkmcmnnhmcaa", sum := "c9173a91f940e13bbfa929bbf7c1f9fbd1f99ad604bc8737eacc34e13c373f85", func := "numerary/numerarylaw22.ApproxOver", spec := "approxOver", named := ["math/bits.overflowError"], apart := false }
def ApproxOverSaid : Prop := approxOverRow.holds Try.pinned (OpenSpec.ofChange approxOverSpec)

/-- ITS FALSE NEIGHBOUR: 'it returns false'. Refute it at one input. -/
def approxOverWrong : ChangeSpec := { name := "approxOver", fn := fun _ => fun
  | [d1, d2, d3] => { results := [.lit (.bool false)], args := [d1, d2, d3] }
  | _ => none }
def ApproxOverWrongFalsely : Prop := approxOverRow.holds Try.pinned (OpenSpec.ofChange approxOverWrong)

/-- 'numerarylaw22.ApproxExact': WHATEVER THE INPUT: true; the input reads as it did. -/
def approxExactSpec : ChangeSpec := { name := "approxExact", fn := fun _ => fun
  | [d1, d2, d3] => { results := [.lit (.bool true)], args := [d1, d2, d3] }
  | _ => none }
def approxExactRow : OpenClaim := { program := "ytjkhkmcmnnhmcaa", sum := "c9173a91f940e13bbfa929bbf7c1f9fbd1f99ad604bc8737eacc34e13c373f85", func := "numerary/numerarylaw22.ApproxExact", spec := "approxExact", named := ["math/bits.overflowError"], apart := false }
def ApproxExactSaid : Prop := approxExactRow.holds Try.pinned (OpenSpec.ofChange approxExactSpec)

/-- ITS FALSE NEIGHBOUR: 'it returns false'. Refute it at one input. -/
def approxExactWrong : ChangeSpec := { name := "approxExact", fn := fun _ => fun
  | [d1, d2, d3] => { results := [.lit (.bool false)], args := [d1, d2, d3] }
  | _ => none }
def ApproxExactWrongFalsely : Prop := approxExactRow.holds Try.pinned (OpenSpec.ofChange approxExactWrong)

/-- 'numerarylaw22.ApproxTerms': WHATEVER THE INPUT: true; the input reads as it did. -/
def approxTermsSpec : ChangeSpec := { name := "approxTerms", fn := fun _ => fun
  | [d1, d2, d3] => { results := [.lit (.bool true)], args := [d1, d2, d3] }
  | _ => none }
def approxTermsRow : OpenClaim := { program := "ytjkhkmcmnnhmcaa", sum := "c9173a91f940e13bbfa929bbf7c1f9fbd1f99ad604bc8737eacc34e13c373f85", func := "numerary/numerarylaw22.ApproxTerms", spec := "approxTerms", named := ["math/bits.overflowError"], apart := false }
def ApproxTermsSaid : Prop := approxTermsRow.holds Try.pinned (OpenSpec.ofChange approxTermsSpec)

/-- ITS FALSE NEIGHBOUR: 'it returns false'. Refute it at one input. -/
def approxTermsWrong : ChangeSpec := { name := "approxTerms", fn := fun _ => fun
  | [d1, d2, d3] => { results := [.lit (.bool false)], args := [d1, d2, d3] }
  | _ => none }
def ApproxTermsWrongFalsely : Prop := approxTermsRow.holds Try.pinned (OpenSpec.ofChange approxTermsWrong)

/-- 'numerarylaw25.ClockTotals': WHATEVER THE INPUT: true; the input reads as it did. -/
def clockTotalsSpec : ChangeSpec := { name := "clockTotals", fn := fun _ => fun
  | [d1, d2, d3] => { results := [.lit (.bool true)], args := [d1, d2, d3] }
  | _ => none }
def clockTotalsRow : OpenClaim := { program := "ytjkhkmcmnnhmcaa", sum := "c9173a91f940e13bbfa929bbf7c1f9fbd1f99ad604bc8737eacc34e13c373f85", func := "numerary/numerarylaw25.ClockTotals", spec := "clockTotals", named := ["math/bits.overflowError"], apart := false }
def ClockTotalsSaid : Prop := clockTotalsRow.holds Try.pinned (OpenSpec.ofChange clockTotalsSpec)

/-- ITS FALSE NEIGHBOUR: 'it returns false'. Refute it at one input. -/
def clockTotalsWrong : ChangeSpec := { name := "clockTotals", fn := fun _ => fun
  | [d1, d2, d3] => { results := [.lit (.bool false)], args := [d1, d2, d3] }
  | _ => none }
def ClockTotalsWrongFalsely : Prop := clockTotalsRow.holds Try.pinned (OpenSpec.ofChange clockTotalsWrong)

/-- 'numerarylaw25.ClockMore': WHATEVER THE INPUT: true; the input reads as it did. -/
def clockMoreSpec : ChangeSpec := { name := "clockMore", fn := fun _ => fun
  | [d] => { results := [.lit (.bool true)], args := [d] }
  | _ => none }
def clockMoreRow : OpenClaim := { program := "ytjkhkmcmnnhmcaa", sum := "c9173a91f940e13bbfa929bbf7c1f9fbd1f99ad604bc8737eacc34e13c373f85", func := "numerary/numerarylaw25.ClockMore", spec := "clockMore", named := ["math/bits.overflowError"], apart := false }
def ClockMoreSaid : Prop := clockMoreRow.holds Try.pinned (OpenSpec.ofChange clockMoreSpec)

/-- ITS FALSE NEIGHBOUR: 'it returns false'. Refute it at one input. -/
def clockMoreWrong : ChangeSpec := { name := "clockMore", fn := fun _ => fun
  | [d] => { results := [.lit (.bool false)], args := [d] }
  | _ => none }
def ClockMoreWrongFalsely : Prop := clockMoreRow.holds Try.pinned (OpenSpec.ofChange clockMoreWrong)

/-- 'numerarylaw25.ClockParts': WHATEVER THE INPUT: true; the input reads as it did. -/
def clockPartsSpec : ChangeSpec := { name := "clockParts", fn := fun _ => fun
  | [d] => { results := [.lit (.bool true)], args := [d] }
  | _ => none }
def clockPartsRow : OpenClaim := { program := "ytjkhkmcmnnhmcaa", sum := "c9173a91f940e13bbfa929bbf7c1f9fbd1f99ad604bc8737eacc34e13c373f85", func := "numerary/numerarylaw25.ClockParts", spec := "clockParts", named := ["math/bits.overflowError"], apart := false }
def ClockPartsSaid : Prop := clockPartsRow.holds Try.pinned (OpenSpec.ofChange clockPartsSpec)

/-- ITS FALSE NEIGHBOUR: 'it returns false'. Refute it at one input. -/
def clockPartsWrong : ChangeSpec := { name := "clockParts", fn := fun _ => fun
  | [d] => { results := [.lit (.bool false)], args := [d] }
  | _ => none }
def ClockPartsWrongFalsely : Prop := clockPartsRow.holds Try.pinned (OpenSpec.ofChange clockPartsWrong)

/- THE SECOND FORM. 'bulk': how many values and letters a reading holds, each counted each time it is reached (what is shared counts as often as it is met; a slice's spare places count too). A statement '..UptoSaid' is the law's where the arguments, and the package variables that the reading takes, are together of bulk at most 1048576: NARROWER than '..Said'. Prove '..Said' where nothing that the law and all that it calls make is longer than what came in: it says more and counts as full. Else prove '..UptoSaid'. A law counts once. -/
mutual
def uptoBulk {H : Type} : DataW H → Nat
  | .lit (.string bytes) => bytes.length + 1
  | .lit _ => 1
  | .nil => 1
  | .ptr d => uptoBulk d + 1
  | .slice elems spare => uptoBulkAll elems + uptoBulkAll spare + 1
  | .agg parts => uptoBulkAll parts + 1
  | .iface _ d => uptoBulk d + 1
  | .map entries => uptoBulkEntries entries + 1
  | .held _ => 1
def uptoBulkAll {H : Type} : List (DataW H) → Nat
  | [] => 0
  | d :: r => uptoBulk d + uptoBulkAll r
def uptoBulkEntries {H : Type} : List (Lit × DataW H) → Nat
  | [] => 0
  | x :: r => uptoBulkEntry x + uptoBulkEntries r
def uptoBulkEntry {H : Type} : Lit × DataW H → Nat
  | (.string bytes, d) => bytes.length + uptoBulk d + 1
  | (_, d) => uptoBulk d + 1
 end
def uptoSmall : (H : Type) → List (DataW H) → Bool := fun _ ds => decide (uptoBulkAll ds ≤ 1048576)
def OpenSpec.upto (s : _root_.Go.ChangeSpec) : _root_.Go.OpenSpec := { _root_.Go.OpenSpec.ofChange s with cond := some uptoSmall }

/-- 'numerarylaw07.BitsValues', WHERE WHAT IT READS IS OF BULK AT MOST 1048576: true; the input reads as it did. -/
def bitsValuesUptoRow : OpenClaim := { program := "ytjkhkmcmnnhmcaa", sum := "c9173a91f940e13bbfa929bbf7c1f9fbd1f99ad604bc8737eacc34e13c373f85", func := "numerary/numerarylaw07.BitsValues", spec := "bitsValues", named := ["math/bits.overflowError"], apart := false, narrowed := true }
def BitsValuesUptoSaid : Prop := bitsValuesUptoRow.holds Try.pinned (OpenSpec.upto bitsValuesSpec)

/-- 'numerarylaw07.BitsMakes', WHERE WHAT IT READS IS OF BULK AT MOST 1048576: true; the input reads as it did. -/
def bitsMakesUptoRow : OpenClaim := { program := "ytjkhkmcmnnhmcaa", sum := "c9173a91f940e13bbfa929bbf7c1f9fbd1f99ad604bc8737eacc34e13c373f85", func := "numerary/numerarylaw07.BitsMakes", spec := "bitsMakes", named := ["math/bits.overflowError"], apart := false, narrowed := true }
def BitsMakesUptoSaid : Prop := bitsMakesUptoRow.holds Try.pinned (OpenSpec.upto bitsMakesSpec)

/-- 'numerarylaw07.BitsNext', WHERE WHAT IT READS IS OF BULK AT MOST 1048576: true; the input reads as it did. -/
def bitsNextUptoRow : OpenClaim := { program := "ytjkhkmcmnnhmcaa", sum := "c9173a91f940e13bbfa929bbf7c1f9fbd1f99ad604bc8737eacc34e13c373f85", func := "numerary/numerarylaw07.BitsNext", spec := "bitsNext", named := ["math/bits.overflowError"], apart := false, narrowed := true }
def BitsNextUptoSaid : Prop := bitsNextUptoRow.holds Try.pinned (OpenSpec.upto bitsNextSpec)

/-- 'numerarylaw07.BitsOrder', WHERE WHAT IT READS IS OF BULK AT MOST 1048576: true; the input reads as it did. -/
def bitsOrderUptoRow : OpenClaim := { program := "ytjkhkmcmnnhmcaa", sum := "c9173a91f940e13bbfa929bbf7c1f9fbd1f99ad604bc8737eacc34e13c373f85", func := "numerary/numerarylaw07.BitsOrder", spec := "bitsOrder", named := ["math/bits.overflowError"], apart := false, narrowed := true }
def BitsOrderUptoSaid : Prop := bitsOrderUptoRow.holds Try.pinned (OpenSpec.upto bitsOrderSpec)

/-- 'numerarylaw07.BitsNearest', WHERE WHAT IT READS IS OF BULK AT MOST 1048576: true; the input reads as it did. -/
def bitsNearestUptoRow : OpenClaim := { program := "ytjkhkmcmnnhmcaa", sum := "c9173a91f940e13bbfa929bbf7c1f9fbd1f99ad604bc8737eacc34e13c373f85", func := "numerary/numerarylaw07.BitsNearest", spec := "bitsNearest", named := ["math/bits.overflowError"], apart := false, narrowed := true }
def BitsNearestUptoSaid : Prop := bitsNearestUptoRow.holds Try.pinned (OpenSpec.upto bitsNearestSpec)

/-- 'numerarylaw07.BitsDecimals', WHERE WHAT IT READS IS OF BULK AT MOST 1048576: true; the input reads as it did. -/
def bitsDecimalsUptoRow : OpenClaim := { program := "ytjkhkmcmnnhmcaa", sum := "c9173a91f940e13bbfa929bbf7c1f9fbd1f99ad604bc8737eacc34e13c373f85", func := "numerary/numerarylaw07.BitsDecimals", spec := "bitsDecimals", named := ["math/bits.overflowError"], apart := false, narrowed := true }
def BitsDecimalsUptoSaid : Prop := bitsDecimalsUptoRow.holds Try.pinned (OpenSpec.upto bitsDecimalsSpec)

/-- 'numerarylaw22.ApproxBest', WHERE WHAT IT READS IS OF BULK AT MOST 1048576: true; the input reads as it did. -/
def approxBestUptoRow : OpenClaim := { program := "ytjkhkmcmnnhmcaa", sum := "c9173a91f940e13bbfa929bbf7c1f9fbd1f99ad604bc8737eacc34e13c373f85", func := "numerary/numerarylaw22.ApproxBest", spec := "approxBest", named := ["math/bits.overflowError"], apart := false, narrowed := true }
def ApproxBestUptoSaid : Prop := approxBestUptoRow.holds Try.pinned (OpenSpec.upto approxBestSpec)

/-- 'numerarylaw22.ApproxNear', WHERE WHAT IT READS IS OF BULK AT MOST 1048576: true; the input reads as it did. -/
def approxNearUptoRow : OpenClaim := { program := "ytjkhkmcmnnhmcaa", sum := "c9173a91f940e13bbfa929bbf7c1f9fbd1f99ad604bc8737eacc34e13c373f85", func := "numerary/numerarylaw22.ApproxNear", spec := "approxNear", named := ["math/bits.overflowError"], apart := false, narrowed := true }
def ApproxNearUptoSaid : Prop := approxNearUptoRow.holds Try.pinned (OpenSpec.upto approxNearSpec)

/-- 'numerarylaw22.ApproxOver', WHERE WHAT IT READS IS OF BULK AT MOST 1048576: true; the input reads as it did. -/
def approxOverUptoRow : OpenClaim := { program := "ytjkhkmcmnnhmcaa", sum := "c9173a91f940e13bbfa929bbf7c1f9fbd1f99ad604bc8737eacc34e13c373f85", func := "numerary/numerarylaw22.ApproxOver", spec := "approxOver", named := ["math/bits.overflowError"], apart := false, narrowed := true }
def ApproxOverUptoSaid : Prop := approxOverUptoRow.holds Try.pinned (OpenSpec.upto approxOverSpec)

/-- 'numerarylaw22.ApproxExact', WHERE WHAT IT READS IS OF BULK AT MOST 1048576: true; the input reads as it did. -/
def approxExactUptoRow : OpenClaim := { program := "ytjkhkmcmnnhmcaa", sum := "c9173a91f940e13bbfa929bbf7c1f9fbd1f99ad604bc8737eacc34e13c373f85", func := "numerary/numerarylaw22.ApproxExact", spec := "approxExact", named := ["math/bits.overflowError"], apart := false, narrowed := true }
def ApproxExactUptoSaid : Prop := approxExactUptoRow.holds Try.pinned (OpenSpec.upto approxExactSpec)

/-- 'numerarylaw22.ApproxTerms', WHERE WHAT IT READS IS OF BULK AT MOST 1048576: true; the input reads as it did. -/
def approxTermsUptoRow : OpenClaim := { program := "ytjkhkmcmnnhmcaa", sum := "c9173a91f940e13bbfa929bbf7c1f9fbd1f99ad604bc8737eacc34e13c373f85", func := "numerary/numerarylaw22.ApproxTerms", spec := "approxTerms", named := ["math/bits.overflowError"], apart := false, narrowed := true }
def ApproxTermsUptoSaid : Prop := approxTermsUptoRow.holds Try.pinned (OpenSpec.upto approxTermsSpec)

/-- 'numerarylaw25.ClockTotals', WHERE WHAT IT READS IS OF BULK AT MOST 1048576: true; the input reads as it did. -/
def clockTotalsUptoRow : OpenClaim := { program := "ytjkhkmcmnnhmcaa", sum := "c9173a91f940e13bbfa929bbf7c1f9fbd1f99ad604bc8737eacc34e13c373f85", func := "numerary/numerarylaw25.ClockTotals", spec := "clockTotals", named := ["math/bits.overflowError"], apart := false, narrowed := true }
def ClockTotalsUptoSaid : Prop := clockTotalsUptoRow.holds Try.pinned (OpenSpec.upto clockTotalsSpec)

/-- 'numerarylaw25.ClockMore', WHERE WHAT IT READS IS OF BULK AT MOST 1048576: true; the input reads as it did. -/
def clockMoreUptoRow : OpenClaim := { program := "ytjkhkmcmnnhmcaa", sum := "c9173a91f940e13bbfa929bbf7c1f9fbd1f99ad604bc8737eacc34e13c373f85", func := "numerary/numerarylaw25.ClockMore", spec := "clockMore", named := ["math/bits.overflowError"], apart := false, narrowed := true }
def ClockMoreUptoSaid : Prop := clockMoreUptoRow.holds Try.pinned (OpenSpec.upto clockMoreSpec)

/-- 'numerarylaw25.ClockParts', WHERE WHAT IT READS IS OF BULK AT MOST 1048576: true; the input reads as it did. -/
def clockPartsUptoRow : OpenClaim := { program := "ytjkhkmcmnnhmcaa", sum := "c9173a91f940e13bbfa929bbf7c1f9fbd1f99ad604bc8737eacc34e13c373f85", func := "numerary/numerarylaw25.ClockParts", spec := "clockParts", named := ["math/bits.overflowError"], apart := false, narrowed := true }
def ClockPartsUptoSaid : Prop := clockPartsUptoRow.holds Try.pinned (OpenSpec.upto clockPartsSpec)

end Rows
end Go.Proofs.Ytjkhkmcmnnhmcaa
