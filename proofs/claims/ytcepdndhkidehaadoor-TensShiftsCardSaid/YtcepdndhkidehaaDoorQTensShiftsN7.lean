/- Quotients of numbers, halves, and the greatest common divisor; the document's quotient. -/
import Derived.Test.YtcepdndhkidehaaDoorQTensShiftsN6
namespace Go.Proofs.YtcepdndhkidehaaDoor.F
open Go Go.Proofs.YtcepdndhkidehaaDoor.E
set_option linter.unusedVariables false
set_option linter.unusedSimpArgs false

/-! ### shifted back -/
/-! ### one digit of a long quotient -/
end Go.Proofs.YtcepdndhkidehaaDoor.F
