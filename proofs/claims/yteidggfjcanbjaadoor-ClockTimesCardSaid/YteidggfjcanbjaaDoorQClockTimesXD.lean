/- Functions that are told by hand: what they come to. -/
import Derived.Test.YteidggfjcanbjaaDoorQClockTimesN0
namespace Go.Proofs.YteidggfjcanbjaaDoor.F
open Go Go.Proofs.YteidggfjcanbjaaDoor.E
set_option linter.unusedVariables false
/-! ### numerary/clock.part -/
noncomputable def clock_part.f (y b : Int) : M (Int × Int) := if b ≠ 0 then M.ret (IntKind.i64.wrap (y.tmod b), IntKind.u64.wrap (y.tdiv b)) else M.none
noncomputable def clock_part.ent : FnE := .ioBox (.int .u64) (.int .u64) (.int .i64) fun y x => clock_part.f y x
end Go.Proofs.YteidggfjcanbjaaDoor.F
