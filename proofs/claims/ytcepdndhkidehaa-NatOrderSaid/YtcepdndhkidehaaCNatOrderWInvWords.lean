import Derived.Test.YtcepdndhkidehaaCNatOrderWInv
import Derived.Test.YtcepdndhkidehaaCNatOrderWFootNe
namespace Go.Proofs.YtcepdndhkidehaaW.PrintWords
open Go.RowKit
end Go.Proofs.YtcepdndhkidehaaW.PrintWords
namespace Go.Proofs.YtcepdndhkidehaaW.PrintLast
section
variable {ops : Array Oper} {a : Act} {o og : Oper} {g : Nat} {t : Tmp} {u : Bool}
end
end Go.Proofs.YtcepdndhkidehaaW.PrintLast
