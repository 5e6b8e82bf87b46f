/- Layer 4's reference: an operation's cells. Conditions: none. -/
import Derived.Test.YtnnalefglpnoaaaW2
import Derived.Test.YtnnalefglpnoaaaIsaTbl
import Derived.Test.YtnnalefglpnoaaaIsaB
set_option linter.unusedVariables false
set_option linter.unusedSimpArgs false
namespace Go.Proofs.Ytnnalefglpnoaaa
open Go.RowKit Wd
/-- An operation's cells as the reference has them. -/
def refCells (o : Opn) : List Value := [.string o.name, .int .i64 o.kind, .int .i64 o.code, .int .i64 o.f3, .int .i64 o.f7, .int .i64 o.shift]
end Go.Proofs.Ytnnalefglpnoaaa
