/- Accounts: the laws AccountsCommute, AccountsMargins, AccountsBack. -/
import Derived.Test.YtmkcfadpofjokaaK2qaad895
import Derived.Test.YtmkcfadpofjokaaP1q5aa394
set_option linter.unusedSimpArgs false
set_option linter.unusedVariables false
namespace Go.Proofs.Ytmkcfadpofjokaa
open Go.AM Classical
set_option maxRecDepth 100000
set_option maxHeartbeats 4000000
structure Opc where
  take : Bool
  acc : Int
  n : Int
def Opc.cells (o : Opc) : List D := [.bool o.take, .int .i64 o.acc, .int .i64 o.n]
theorem Opc.cells_len (o : Opc) : o.cells.length = 3 := rfl
end Go.Proofs.Ytmkcfadpofjokaa
