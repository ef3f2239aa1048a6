/- Accounts: the law AccountsBack. -/
import Derived.Test.YtmkcfadpofjokaaK3q587d4c
set_option linter.unusedSimpArgs false
set_option linter.unusedVariables false
namespace Go.Proofs.Ytmkcfadpofjokaa
open Go.AM Classical
set_option maxRecDepth 100000
set_option maxHeartbeats 4000000
end Go.Proofs.Ytmkcfadpofjokaa
