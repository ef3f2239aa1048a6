/- Accounts: the reference's error of a list. -/
import Derived.Test.YtnngcjipfdejcaaA3qe7d532
set_option linter.unusedSimpArgs false
set_option linter.unusedVariables false
namespace Go.Proofs.Ytnngcjipfdejcaa
open Go.AM
set_option maxRecDepth 100000
set_option maxHeartbeats 4000000
end Go.Proofs.Ytnngcjipfdejcaa
