/- Accounts: lists of accounts as arguments. -/
import Derived.Test.YtnngcjipfdejcaaA4q9466e5
set_option linter.unusedSimpArgs false
set_option linter.unusedVariables false
namespace Go.Proofs.Ytnngcjipfdejcaa
open Go.AM Classical
set_option maxRecDepth 100000
set_option maxHeartbeats 4000000
end Go.Proofs.Ytnngcjipfdejcaa
