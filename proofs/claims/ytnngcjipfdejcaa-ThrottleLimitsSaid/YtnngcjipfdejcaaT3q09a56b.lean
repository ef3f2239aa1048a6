/- Throttle: the laws ThrottleShares and ThrottleOldest. -/
import Derived.Test.YtnngcjipfdejcaaT2q2c1f43
import Derived.Test.YtnngcjipfdejcaaA9qb3157b
set_option linter.unusedSimpArgs false
set_option linter.unusedVariables false
namespace Go.Proofs.Ytnngcjipfdejcaa
open Go.AM Classical
set_option maxRecDepth 100000
set_option maxHeartbeats 4000000
end Go.Proofs.Ytnngcjipfdejcaa
