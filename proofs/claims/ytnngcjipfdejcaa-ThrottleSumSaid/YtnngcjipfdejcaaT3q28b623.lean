/- Throttle: the laws ThrottleShares and ThrottleOldest. -/
import Derived.Test.YtnngcjipfdejcaaT2q204c35
import Derived.Test.YtnngcjipfdejcaaA9q283db4
set_option linter.unusedSimpArgs false
set_option linter.unusedVariables false
namespace Go.Proofs.Ytnngcjipfdejcaa
open Go.AM Classical
set_option maxRecDepth 100000
set_option maxHeartbeats 4000000
end Go.Proofs.Ytnngcjipfdejcaa
