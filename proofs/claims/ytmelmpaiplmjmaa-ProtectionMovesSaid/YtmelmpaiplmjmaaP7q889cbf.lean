/- Protection: contracts of the reference's functions, second part. -/
import Derived.Test.YtmelmpaiplmjmaaP6q0790ac
set_option linter.unusedSimpArgs false
set_option linter.unusedVariables false
namespace Go.Proofs.Ytmelmpaiplmjmaa
open Go.AM Classical
set_option maxRecDepth 100000
set_option maxHeartbeats 4000000
end Go.Proofs.Ytmelmpaiplmjmaa
