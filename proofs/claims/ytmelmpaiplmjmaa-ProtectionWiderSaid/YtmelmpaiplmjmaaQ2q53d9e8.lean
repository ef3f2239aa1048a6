/- Protection: the laws that compare with the reference. -/
import Derived.Test.YtmelmpaiplmjmaaQ1qe07e4e
set_option linter.unusedSimpArgs false
set_option linter.unusedVariables false
namespace Go.Proofs.Ytmelmpaiplmjmaa
open Go.AM Classical
set_option maxRecDepth 100000
set_option maxHeartbeats 4000000
end Go.Proofs.Ytmelmpaiplmjmaa
