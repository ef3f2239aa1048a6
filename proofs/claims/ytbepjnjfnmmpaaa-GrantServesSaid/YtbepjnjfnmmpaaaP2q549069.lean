/- Protection: sums over the tree, effective guarantees, who is guarded. -/
import Derived.Test.YtbepjnjfnmmpaaaP0qc22741
import Derived.Test.YtbepjnjfnmmpaaaAmZ3qd9e510
set_option linter.unusedSimpArgs false
set_option linter.unusedVariables false
namespace Go.Proofs.Ytbepjnjfnmmpaaa
open Go.AM Classical
set_option maxRecDepth 100000
set_option maxHeartbeats 4000000
end Go.Proofs.Ytbepjnjfnmmpaaa
