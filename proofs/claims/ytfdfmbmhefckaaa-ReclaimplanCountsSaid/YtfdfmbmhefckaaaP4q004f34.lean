/- Protection: contracts of the program's functions, second part. -/
import Derived.Test.YtfdfmbmhefckaaaP3qe374b3
import Derived.Test.YtfdfmbmhefckaaaAmZ3q8c31dc
set_option linter.unusedSimpArgs false
set_option linter.unusedVariables false
namespace Go.Proofs.Ytfdfmbmhefckaaa
open Go.AM Classical
set_option maxRecDepth 100000
set_option maxHeartbeats 4000000
end Go.Proofs.Ytfdfmbmhefckaaa
