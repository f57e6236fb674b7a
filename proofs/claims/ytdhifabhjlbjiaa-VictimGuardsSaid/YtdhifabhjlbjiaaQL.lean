/- What the statements on queues themselves compute: same, Ints, Has. -/
import Derived.Test.YtdhifabhjlbjiaaQC
set_option linter.all false
namespace Go.Idl
open Go.Proofs
set_option linter.unusedSimpArgs false
set_option linter.unusedVariables false
set_option maxRecDepth 8000
set_option maxHeartbeats 1000000
variable (b c : Bool)

end Go.Idl
