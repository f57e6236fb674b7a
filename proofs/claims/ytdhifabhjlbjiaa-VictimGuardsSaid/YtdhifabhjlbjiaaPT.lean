/- The program's queues: Room. -/
import Derived.Test.YtdhifabhjlbjiaaPS
set_option linter.all false
namespace Go.Idl
open Go.Proofs
set_option linter.unusedSimpArgs false
set_option linter.unusedVariables false
set_option maxRecDepth 8000
set_option maxHeartbeats 2000000
variable (b c : Bool)

end Go.Idl
