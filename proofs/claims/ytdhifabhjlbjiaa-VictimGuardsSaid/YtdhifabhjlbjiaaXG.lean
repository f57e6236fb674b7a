/- The statement VictimStops: what it computes. -/
import Derived.Test.YtdhifabhjlbjiaaXF
set_option linter.all false
namespace Go.Idl
open Go.Proofs
set_option linter.unusedSimpArgs false
set_option linter.unusedVariables false
set_option maxRecDepth 20000
set_option maxHeartbeats 4000000
variable (b c : Bool)

end Go.Idl
