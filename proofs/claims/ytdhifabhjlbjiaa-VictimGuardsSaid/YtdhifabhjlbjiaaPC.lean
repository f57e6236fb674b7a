/- The program's turns: Choose. -/
import Derived.Test.YtdhifabhjlbjiaaPK
set_option linter.all false
namespace Go.Idl
open Go.Proofs
set_option linter.unusedSimpArgs false
set_option linter.unusedVariables false
set_option maxRecDepth 8000
set_option maxHeartbeats 4000000
variable (b c d : Bool)

end Go.Idl
