/- The program's queues: down, with its map. -/
import Derived.Test.YtdhifabhjlbjiaaPF
import Derived.Test.YtdhifabhjlbjiaaMQall
set_option linter.all false
namespace Go.Idl
open Go.Proofs
set_option linter.unusedSimpArgs false
set_option linter.unusedVariables false
set_option maxRecDepth 8000
variable (b : Bool)

end Go.Idl
