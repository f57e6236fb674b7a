/- The statement VictimChooses: the document's search, and what the statement computes. -/
import Derived.Test.YtdhifabhjlbjiaaXG
import Derived.Test.YtdhifabhjlbjiaaMVall
import Derived.Test.YtdhifabhjlbjiaaRN
set_option linter.all false
namespace Go.Idl
open Go.Proofs
set_option linter.unusedSimpArgs false
set_option linter.unusedVariables false
set_option maxRecDepth 20000
set_option maxHeartbeats 4000000
variable (b c : Bool)

end Go.Idl
