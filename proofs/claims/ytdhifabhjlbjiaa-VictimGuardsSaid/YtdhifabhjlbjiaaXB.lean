/- What leaves use by their leases: the document's answer. -/
import Derived.Test.YtdhifabhjlbjiaaMVall
import Derived.Test.YtdhifabhjlbjiaaQA
import Derived.Test.YtdhifabhjlbjiaaQD
import Derived.Test.YtdhifabhjlbjiaaQJ
set_option linter.all false
namespace Go.Idl
open Go.Proofs
set_option linter.unusedSimpArgs false
set_option linter.unusedVariables false
set_option maxRecDepth 8000
set_option maxHeartbeats 2000000
variable (b c : Bool)

end Go.Idl
