/- The document's numbers of two words, and its weighted shares. -/
import Derived.Test.YtdhifabhjlbjiaaPV
import Derived.Test.YtdhifabhjlbjiaaQS
set_option linter.all false
namespace Go.Idl
open Go.Proofs
set_option linter.unusedSimpArgs false
set_option linter.unusedVariables false
set_option maxRecDepth 8000
set_option maxHeartbeats 2000000

end Go.Idl
