/- The program's queues: Clone, Insert, Delete of the library, in memory. -/
import Derived.Test.YtdhifabhjlbjiaaPQ
import Derived.Test.YtdhifabhjlbjiaaIdlEx
set_option linter.all false
namespace Go.Idl
open Go.Proofs
set_option linter.unusedSimpArgs false
set_option linter.unusedVariables false
set_option maxRecDepth 8000
variable (b : Bool)

theorem wr {n : Int} (h : -9223372036854775808 ≤ n) (h' : n ≤ 9223372036854775807) : IntKind.i64.wrap n = n := wrap_i64 (by omega) (by omega)

end Go.Idl
