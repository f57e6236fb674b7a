/- The order of all turns: each wish once, the chosen one first. -/
import Derived.Test.YtdhifabhjlbjiaaPO
import Derived.Test.YtdhifabhjlbjiaaMD2
set_option linter.all false
namespace Go.Idl
set_option linter.unusedSimpArgs false
set_option linter.unusedVariables false

end Go.Idl
