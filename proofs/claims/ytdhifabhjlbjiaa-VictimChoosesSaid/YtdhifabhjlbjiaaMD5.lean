/- The way to the chosen leaf is the way down: at each queue the best son. -/
import Derived.Test.YtdhifabhjlbjiaaMD4
set_option linter.all false
namespace Go.Idl
set_option linter.unusedSimpArgs false
set_option linter.unusedVariables false

end Go.Idl
