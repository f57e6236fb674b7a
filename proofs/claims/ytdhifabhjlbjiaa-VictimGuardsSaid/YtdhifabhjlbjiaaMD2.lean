/- Where one leaf alone wants something it is chosen. -/
import Derived.Test.YtdhifabhjlbjiaaPC
set_option linter.all false
namespace Go.Idl
set_option linter.unusedSimpArgs false
set_option linter.unusedVariables false

end Go.Idl
