/- Whose turn it is, as plain data: wishes, and how many lie below each queue. No program here. -/
import Derived.Test.YtdhifabhjlbjiaaMQall
set_option linter.all false
namespace Go.Idl
set_option linter.unusedSimpArgs false
set_option linter.unusedVariables false

def Rising (w : List Int) : Prop := ∀ j (h : j + 1 < w.length), w[j] < w[j + 1]
noncomputable instance (w : List Int) : Decidable (Rising w) := Classical.propDecidable _
end Go.Idl
