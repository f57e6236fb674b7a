/- The document's answer for queues, further: lists that are made. -/
import Derived.Test.YtdhifabhjlbjiaaQA
import Derived.Test.YtdhifabhjlbjiaaMQall
set_option linter.all false
namespace Go.Idl
open Go.Proofs
set_option linter.unusedSimpArgs false
set_option linter.unusedVariables false
set_option maxRecDepth 8000
set_option maxHeartbeats 4000000
variable (b : Bool)

def there (l : List Q) (id : Int) : Int := if check l = 0 ∧ has l id = false then 8 else check l
def leafB (l : List Q) (id : Int) : Bool := has l id && decide (sonIds l id = [])
def leaves (l : List Q) : List Int := (l.filter fun q => decide (check l = 0) && leafB l q.Id).map (·.Id)
end Go.Idl
