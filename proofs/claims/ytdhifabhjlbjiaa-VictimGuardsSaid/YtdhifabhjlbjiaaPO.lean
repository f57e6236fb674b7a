/- The program's turns: Order. -/
import Derived.Test.YtdhifabhjlbjiaaPC
set_option linter.all false
namespace Go.Idl
open Go.Proofs
set_option linter.unusedSimpArgs false
set_option linter.unusedVariables false
set_option maxRecDepth 8000
set_option maxHeartbeats 4000000
variable (b c d : Bool)

/-- the counts without one turn -/
def lessZ (l : List Q) (w : Int) (m : List Int) : List Int := (List.range m.length).map fun j => if j ∈ (up l w).map (·.1) then IntKind.i64.wrap (m.getD j 0 - 1) else m.getD j 0
noncomputable def pickAt (l : List Q) (sums : List (Int × Int)) (t : Int × Int) (cnt : List Int) : Int := (l.getD (pickN l sums cnt t) q0).Id
/-- so many turns -/
noncomputable def turns (l : List Q) (sums : List (Int × Int)) (t : Int × Int) : Nat → List Int → List Int × List Int
  | 0, cnt => ([], cnt)
  | n + 1, cnt => ((turns l sums t n cnt).1 ++ [pickAt l sums t (turns l sums t n cnt).2], lessZ l (pickAt l sums t (turns l sums t n cnt).2) (turns l sums t n cnt).2)
end Go.Idl
