/- The program's turns: pick. -/
import Derived.Test.YtdhifabhjlbjiaaPD
import Derived.Test.YtdhifabhjlbjiaaPV
import Derived.Test.YtdhifabhjlbjiaaPS
set_option linter.all false
namespace Go.Idl
open Go.Proofs
set_option linter.unusedSimpArgs false
set_option linter.unusedVariables false
set_option maxRecDepth 8000
set_option maxHeartbeats 4000000
variable (b c d : Bool)

/-- the best of some sons, with one that was found before -/
def bestF (l : List Q) (sums : List (Int × Int)) (cnt : List Int) (t : Int × Int) : List (Nat × Q) → Int → Int
  | [], best => best
  | p :: r, best => if cnt.getD p.1 0 = 0 then bestF l sums cnt t r best
    else if best < 0 ∨ ordZ (sums.getD p.1 (0, 0)) p.2.Wt (sums.getD best.toNat (0, 0)) (l.getD best.toNat q0).Wt t < 0 then bestF l sums cnt t r p.1
    else bestF l sums cnt t r best
def bestZ (l : List Q) (sums : List (Int × Int)) (cnt : List Int) (t : Int × Int) (at_ : Nat) : Int := bestF l sums cnt t (sons l (l.getD at_ q0).Id) (-1)
/-- the way down -/
def pickF (l : List Q) (sums : List (Int × Int)) (cnt : List Int) (t : Int × Int) : Nat → Nat → Nat
  | 0, a => a
  | n + 1, a => if bestZ l sums cnt t a < 0 then a else pickF l sums cnt t n (bestZ l sums cnt t a).toNat
def pickN (l : List Q) (sums : List (Int × Int)) (cnt : List Int) (t : Int × Int) : Nat := pickF l sums cnt t l.length 0
end Go.Idl
