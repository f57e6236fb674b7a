/- What DrfLeast asks besides: vec.Less, At, wished. -/
import Derived.Test.YtdhifabhjlbjiaaPW
import Derived.Test.YtdhifabhjlbjiaaMDs
import Derived.Test.YtdhifabhjlbjiaaPGs
import Derived.Test.YtdhifabhjlbjiaaQA
set_option linter.all false
namespace Go.Idl
open Go.Proofs
set_option linter.unusedSimpArgs false
set_option linter.unusedVariables false
set_option maxRecDepth 8000
set_option maxHeartbeats 2000000
variable (b c : Bool)

theorem at_spec (l : List Q) (id : Int) (hl : l.length ≤ maxLen) : PCall Try.prog 63 [encL b l, I id] (.d (I (place l id))) := by
  refine pcallS (fn := Try.f63) [] [] mixed (bodyOf Try.f63) [.tmp 4] Try.func63 rfl rfl (by decide) 6 rfl (by kernel_rfl) ?_
  simp -implicitDefEqProofs [↓gd_tt, ↓gd_ff, ↓gd_tf, ↓gd_ft, bodyOf, Try.f63, stripC, stripL, stripM, onsOf, upto, hintOf, freeOf, List.replicate]
  refine callK_pcall (place_spec b l id hl) rfl rfl ?_
  simp -implicitDefEqProofs [↓gd_tt, ↓gd_ff, ↓gd_tf, ↓gd_ft]
end Go.Idl
