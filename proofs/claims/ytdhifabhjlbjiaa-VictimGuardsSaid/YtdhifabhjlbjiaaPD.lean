/- The program's turns: marks. -/
import Derived.Test.YtdhifabhjlbjiaaPGs
import Derived.Test.YtdhifabhjlbjiaaMD
import Derived.Test.YtdhifabhjlbjiaaIdlSc
set_option linter.all false
namespace Go.Idl
open Go.Proofs
set_option linter.unusedSimpArgs false
set_option linter.unusedVariables false
set_option maxRecDepth 8000
set_option maxHeartbeats 2000000
variable (b c : Bool)

theorem is_spec (l : List Q) (id : Int) (hc : check l = 0) : PCall Try.prog 155 [encL b l, I id] (.d (I (if has l id = false then 8 else if sonIds l id = [] then 0 else 14))) := by
  refine pcallS (fn := Try.f155) [] [] mixed (bodyOf Try.f155) [.tmp 4] Try.func155 rfl rfl (by decide) 6 rfl (by kernel_rfl) ?_
  simp -implicitDefEqProofs [↓gd_tt, ↓gd_ff, ↓gd_tf, ↓gd_ft, bodyOf, Try.f155, stripC, stripL, stripM, onsOf, upto, hintOf, freeOf, List.replicate]
  refine callK_pcall (qleafE_spec b l id hc) rfl rfl ?_
  simp -implicitDefEqProofs [↓gd_tt, ↓gd_ff, ↓gd_tf, ↓gd_ft]
end Go.Idl
