/- The program's queues: Leaves, there, leaf. -/
import Derived.Test.YtdhifabhjlbjiaaPG
import Derived.Test.YtdhifabhjlbjiaaQB
set_option linter.all false
namespace Go.Idl
open Go.Proofs
set_option linter.unusedSimpArgs false
set_option linter.unusedVariables false
set_option maxRecDepth 8000
variable (b : Bool)

theorem qleafE_spec (l : List Q) (id : Int) (hc : check l = 0) : PCall Try.prog 135 [encL b l, I id] (.d (I (if has l id = false then 8 else if sonIds l id = [] then 0 else 14))) := by
  have hr := check_rises hc
  have h64 := check_len hc
  have hl : l.length ≤ maxLen := by
    have : 64 ≤ maxLen := by decide
    omega
  refine pcallS (fn := Try.f135) [] [] mixed (bodyOf Try.f135) [.tmp 4] Try.func135 rfl rfl (by decide) 19 rfl (by kernel_rfl) ?_
  simp -implicitDefEqProofs [↓gd_tt, ↓gd_ff, ↓gd_tf, ↓gd_ft, bodyOf, Try.f135, stripC, stripL, stripM, onsOf, upto, hintOf, freeOf, List.replicate]
  refine callK_pcall (qfind_spec b l id (small h64.2) hr) rfl rfl ?_
  simp -implicitDefEqProofs [↓gd_tt, ↓gd_ff, ↓gd_tf, ↓gd_ft]
  refine ⟨fun e => by simp [e], fun e => callK_pcall (qleaf_spec b l id hl) rfl rfl ?_⟩
  simp -implicitDefEqProofs [↓gd_tt, ↓gd_ff, ↓gd_tf, ↓gd_ft, e]

end Go.Idl
