/- The first calls of the statements on queues. -/
import Derived.Test.YtdhifabhjlbjiaaPH
import Derived.Test.YtdhifabhjlbjiaaQL
set_option linter.all false
namespace Go.Idl
open Go.Proofs
set_option linter.unusedSimpArgs false
set_option linter.unusedVariables false
set_option maxRecDepth 8000

def twoQ : List Q := [⟨0, -1, 1, 10, 10, 0, 0⟩, ⟨1, 0, 2, 10, 10, 0, 0⟩]
theorem two_spec : PCall Try.prog 101 [] (.d (encL false twoQ)) := by
  refine pcallS (fn := Try.f101) [] [] mixed (bodyOf Try.f101) [.tmp 0] Try.func101 rfl rfl (by decide) 8 rfl (by kernel_rfl) ?_
  simp -implicitDefEqProofs [↓gd_tt, ↓gd_ff, ↓gd_tf, ↓gd_ft, bodyOf, Try.f101, stripC, stripL, stripM, onsOf, upto, hintOf, freeOf, List.replicate]
  simp [twoQ]
def threeQ : Q := ⟨3, 1, 1, 5, 5, 0, 0⟩
theorem awake_spec : PCall Try.prog 31 [] (.d (.bool true)) := by
  refine pcallS (fn := Try.f31) [] [] mixed (bodyOf Try.f31) [.tmp 0] Try.func31 rfl rfl (by decide) 38 rfl (by kernel_rfl) ?_
  simp -implicitDefEqProofs [↓gd_tt, ↓gd_ff, ↓gd_tf, ↓gd_ft, bodyOf, Try.f31, stripC, stripL, stripM, onsOf, upto, hintOf, freeOf, List.replicate]
  refine callK_pcall two_spec rfl rfl ?_
  simp -implicitDefEqProofs [↓gd_tt, ↓gd_ff, ↓gd_tf, ↓gd_ft]
  have e0 : addE twoQ threeQ = 0 := by decide
  have ec : check (ins twoQ threeQ) = 0 := by decide
  have el : leafIds (ins twoQ threeQ) (down (ins twoQ threeQ) 0) = [3] := by decide
  have e2 : check twoQ = 0 := by decide
  have e3 : (ins twoQ threeQ).length = 3 := by decide
  have e1 : addP twoQ threeQ = .tup [.d (encL false (ins twoQ threeQ)), .d (I 0)] := by simp [addP, e0, doneP, ec]
  refine callK_pcall (qadd_spec false twoQ threeQ (by decide)) (by simp [threeQ]) (by rw [e1]; rfl) ?_
  rw [e1]
  simp -implicitDefEqProofs [↓gd_tt, ↓gd_ff, ↓gd_tf, ↓gd_ft]
  refine callK_pcall (qleaves_spec false (ins twoQ threeQ) (by rw [e3]; decide)) rfl (by rw [if_pos ec]; rfl) ?_
  rw [if_pos ec, el]
  simp -implicitDefEqProofs [↓gd_tt, ↓gd_ff, ↓gd_tf, ↓gd_ft, e3]
  refine callK_pcall (ints_spec false false [3] [3] (by decide)) rfl rfl ?_
  simp -implicitDefEqProofs [↓gd_tt, ↓gd_ff, ↓gd_tf, ↓gd_ft]
  refine callK_pcall two_spec rfl rfl ?_
  simp -implicitDefEqProofs [↓gd_tt, ↓gd_ff, ↓gd_tf, ↓gd_ft]
  refine callK_pcall (qcheck_spec false twoQ (by decide)) rfl rfl ?_
  simp -implicitDefEqProofs [↓gd_tt, ↓gd_ff, ↓gd_tf, ↓gd_ft, e2]
end Go.Idl
