/- The statement VictimUses: what it computes. -/
import Derived.Test.YtdhifabhjlbjiaaXB
import Derived.Test.YtdhifabhjlbjiaaXE
import Derived.Test.YtdhifabhjlbjiaaQL
import Derived.Test.YtdhifabhjlbjiaaXT
set_option linter.all false
namespace Go.Idl
open Go.Proofs
set_option linter.unusedSimpArgs false
set_option linter.unusedVariables false
set_option maxRecDepth 20000
set_option maxHeartbeats 4000000
variable (b c : Bool)

def eL : List Q := [⟨0, -1, 1, 10, 10, 0, 0⟩, ⟨1, 0, 1, 10, 10, 0, 0⟩]
def eA : List Le := [⟨4, 1, 0, [0], 0, 0, 0, false⟩, ⟨7, 1, 0, [1, 2], 0, 0, 0, false⟩]
def eB : List Le := [⟨4, 1, 0, [0], 0, 0, 0, false⟩, ⟨7, 1, 0, [1], 0, 0, 0, false⟩]
theorem eA_ids : idsL eA = [1] := by
  have : (runA eA).1 = [(1, 3, 0)] := by decide
  unfold idsL; rw [this]; simp
theorem eB_ids : idsL eB = [1] := by
  have : (runA eB).1 = [(1, 2, 0)] := by decide
  unfold idsL; rw [this]; simp
theorem eA_uses : vusesV eA = .tup [.d (.sl false 3 [.agg [I 1, I 3, I 0]]), .d (I 0)] := by
  have h1 : vusesE eA = 0 := by decide
  have h2 : usesL eA = [⟨1, 3, 0⟩] := by unfold usesL; rw [eA_ids]; decide
  unfold vusesV; rw [if_pos h1, h2]; rfl
theorem eB_choose : vchooseV eL eB (10, 10) = .tup [.d (I 7), .d (I 0)] := by
  have hlv : liveL eB = eB := by rfl
  have hu : usesL eB = [⟨1, 2, 0⟩] := by unfold usesL; rw [eB_ids]; decide
  have hE : vsumsE eL eB = 0 := by
    unfold vsumsE
    rw [hu]
    decide
  have hr : runC eL (sumsL eL [⟨1, 2, 0⟩]) (10, 10) eB = (1, 7) := by decide
  have hg : good 10 10 = true := by decide
  unfold vchooseV
  rw [hlv, hu, hr, if_neg (by simp [hE]), if_neg (by simp [hg])]
  rfl
theorem awake8_spec : PCall Try.prog 66 [] (.d (.bool true)) := by
  refine pcallS (fn := Try.f66) [] [] mixed (bodyOf Try.f66) [.tmp 0] Try.func66 rfl rfl (by decide) 56 rfl (by kernel_rfl) ?_
  simp -implicitDefEqProofs [↓gd_tt, ↓gd_ff, ↓gd_tf, ↓gd_ft, bodyOf, Try.f66, stripC, stripL, stripM, onsOf, upto, hintOf, freeOf, List.replicate]
  refine callK_pcall (vuses_spec false eA (by decide) (by decide) (by decide)) (by simp [eA]) (by rw [eA_uses]; rfl) ?_
  rw [eA_uses]
  simp -implicitDefEqProofs [↓gd_tt, ↓gd_ff, ↓gd_tf, ↓gd_ft]
  refine callK_pcall (vchoose_spec false false eL eB (10, 10) (by decide) (by decide) (by decide) (by decide)) (by simp [eL, eB]) (by rw [eB_choose]; rfl) ?_
  rw [eB_choose]
  simp -implicitDefEqProofs [↓gd_tt, ↓gd_ff, ↓gd_tf, ↓gd_ft]
end Go.Idl
