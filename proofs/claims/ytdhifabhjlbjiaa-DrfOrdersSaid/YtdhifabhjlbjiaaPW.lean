/- The first calls of the statements on turns. -/
import Derived.Test.YtdhifabhjlbjiaaPO
import Derived.Test.YtdhifabhjlbjiaaQL
set_option linter.all false
namespace Go.Idl
open Go.Proofs
set_option linter.unusedSimpArgs false
set_option linter.unusedVariables false
set_option maxRecDepth 20000
set_option maxHeartbeats 4000000

def aL : List Q := [⟨0, -1, 1, 10, 10, 0, 0⟩, ⟨1, 0, 1, 10, 10, 0, 0⟩, ⟨2, 0, 2, 10, 10, 0, 0⟩]
def aU : List U := [⟨1, 2, 0⟩, ⟨2, 3, 0⟩]
theorem rising12 : Rising [1, 2] := fun j h => by
  have : j = 0 := by simp at h; omega
  subst this
  show (1 : Int) < 2
  decide
theorem a_choose : chooseE aL aU [1, 2] (10, 10) = 0 := by
  have h1 : sumsE aL aU = 0 := by decide
  have h2 : wantsE aL [1, 2] = 0 := by decide
  have h3 : good 10 10 = true := by decide
  simp [chooseE, h1, marksE, h2, h3, rising12]
theorem a_pick : pickN aL (sumsL aL aU) (cnts aL [1, 2]) (10, 10) = 2 := by decide
theorem a_pick2 : pickN aL (sumsL aL aU) [1, 1, 0] (10, 10) = 1 := by decide
theorem a_less : lessZ aL 2 (cnts aL [1, 2]) = [1, 1, 0] := by decide
theorem a_turns : (turns aL (sumsL aL aU) (10, 10) 2 (cnts aL [1, 2])).1 = [2, 1] := by
  have e1 : pickAt aL (sumsL aL aU) (10, 10) (cnts aL [1, 2]) = 2 := by unfold pickAt; rw [a_pick]; rfl
  have e2 : pickAt aL (sumsL aL aU) (10, 10) [1, 1, 0] = 1 := by unfold pickAt; rw [a_pick2]; rfl
  simp only [turns, e1, a_less, e2]
  rfl
theorem awake6_spec : PCall Try.prog 53 [] (.d (.bool true)) := by
  have hc : chooseV aL aU [1, 2] (10, 10) = .tup [.d (I 2), .d (I 0)] := by
    unfold chooseV pickId
    rw [if_pos a_choose, a_pick]; rfl
  have ho : orderV aL aU [1, 2] (10, 10) = .tup [.d (encI false [2, 1]), .d (I 0)] := by
    unfold orderV
    rw [if_pos a_choose, show ([1, 2] : List Int).length = 2 from rfl, a_turns]
  refine pcallS (fn := Try.f53) [] [] mixed (bodyOf Try.f53) [.tmp 0] Try.func53 rfl rfl (by decide) 52 rfl (by kernel_rfl) ?_
  simp -implicitDefEqProofs [↓gd_tt, ↓gd_ff, ↓gd_tf, ↓gd_ft, bodyOf, Try.f53, stripC, stripL, stripM, onsOf, upto, hintOf, freeOf, List.replicate]
  refine callK_pcall (choose_spec false false false aL aU [1, 2] (10, 10) (by decide) (by decide) (by decide)) (by simp [aL, aU]) (by rw [hc]; rfl) ?_
  rw [hc]
  simp -implicitDefEqProofs [↓gd_tt, ↓gd_ff, ↓gd_tf, ↓gd_ft]
  refine callK_pcall (dorder_spec false false false aL aU [1, 2] (10, 10) (by decide) (by decide) (by decide) (by decide)) (by simp [aL, aU]) (by rw [ho]; rfl) ?_
  rw [ho]
  simp -implicitDefEqProofs [↓gd_tt, ↓gd_ff, ↓gd_tf, ↓gd_ft]
  refine callK_pcall (ints_spec false false [2, 1] [2, 1] (by decide)) rfl rfl ?_
  simp -implicitDefEqProofs [↓gd_tt, ↓gd_ff, ↓gd_tf, ↓gd_ft]
end Go.Idl
