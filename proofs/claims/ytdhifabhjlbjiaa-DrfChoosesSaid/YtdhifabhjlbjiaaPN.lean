/- The statement DrfChooses: what it computes. -/
import Derived.Test.YtdhifabhjlbjiaaQO
import Derived.Test.YtdhifabhjlbjiaaPW
set_option linter.all false
namespace Go.Idl
open Go.Proofs
set_option linter.unusedSimpArgs false
set_option linter.unusedVariables false
set_option maxRecDepth 8000
set_option maxHeartbeats 2000000

theorem drfChooses_spec (l : List Q) (uses : List U) (want : List Int) (t : Int × Int) (hl : l.length ≤ maxLen) (hr : l.length * 56 ≤ reachBytes) (hu : uses.length ≤ maxLen) (hur : uses.length * 24 ≤ reachBytes) (hw : want.length ≤ maxLen) (hw2 : want.length * 8 ≤ reachBytes) : PCall Try.prog 10 [encL false l, encUs false uses, encI false want, encV t] (.d (.bool true)) := by
  obtain ⟨x, y⟩ := t
  refine pcallS (fn := Try.f10) [] [] mixed (bodyOf Try.f10) [.tmp 8] Try.func10 rfl rfl (by decide) 35 rfl (by kernel_rfl) ?_
  simp -implicitDefEqProofs [↓gd_tt, ↓gd_ff, ↓gd_tf, ↓gd_ft, bodyOf, Try.f10, stripC, stripL, stripM, onsOf, upto, hintOf, freeOf, List.replicate]
  refine callK_pcall awake6_spec rfl rfl ?_
  simp -implicitDefEqProofs [↓gd_tt, ↓gd_ff, ↓gd_tf, ↓gd_ft]
  have hv : ∃ a e, chooseV l uses want (x, y) = .tup [.d (I a), .d (I e)] := by
    unfold chooseV; split
    · exact ⟨_, _, rfl⟩
    · exact ⟨_, _, rfl⟩
  obtain ⟨a, e, hv⟩ := hv
  refine callK_pcall (choose_spec false false false l uses want (x, y) hl hu hw) rfl (by rw [hv]; rfl) ?_
  rw [hv]
  simp -implicitDefEqProofs [↓gd_tt, ↓gd_ff, ↓gd_tf, ↓gd_ft]
  refine callK_pcall (rchoose_spec false false false l uses want (x, y) hl hu hw) rfl (by rw [hv]; rfl) ?_
  rw [hv]
  simp -implicitDefEqProofs [↓gd_tt, ↓gd_ff, ↓gd_tf, ↓gd_ft]
end Go.Idl
