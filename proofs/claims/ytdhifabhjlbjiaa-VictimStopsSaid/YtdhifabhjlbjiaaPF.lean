/- The program's queues: Add, Set, Drop. -/
import Derived.Test.YtdhifabhjlbjiaaPE
import Derived.Test.YtdhifabhjlbjiaaMQall
set_option linter.all false
namespace Go.Idl
open Go.Proofs
set_option linter.unusedSimpArgs false
set_option linter.unusedVariables false
set_option maxRecDepth 8000
variable (b : Bool)



theorem small {α : Type} {l : List α} (h : l.length ≤ 64) : l.length ≤ 140737488355328 := by omega
theorem sonsF_ids (id : Int) : ∀ (l : List Q) (i : Nat), (sonsF id l i).map (·.2.Id) = sonIds l id
  | [], _ => rfl
  | q :: r, i => by
    have ih := sonsF_ids id r (i + 1)
    unfold sonIds at ih ⊢
    by_cases h : q.Par = id <;> simp [sonsF, h, ih]
theorem leaf_nil {l : List Q} {id : Int} : (sons l id).length = 0 ↔ sonIds l id = [] := by
  rw [← sonsF_ids id l 0]; simp [sons]

theorem qleaf_spec (l : List Q) (id : Int) (hl : l.length ≤ maxLen) : PCall Try.prog 114 [encL b l, I id] (.d (.bool (decide (sonIds l id = [])))) := by
  refine pcallS (fn := Try.f114) [] [] mixed (bodyOf Try.f114) [.cell 4 4] Try.func114 rfl rfl (by decide) 8 rfl (by kernel_rfl) ?_
  simp -implicitDefEqProofs [↓gd_tt, ↓gd_ff, ↓gd_tf, ↓gd_ft, bodyOf, Try.f114, stripC, stripL, stripM, onsOf, upto, hintOf, freeOf, List.replicate]
  refine children_spec b l id _ _ ?_
  simp -implicitDefEqProofs [↓gd_tt, ↓gd_ff, ↓gd_tf, ↓gd_ft]
  refine rangeY mixed (children_yields b l id 1 2 hl) (by simp) (by simp) (by simp) (by simp) (by simp) (by intro y hy; obtain ⟨p, _, rfl⟩ := List.mem_map.1 hy; simp [yQ]) (fun k hp => hp = [.var [.d (.bool false)], .var [.d (encL b l)], .var [.d (I id)]] ∧ k = 0) ⟨rfl, rfl⟩ (by rintro k hp ⟨rfl, _⟩; simp) ?_ ?_
  · rintro k hp ⟨rfl, rfl⟩ hi L0 L1
    have hk' : 0 < (sons l id).length := by simpa using hi
    have hn : ¬ sonIds l id = [] := fun e => by rw [leaf_nil.2 e] at hk'; omega
    simp -implicitDefEqProofs [↓gd_tt, ↓gd_ff, ↓gd_tf, ↓gd_ft, yQ, hn]
  · rintro hp' ⟨rfl, hk⟩
    have hn : sonIds l id = [] := leaf_nil.1 (by simpa using hk)
    simp -implicitDefEqProofs [↓gd_tt, ↓gd_ff, ↓gd_tf, ↓gd_ft, hn]

end Go.Idl
