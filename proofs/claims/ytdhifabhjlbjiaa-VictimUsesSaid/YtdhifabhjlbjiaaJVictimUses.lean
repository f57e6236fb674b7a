/- THE ROW VictimUses: the statement holds of the given program, for every input: it returns true, and what was handed in reads as it did. -/
import Derived.Test.YtdhifabhjlbjiaaXF
import Derived.Test.YtdhifabhjlbjiaaQJ
import Derived.Test.YtdhifabhjlbjiaaJC
set_option linter.all false
namespace Go.Proofs.Ytdhifabhjlbjiaa
open Go.Idl Go.RowKit Go.ChangeShapes Go.WideShapes Go.ChangeAt
set_option linter.unusedVariables false

set_option maxRecDepth 100000 in
theorem victimUses_pure (xs : List D) (h : TyAll Try.prog 4 Try.f19.params.toList xs) : PCall Try.prog 19 xs (.d (.bool true)) := by
  rw [Try.params19] at h
  obtain _ | ⟨h0, h⟩ := h
  obtain _ | _ := h
  obtain ⟨l0, rfl, a0, b0, w0⟩ := ty_ls (n := 0) h0
  exact victimUses_row l0 a0 b0 w0

set_option maxRecDepth 100000 in
theorem victimUses_lifted (os : Os) (started : os.Started) (H : Type) (enc : TypeId × Value → H) :
    ReturnsInHanded {} Try.checked os 19 .any (Rows.victimUsesSpec.pre6 enc Try.prog Try.f19 Rows.victimUsesRow.domain false) (Rows.victimUsesSpec.post enc Try.prog Try.f19 false true false false) := by
  refine law_lifted (C := Try.checked) (tb := 4) 4 own started (by kernel_rfl) Try.func19 (ChangeSpec.witness6 (enc := enc) (C := Try.checked) false ⟨#[], #[.slice none 0 0], []⟩ 8 (by kernel_rfl) (by kernel_rfl) (by kernel_rfl) (by kernel_rfl)) (by kernel_rfl) (by kernel_rfl) laid (by kernel_rfl) Try.underlying4 ⟨rfl, ?_⟩ victimUses_pure
  intro H ds hd
  replace hd : ds.length = 1 := hd
  match ds, hd with
  | [d0], _ => rfl

theorem victimUses_closed : joinedFacts Try.prog 19 Try.f19 Rows.victimUsesSpec Rows.victimUsesRow = true := by
  simp only [joinedFacts, Bool.and_eq_true]
  repeat' apply And.intro
  all_goals first | with_reducible exact jMay | with_reducible exact jHeard | with_reducible exact jLaid | with_reducible exact jMaps | (rw [jLifts]; kernel_rfl) | (rw [jMake]; kernel_rfl) | (rw [jStops]; kernel_rfl) | (rw [jKnobs]; kernel_rfl) | (rw [jKeys]; kernel_rfl) | kernel_rfl
theorem victimUses_over : Rows.victimUsesRow.holds Try.pinned (OpenSpec.ofChange Rows.victimUsesSpec) :=
  OpenClaim.holds_of_wide 19 Try.f19 rfl rfl rfl rfl rfl rfl rfl ⟨rfl, rfl, rfl, rfl, rfl⟩ rfl rfl rfl rfl rfl (by kernel_rfl) Try.func19 victimUses_closed
    (of_decide_eq_true (by kernel_rfl)) (by unfold Func.isWrapper; first | (rw [if_pos (by decide +kernel)]; kernel_rfl) | (rw [if_neg (by decide +kernel)]; exact ⟨rfl, rfl⟩))
    (fun os started H enc _ => victimUses_lifted os started H enc)
/-- The row, under a short name, for the claim. -/
theorem victimUses_holds : Rows.VictimUsesSaid := victimUses_over
#print axioms victimUses_holds
end Go.Proofs.Ytdhifabhjlbjiaa
