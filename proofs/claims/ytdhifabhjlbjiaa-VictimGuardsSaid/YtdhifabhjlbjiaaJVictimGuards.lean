/- THE ROW VictimGuards: the statement holds of the given program, for every input: it returns true, and what was handed in reads as it did. -/
import Derived.Test.YtdhifabhjlbjiaaXN
import Derived.Test.YtdhifabhjlbjiaaQJ
import Derived.Test.YtdhifabhjlbjiaaJC
set_option linter.all false
namespace Go.Proofs.Ytdhifabhjlbjiaa
open Go.Idl Go.RowKit Go.ChangeShapes Go.WideShapes Go.ChangeAt
set_option linter.unusedVariables false

set_option maxRecDepth 100000 in
theorem victimGuards_pure (xs : List D) (h : TyAll Try.prog 4 Try.f24.params.toList xs) : PCall Try.prog 24 xs (.d (.bool true)) := by
  rw [Try.params24] at h
  obtain _ | ⟨h0, h⟩ := h
  obtain _ | ⟨h1, h⟩ := h
  obtain _ | ⟨h2, h⟩ := h
  obtain _ | _ := h
  obtain ⟨l0, rfl, a0, b0, w0⟩ := ty_qs (n := 0) h0
  obtain ⟨l1, rfl, a1, b1, w1⟩ := ty_ls (n := 0) h1
  obtain ⟨l2, rfl, a2, b2, w2⟩ := ty_us (n := 0) h2
  exact victimGuards_row l0 l1 l2 a0 b0 a1 b1 w1 a2 b2 w2

set_option maxRecDepth 100000 in
theorem victimGuards_lifted (os : Os) (started : os.Started) (H : Type) (enc : TypeId × Value → H) :
    ReturnsInHanded {} Try.checked os 24 .any (Rows.victimGuardsSpec.pre6 enc Try.prog Try.f24 Rows.victimGuardsRow.domain false) (Rows.victimGuardsSpec.post enc Try.prog Try.f24 false true false false) := by
  refine law_lifted (C := Try.checked) (tb := 4) 4 own started (by kernel_rfl) Try.func24 (ChangeSpec.witness6 (enc := enc) (C := Try.checked) false ⟨#[], #[.slice none 0 0, .slice none 0 0, .slice none 0 0], []⟩ 8 (by kernel_rfl) (by kernel_rfl) (by kernel_rfl) (by kernel_rfl)) (by kernel_rfl) (by kernel_rfl) laid (by kernel_rfl) Try.underlying4 ⟨rfl, ?_⟩ victimGuards_pure
  intro H ds hd
  replace hd : ds.length = 3 := hd
  match ds, hd with
  | [d0, d1, d2], _ => rfl

theorem victimGuards_closed : joinedFacts Try.prog 24 Try.f24 Rows.victimGuardsSpec Rows.victimGuardsRow = true := by
  simp only [joinedFacts, Bool.and_eq_true]
  repeat' apply And.intro
  all_goals first | with_reducible exact jMay | with_reducible exact jHeard | with_reducible exact jLaid | with_reducible exact jMaps | (rw [jLifts]; kernel_rfl) | (rw [jMake]; kernel_rfl) | (rw [jStops]; kernel_rfl) | (rw [jKnobs]; kernel_rfl) | (rw [jKeys]; kernel_rfl) | kernel_rfl
theorem victimGuards_over : Rows.victimGuardsRow.holds Try.pinned (OpenSpec.ofChange Rows.victimGuardsSpec) :=
  OpenClaim.holds_of_wide 24 Try.f24 rfl rfl rfl rfl rfl rfl rfl ⟨rfl, rfl, rfl, rfl, rfl⟩ rfl rfl rfl rfl rfl (by kernel_rfl) Try.func24 victimGuards_closed
    (of_decide_eq_true (by kernel_rfl)) (by unfold Func.isWrapper; first | (rw [if_pos (by decide +kernel)]; kernel_rfl) | (rw [if_neg (by decide +kernel)]; exact ⟨rfl, rfl⟩))
    (fun os started H enc _ => victimGuards_lifted os started H enc)
/-- The row, under a short name, for the claim. -/
theorem victimGuards_holds : Rows.VictimGuardsSaid := victimGuards_over
#print axioms victimGuards_holds
end Go.Proofs.Ytdhifabhjlbjiaa
