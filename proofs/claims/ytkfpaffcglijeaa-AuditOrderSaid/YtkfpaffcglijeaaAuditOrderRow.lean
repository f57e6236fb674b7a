/- THE ROW AuditOrder: the statement holds of the given program, for every input: it returns true, and what was handed in reads as it did. -/
import Derived.Test.YtkfpaffcglijeaaAuditOrderPart21
import Derived.Test.YtkfpaffcglijeaaAuditOrderPart20
set_option linter.all false
namespace Go.Proofs.Ytkfpaffcglijeaa
open Go.Idl Go.RowKit Go.ChangeShapes Go.WideShapes Go.ChangeAt
set_option linter.unusedVariables false

set_option maxRecDepth 100000 in
theorem auditOrder_pure (xs : List D) (h : TyAll Try.prog 5 Try.f4.params.toList xs) : PCall Try.prog 4 xs (.d (.bool true)) := by
  rw [Try.params4] at h
  obtain _ | ⟨h0, h⟩ := h
  obtain _ | _ := h
  obtain ⟨l0, rfl, a0⟩ := ty_st (n := 0) h0
  exact auditOrder_spec l0 a0

set_option maxRecDepth 100000 in
theorem auditOrder_lifted (os : Os) (started : os.Started) (H : Type) (enc : TypeId × Value → H) :
    ReturnsInHanded {} Try.checked os 4 .any (Rows.auditOrderSpec.pre6 enc Try.prog Try.f4 Rows.auditOrderRow.domain false) (Rows.auditOrderSpec.post enc Try.prog Try.f4 false true false false) := by
  refine law_lifted (C := Try.checked) (tb := 4) 5 own started (by kernel_rfl) Try.func4 (ChangeSpec.witness6 (enc := enc) (C := Try.checked) false ⟨#[], #[.agg #[.int .i64 0, .int .i64 0, .int .i64 0, .slice none 0 0, .slice none 0 0, .slice none 0 0, .slice none 0 0, .slice none 0 0]], []⟩ 8 (by kernel_rfl) (by kernel_rfl) (by kernel_rfl) (by kernel_rfl)) (by kernel_rfl) (by kernel_rfl) laid (by kernel_rfl) Try.underlying4 ⟨rfl, ?_⟩ auditOrder_pure
  intro H ds hd
  replace hd : ds.length = 1 := hd
  match ds, hd with
  | [d0], _ => rfl

theorem auditOrder_closed : joinedFacts Try.prog 4 Try.f4 Rows.auditOrderSpec Rows.auditOrderRow = true := by
  simp only [joinedFacts, Bool.and_eq_true]
  repeat' apply And.intro
  all_goals first | with_reducible exact jMay | with_reducible exact jHeard | with_reducible exact jLaid | with_reducible exact jMaps | (rw [jLifts]; kernel_rfl) | (rw [jMake]; kernel_rfl) | (rw [jStops]; kernel_rfl) | (rw [jKnobs]; kernel_rfl) | (rw [jKeys]; kernel_rfl) | kernel_rfl
theorem auditOrder_over : Rows.auditOrderRow.holds Try.pinned (OpenSpec.ofChange Rows.auditOrderSpec) :=
  OpenClaim.holds_of_wide 4 Try.f4 rfl rfl rfl rfl rfl rfl rfl ⟨rfl, rfl, rfl, rfl, rfl⟩ rfl rfl rfl rfl rfl (by kernel_rfl) Try.func4 auditOrder_closed
    (of_decide_eq_true (by kernel_rfl)) (by unfold Func.isWrapper; first | (rw [if_pos (by decide +kernel)]; kernel_rfl) | (rw [if_neg (by decide +kernel)]; exact ⟨rfl, rfl⟩))
    (fun os started H enc _ => auditOrder_lifted os started H enc)
/-- The row, under a short name, for the claim. -/
theorem auditOrder_holds : Rows.AuditOrderSaid := auditOrder_over
#print axioms auditOrder_holds
end Go.Proofs.Ytkfpaffcglijeaa
