/- THE ROW QueueApart: the statement holds of the given program, for every input: it returns true, and what was handed in reads as it did. -/
import Derived.Test.YtkfpaffcglijeaaQueueApartPart17
import Derived.Test.YtkfpaffcglijeaaQueueApartPart16
import Derived.Test.YtkfpaffcglijeaaQueueApartPart18
set_option linter.all false
namespace Go.Proofs.Ytkfpaffcglijeaa
open Go.Idl Go.RowKit Go.ChangeShapes Go.WideShapes Go.ChangeAt
set_option linter.unusedVariables false

set_option maxRecDepth 100000 in
theorem queueApart_pure (xs : List D) (h : TyAll Try.prog 4 Try.f5.params.toList xs) : PCall Try.prog 5 xs (.d (.bool true)) := by
  rw [Try.params5] at h
  obtain _ | ⟨h0, h⟩ := h
  obtain _ | ⟨h1, h⟩ := h
  obtain _ | ⟨h2, h⟩ := h
  obtain _ | _ := h
  obtain ⟨l0, rfl, a0, b0, w0⟩ := ty_qs (n := 0) h0
  obtain ⟨l1, rfl, w1⟩ := ty_q (n := 1) h1
  obtain ⟨l2, rfl, w2⟩ := ty_id (n := 3) h2
  exact apart_spec l0 l1 l2 a0 b0

set_option maxRecDepth 100000 in
theorem queueApart_lifted (os : Os) (started : os.Started) (H : Type) (enc : TypeId × Value → H) :
    ReturnsInHanded {} Try.checked os 5 .any (Rows.queueApartSpec.pre6 enc Try.prog Try.f5 Rows.queueApartRow.domain false) (Rows.queueApartSpec.post enc Try.prog Try.f5 false true false false) := by
  refine law_lifted (C := Try.checked) (tb := 4) 4 own started (by kernel_rfl) Try.func5 (ChangeSpec.witness6 (enc := enc) (C := Try.checked) false ⟨#[], #[.slice none 0 0, .agg #[.int .i64 0, .int .i64 0, .int .i64 0, .int .i64 0, .int .i64 0, .int .i64 0, .int .i64 0], .int .i64 0], []⟩ 8 (by kernel_rfl) (by kernel_rfl) (by kernel_rfl) (by kernel_rfl)) (by kernel_rfl) (by kernel_rfl) laid (by kernel_rfl) Try.underlying4 ⟨rfl, ?_⟩ queueApart_pure
  intro H ds hd
  replace hd : ds.length = 3 := hd
  match ds, hd with
  | [d0, d1, d2], _ => rfl

theorem queueApart_closed : joinedFacts Try.prog 5 Try.f5 Rows.queueApartSpec Rows.queueApartRow = true := by
  simp only [joinedFacts, Bool.and_eq_true]
  repeat' apply And.intro
  all_goals first | with_reducible exact jMay | with_reducible exact jHeard | with_reducible exact jLaid | with_reducible exact jMaps | (rw [jLifts]; kernel_rfl) | (rw [jMake]; kernel_rfl) | (rw [jStops]; kernel_rfl) | (rw [jKnobs]; kernel_rfl) | (rw [jKeys]; kernel_rfl) | kernel_rfl
theorem queueApart_over : Rows.queueApartRow.holds Try.pinned (OpenSpec.ofChange Rows.queueApartSpec) :=
  OpenClaim.holds_of_wide 5 Try.f5 rfl rfl rfl rfl rfl rfl rfl ⟨rfl, rfl, rfl, rfl, rfl⟩ rfl rfl rfl rfl rfl (by kernel_rfl) Try.func5 queueApart_closed
    (of_decide_eq_true (by kernel_rfl)) (by unfold Func.isWrapper; first | (rw [if_pos (by decide +kernel)]; kernel_rfl) | (rw [if_neg (by decide +kernel)]; exact ⟨rfl, rfl⟩))
    (fun os started H enc _ => queueApart_lifted os started H enc)
/-- The row, under a short name, for the claim. -/
theorem queueApart_holds : Rows.QueueApartSaid := queueApart_over
#print axioms queueApart_holds
end Go.Proofs.Ytkfpaffcglijeaa
