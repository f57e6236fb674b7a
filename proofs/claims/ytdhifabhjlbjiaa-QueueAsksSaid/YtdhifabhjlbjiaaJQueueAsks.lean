/- THE ROW QueueAsks: the statement holds of the given program, for every input: it returns true, and what was handed in reads as it did. -/
import Derived.Test.YtdhifabhjlbjiaaQN
import Derived.Test.YtdhifabhjlbjiaaQJ
import Derived.Test.YtdhifabhjlbjiaaJC
set_option linter.all false
namespace Go.Proofs.Ytdhifabhjlbjiaa
open Go.Idl Go.RowKit Go.ChangeShapes Go.WideShapes Go.ChangeAt
set_option linter.unusedVariables false

set_option maxRecDepth 100000 in
theorem queueAsks_pure (xs : List D) (h : TyAll Try.prog 4 Try.f8.params.toList xs) : PCall Try.prog 8 xs (.d (.bool true)) := by
  rw [Try.params8] at h
  obtain _ | ⟨h0, h⟩ := h
  obtain _ | ⟨h1, h⟩ := h
  obtain _ | _ := h
  obtain ⟨l0, rfl, a0, b0, w0⟩ := ty_qs (n := 0) h0
  obtain ⟨l1, rfl, w1⟩ := ty_id (n := 3) h1
  exact asks_spec l0 l1 a0 b0

set_option maxRecDepth 100000 in
theorem queueAsks_lifted (os : Os) (started : os.Started) (H : Type) (enc : TypeId × Value → H) :
    ReturnsInHanded {} Try.checked os 8 .any (Rows.queueAsksSpec.pre6 enc Try.prog Try.f8 Rows.queueAsksRow.domain false) (Rows.queueAsksSpec.post enc Try.prog Try.f8 false true false false) := by
  refine law_lifted (C := Try.checked) (tb := 4) 4 own started (by kernel_rfl) Try.func8 (ChangeSpec.witness6 (enc := enc) (C := Try.checked) false ⟨#[], #[.slice none 0 0, .int .i64 0], []⟩ 8 (by kernel_rfl) (by kernel_rfl) (by kernel_rfl) (by kernel_rfl)) (by kernel_rfl) (by kernel_rfl) laid (by kernel_rfl) Try.underlying4 ⟨rfl, ?_⟩ queueAsks_pure
  intro H ds hd
  replace hd : ds.length = 2 := hd
  match ds, hd with
  | [d0, d1], _ => rfl

theorem queueAsks_closed : joinedFacts Try.prog 8 Try.f8 Rows.queueAsksSpec Rows.queueAsksRow = true := by
  simp only [joinedFacts, Bool.and_eq_true]
  repeat' apply And.intro
  all_goals first | with_reducible exact jMay | with_reducible exact jHeard | with_reducible exact jLaid | with_reducible exact jMaps | (rw [jLifts]; kernel_rfl) | (rw [jMake]; kernel_rfl) | (rw [jStops]; kernel_rfl) | (rw [jKnobs]; kernel_rfl) | (rw [jKeys]; kernel_rfl) | kernel_rfl
theorem queueAsks_over : Rows.queueAsksRow.holds Try.pinned (OpenSpec.ofChange Rows.queueAsksSpec) :=
  OpenClaim.holds_of_wide 8 Try.f8 rfl rfl rfl rfl rfl rfl rfl ⟨rfl, rfl, rfl, rfl, rfl⟩ rfl rfl rfl rfl rfl (by kernel_rfl) Try.func8 queueAsks_closed
    (of_decide_eq_true (by kernel_rfl)) (by unfold Func.isWrapper; first | (rw [if_pos (by decide +kernel)]; kernel_rfl) | (rw [if_neg (by decide +kernel)]; exact ⟨rfl, rfl⟩))
    (fun os started H enc _ => queueAsks_lifted os started H enc)
/-- The row, under a short name, for the claim. -/
theorem queueAsks_holds : Rows.QueueAsksSaid := queueAsks_over
#print axioms queueAsks_holds
end Go.Proofs.Ytdhifabhjlbjiaa
