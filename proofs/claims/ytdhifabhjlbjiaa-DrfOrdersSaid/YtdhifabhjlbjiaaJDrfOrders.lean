/- THE ROW DrfOrders: the statement holds of the given program, for every input: it returns true, and what was handed in reads as it did. -/
import Derived.Test.YtdhifabhjlbjiaaPR
import Derived.Test.YtdhifabhjlbjiaaQJ
import Derived.Test.YtdhifabhjlbjiaaJC
set_option linter.all false
namespace Go.Proofs.Ytdhifabhjlbjiaa
open Go.Idl Go.RowKit Go.ChangeShapes Go.WideShapes Go.ChangeAt
set_option linter.unusedVariables false

set_option maxRecDepth 100000 in
theorem drfOrders_pure (xs : List D) (h : TyAll Try.prog 4 Try.f11.params.toList xs) : PCall Try.prog 11 xs (.d (.bool true)) := by
  rw [Try.params11] at h
  obtain _ | ⟨h0, h⟩ := h
  obtain _ | ⟨h1, h⟩ := h
  obtain _ | ⟨h2, h⟩ := h
  obtain _ | ⟨h3, h⟩ := h
  obtain _ | _ := h
  obtain ⟨l0, rfl, a0, b0, w0⟩ := ty_qs (n := 0) h0
  obtain ⟨l1, rfl, a1, b1, w1⟩ := ty_us (n := 0) h1
  obtain ⟨l2, rfl, a2, b2, w2⟩ := ty_ids (n := 2) h2
  obtain ⟨l3, rfl, w3⟩ := ty_vec (n := 2) h3
  exact drfOrders_spec l0 l1 l2 l3 a0 b0 a1 b1 a2 b2

set_option maxRecDepth 100000 in
theorem drfOrders_lifted (os : Os) (started : os.Started) (H : Type) (enc : TypeId × Value → H) :
    ReturnsInHanded {} Try.checked os 11 .any (Rows.drfOrdersSpec.pre6 enc Try.prog Try.f11 Rows.drfOrdersRow.domain false) (Rows.drfOrdersSpec.post enc Try.prog Try.f11 false true false false) := by
  refine law_lifted (C := Try.checked) (tb := 4) 4 own started (by kernel_rfl) Try.func11 (ChangeSpec.witness6 (enc := enc) (C := Try.checked) false ⟨#[], #[.slice none 0 0, .slice none 0 0, .slice none 0 0, .agg #[.int .i64 0, .int .i64 0]], []⟩ 8 (by kernel_rfl) (by kernel_rfl) (by kernel_rfl) (by kernel_rfl)) (by kernel_rfl) (by kernel_rfl) laid (by kernel_rfl) Try.underlying4 ⟨rfl, ?_⟩ drfOrders_pure
  intro H ds hd
  replace hd : ds.length = 4 := hd
  match ds, hd with
  | [d0, d1, d2, d3], _ => rfl

theorem drfOrders_closed : joinedFacts Try.prog 11 Try.f11 Rows.drfOrdersSpec Rows.drfOrdersRow = true := by
  simp only [joinedFacts, Bool.and_eq_true]
  repeat' apply And.intro
  all_goals first | with_reducible exact jMay | with_reducible exact jHeard | with_reducible exact jLaid | with_reducible exact jMaps | (rw [jLifts]; kernel_rfl) | (rw [jMake]; kernel_rfl) | (rw [jStops]; kernel_rfl) | (rw [jKnobs]; kernel_rfl) | (rw [jKeys]; kernel_rfl) | kernel_rfl
theorem drfOrders_over : Rows.drfOrdersRow.holds Try.pinned (OpenSpec.ofChange Rows.drfOrdersSpec) :=
  OpenClaim.holds_of_wide 11 Try.f11 rfl rfl rfl rfl rfl rfl rfl ⟨rfl, rfl, rfl, rfl, rfl⟩ rfl rfl rfl rfl rfl (by kernel_rfl) Try.func11 drfOrders_closed
    (of_decide_eq_true (by kernel_rfl)) (by unfold Func.isWrapper; first | (rw [if_pos (by decide +kernel)]; kernel_rfl) | (rw [if_neg (by decide +kernel)]; exact ⟨rfl, rfl⟩))
    (fun os started H enc _ => drfOrders_lifted os started H enc)
/-- The row, under a short name, for the claim. -/
theorem drfOrders_holds : Rows.DrfOrdersSaid := drfOrders_over
#print axioms drfOrders_holds
end Go.Proofs.Ytdhifabhjlbjiaa
