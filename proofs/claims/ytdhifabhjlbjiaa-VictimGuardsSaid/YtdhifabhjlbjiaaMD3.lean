/- The order of all turns: each wish once, the chosen one first. -/
import Derived.Test.YtdhifabhjlbjiaaPO
import Derived.Test.YtdhifabhjlbjiaaMD2
set_option linter.all false
namespace Go.Idl
set_option linter.unusedSimpArgs false
set_option linter.unusedVariables false

theorem rising_pairwise {w : List Int} (h : Rising w) : w.Pairwise (· < ·) := by
  rw [List.pairwise_iff_getElem]
  intro i j hi hj hij
  have key : ∀ d (h2 : i + 1 + d < w.length), w[i] < w[i + 1 + d] := by
    intro d
    induction d with
    | zero => intro h2; exact h i h2
    | succ d ih =>
      intro h2
      have h3 := ih (by omega)
      have h4 := h (i + 1 + d) (by omega)
      have e : i + 1 + (d + 1) = i + 1 + d + 1 := by omega
      simp only [e]
      omega
  obtain ⟨d, rfl⟩ : ∃ d, j = i + 1 + d := ⟨j - (i + 1), by omega⟩
  exact key d hj
theorem rising_nodup {w : List Int} (h : Rising w) : w.Nodup := (rising_pairwise h).imp fun h => by omega
end Go.Idl
