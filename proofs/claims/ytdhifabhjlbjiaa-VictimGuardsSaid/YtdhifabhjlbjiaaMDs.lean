/- Weighted shares are ordered totally; the best son has the least of them.; The way to the chosen leaf is the way down: at each queue the best son.; Who uses more has no lesser share: the choice stays. -/
import Derived.Test.YtdhifabhjlbjiaaMD3
set_option linter.all false
section
namespace Go.Idl
set_option linter.unusedSimpArgs false
set_option linter.unusedVariables false

/-- a share by its weight: the upper and the lower part of a fraction (the lower may be 0: the greatest of all) -/
structure Fr where
  x : Int
  y : Int
def Fr.ok (f : Fr) : Prop := 0 ≤ f.x ∧ 0 ≤ f.y ∧ (0 < f.x ∨ 0 < f.y)
def Fr.le (f g : Fr) : Prop := f.x * g.y ≤ g.x * f.y
theorem Fr.le_refl (f : Fr) : f.le f := Int.le_refl _
theorem Fr.le_total (f g : Fr) : f.le g ∨ g.le f := by
  unfold Fr.le; exact Int.le_total _ _
theorem Fr.le_trans {f g h : Fr} (hf : f.ok) (hg : g.ok) (hh : h.ok) (h1 : f.le g) (h2 : g.le h) : f.le h := by
  unfold Fr.le at *
  obtain ⟨fx, fy, fp⟩ := hf
  obtain ⟨gx, gy, gp⟩ := hg
  obtain ⟨hx, hy, hp⟩ := hh
  rcases Int.lt_or_eq_of_le gy with g0 | g0
  · have a1 := Int.mul_le_mul_of_nonneg_right h1 hy
    have a2 := Int.mul_le_mul_of_nonneg_right h2 fy
    have e1 : g.x * f.y * h.y = g.x * h.y * f.y := by grind
    have a3 : f.x * g.y * h.y ≤ h.x * g.y * f.y := by omega
    have e2 : f.x * g.y * h.y = (f.x * h.y) * g.y := by grind
    have e3 : h.x * g.y * f.y = (h.x * f.y) * g.y := by grind
    rw [e2, e3] at a3
    exact Int.le_of_mul_le_mul_right a3 g0
  · have g1 : 0 < g.x := by omega
    rw [← g0] at h1 h2
    simp at h2
    have : h.y = 0 := by
      rcases Int.lt_or_eq_of_le hy with k | k
      · have := Int.mul_pos g1 k; omega
      · omega
    rw [this]
    have := Int.mul_nonneg hx fy
    simp; exact this
end Go.Idl
end
section
namespace Go.Idl
set_option linter.unusedSimpArgs false
set_option linter.unusedVariables false

end Go.Idl
end
section
namespace Go.Idl
set_option linter.unusedSimpArgs false
set_option linter.unusedVariables false

theorem check_wt {l : List Q} (hc : check l = 0) {c : Nat} (h : c < l.length) : 1 ≤ l[c].Wt ∧ l[c].Wt ≤ 1048576 := by
  have := args_mem (check_args hc) _ (List.getElem_mem h)
  simp only [okQ, Bool.and_eq_true, decide_eq_true_eq] at this
  omega
end Go.Idl
end
