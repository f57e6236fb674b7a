/- Weighted shares are ordered totally; the best son has the least of them. -/
import Derived.Test.YtdhifabhjlbjiaaMD3
set_option linter.all false
namespace Go.Idl
set_option linter.unusedSimpArgs false
set_option linter.unusedVariables false

/-- a share by its weight: the upper and the lower part of a fraction (the lower may be 0: the greatest of all) -/
structure Fr where
  x : Int
  y : Int
def Fr.ok (f : Fr) : Prop := 0 ≤ f.x ∧ 0 ≤ f.y ∧ (0 < f.x ∨ 0 < f.y)
def Fr.le (f g : Fr) : Prop := f.x * g.y ≤ g.x * f.y
theorem Fr.le_refl (f : Fr) : f.le f := Int.le_refl _
theorem Fr.le_total (f g : Fr) : f.le g ∨ g.le f := by
  unfold Fr.le; exact Int.le_total _ _
theorem Fr.le_trans {f g h : Fr} (hf : f.ok) (hg : g.ok) (hh : h.ok) (h1 : f.le g) (h2 : g.le h) : f.le h := by
  unfold Fr.le at *
  obtain ⟨fx, fy, fp⟩ := hf
  obtain ⟨gx, gy, gp⟩ := hg
  obtain ⟨hx, hy, hp⟩ := hh
  rcases Int.lt_or_eq_of_le gy with g0 | g0
  · have a1 := Int.mul_le_mul_of_nonneg_right h1 hy
    have a2 := Int.mul_le_mul_of_nonneg_right h2 fy
    have e1 : g.x * f.y * h.y = g.x * h.y * f.y := by grind
    have a3 : f.x * g.y * h.y ≤ h.x * g.y * f.y := by omega
    have e2 : f.x * g.y * h.y = (f.x * h.y) * g.y := by grind
    have e3 : h.x * g.y * f.y = (h.x * f.y) * g.y := by grind
    rw [e2, e3] at a3
    exact Int.le_of_mul_le_mul_right a3 g0
  · have g1 : 0 < g.x := by omega
    rw [← g0] at h1 h2
    simp at h2
    have : h.y = 0 := by
      rcases Int.lt_or_eq_of_le hy with k | k
      · have := Int.mul_pos g1 k; omega
      · omega
    rw [this]
    have := Int.mul_nonneg hx fy
    simp; exact this
/-- the weighted share of an amount -/
def frZ (a : Int × Int) (w : Int) (t : Int × Int) : Fr := ⟨(shareZ a t).1, (shareZ a t).2 * w⟩
theorem frZ_ok {a t : Int × Int} {w : Int} (ha : good a.1 a.2 = true) (ht : good t.1 t.2 = true) (hw : 1 ≤ w) : (frZ a w t).ok := by
  obtain ⟨h1, h2, h3⟩ := shareZ_bound ha ht
  refine ⟨h1.1, Int.mul_nonneg h2.1 (by omega), ?_⟩
  rcases h3 with h | h
  · exact .inl h
  · exact .inr (Int.mul_pos h (by omega))
theorem ordZ_fr {a b t : Int × Int} {wa wb : Int} (ha : good a.1 a.2 = true) (hb : good b.1 b.2 = true) (ht : good t.1 t.2 = true) (hwa : 1 ≤ wa) (hwb : 1 ≤ wb) :
    ordZ a wa b wb t = sgn ((frZ a wa t).x * (frZ b wb t).y) ((frZ b wb t).x * (frZ a wa t).y) := by
  obtain ⟨a1, a2, a3⟩ := shareZ_bound ha ht
  obtain ⟨b1, b2, b3⟩ := shareZ_bound hb ht
  unfold ordZ frZ
  simp only
  generalize (shareZ a t).1 = an at *
  generalize (shareZ a t).2 = ad at *
  generalize (shareZ b t).1 = bn at *
  generalize (shareZ b t).2 = bd at *
  by_cases h : ad = 0 ∨ bd = 0
  · rw [if_pos h]
    by_cases h1 : ad = 0
    · subst h1
      by_cases h2 : bd = 0
      · subst h2; simp [sgn]
      · have p1 : 0 < an := by omega
        have p2 : 0 < bd * wb := Int.mul_pos (by omega) (by omega)
        have p3 := Int.mul_pos p1 p2
        simp only [Int.zero_mul, Int.mul_zero]
        unfold sgn
        rw [if_neg (by omega), if_pos p3]
        omega
    · have h2 : bd = 0 := by rcases h with k | k; exact absurd k h1; exact k
      subst h2
      have p1 : 0 < bn := by omega
      have p2 : 0 < ad * wa := Int.mul_pos (by omega) (by omega)
      have p3 := Int.mul_pos p1 p2
      simp only [Int.zero_mul, Int.mul_zero]
      unfold sgn
      rw [if_pos p3]
      omega
  · rw [if_neg h, Int.mul_assoc, Int.mul_assoc]
theorem sgn_neg {x y : Int} : sgn x y < 0 ↔ x < y := by
  unfold sgn; split
  · constructor <;> intro _ <;> omega
  · split <;> constructor <;> intro _ <;> omega
theorem sgn_zero {x y : Int} : sgn x y = 0 ↔ x = y := by
  unfold sgn; split
  · constructor <;> intro _ <;> omega
  · split <;> constructor <;> intro _ <;> omega
end Go.Idl
