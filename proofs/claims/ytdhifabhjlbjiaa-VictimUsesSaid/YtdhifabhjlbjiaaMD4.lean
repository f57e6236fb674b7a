/- Weighted shares are ordered totally; the best son has the least of them. -/
import Derived.Test.YtdhifabhjlbjiaaMD3
set_option linter.all false
namespace Go.Idl
set_option linter.unusedSimpArgs false
set_option linter.unusedVariables false

/-- a share by its weight: the upper and the lower part of a fraction (the lower may be 0: the greatest of all) -/
structure Fr where
  x : Int
  y : Int
def Fr.ok (f : Fr) : Prop := 0 ≤ f.x ∧ 0 ≤ f.y ∧ (0 < f.x ∨ 0 < f.y)
def Fr.le (f g : Fr) : Prop := f.x * g.y ≤ g.x * f.y
theorem Fr.le_refl (f : Fr) : f.le f := Int.le_refl _
theorem Fr.le_total (f g : Fr) : f.le g ∨ g.le f := by
  unfold Fr.le; exact Int.le_total _ _
theorem Fr.le_trans {f g h : Fr} (hf : f.ok) (hg : g.ok) (hh : h.ok) (h1 : f.le g) (h2 : g.le h) : f.le h := by
  unfold Fr.le at *
  obtain ⟨fx, fy, fp⟩ := hf
  obtain ⟨gx, gy, gp⟩ := hg
  obtain ⟨hx, hy, hp⟩ := hh
  rcases Int.lt_or_eq_of_le gy with g0 | g0
  · have a1 := Int.mul_le_mul_of_nonneg_right h1 hy
    have a2 := Int.mul_le_mul_of_nonneg_right h2 fy
    have e1 : g.x * f.y * h.y = g.x * h.y * f.y := by grind
    have a3 : f.x * g.y * h.y ≤ h.x * g.y * f.y := by omega
    have e2 : f.x * g.y * h.y = (f.x * h.y) * g.y := by grind
    have e3 : h.x * g.y * f.y = (h.x * f.y) * g.y := by grind
    rw [e2, e3] at a3
    exact Int.le_of_mul_le_mul_right a3 g0
  · have g1 : 0 < g.x := by omega
    rw [← g0] at h1 h2
    simp at h2
    have : h.y = 0 := by
      rcases Int.lt_or_eq_of_le hy with k | k
      · have := Int.mul_pos g1 k; omega
      · omega
    rw [this]
    have := Int.mul_nonneg hx fy
    simp; exact this
/-- the weighted share of an amount -/
def frZ (a : Int × Int) (w : Int) (t : Int × Int) : Fr := ⟨(shareZ a t).1, (shareZ a t).2 * w⟩
theorem frZ_ok {a t : Int × Int} {w : Int} (ha : good a.1 a.2 = true) (ht : good t.1 t.2 = true) (hw : 1 ≤ w) : (frZ a w t).ok := by
  obtain ⟨h1, h2, h3⟩ := shareZ_bound ha ht
  refine ⟨h1.1, Int.mul_nonneg h2.1 (by omega), ?_⟩
  rcases h3 with h | h
  · exact .inl h
  · exact .inr (Int.mul_pos h (by omega))
theorem ordZ_fr {a b t : Int × Int} {wa wb : Int} (ha : good a.1 a.2 = true) (hb : good b.1 b.2 = true) (ht : good t.1 t.2 = true) (hwa : 1 ≤ wa) (hwb : 1 ≤ wb) :
    ordZ a wa b wb t = sgn ((frZ a wa t).x * (frZ b wb t).y) ((frZ b wb t).x * (frZ a wa t).y) := by
  obtain ⟨a1, a2, a3⟩ := shareZ_bound ha ht
  obtain ⟨b1, b2, b3⟩ := shareZ_bound hb ht
  unfold ordZ frZ
  simp only
  generalize (shareZ a t).1 = an at *
  generalize (shareZ a t).2 = ad at *
  generalize (shareZ b t).1 = bn at *
  generalize (shareZ b t).2 = bd at *
  by_cases h : ad = 0 ∨ bd = 0
  · rw [if_pos h]
    by_cases h1 : ad = 0
    · subst h1
      by_cases h2 : bd = 0
      · subst h2; simp [sgn]
      · have p1 : 0 < an := by omega
        have p2 : 0 < bd * wb := Int.mul_pos (by omega) (by omega)
        have p3 := Int.mul_pos p1 p2
        simp only [Int.zero_mul, Int.mul_zero]
        unfold sgn
        rw [if_neg (by omega), if_pos p3]
        omega
    · have h2 : bd = 0 := by rcases h with k | k; exact absurd k h1; exact k
      subst h2
      have p1 : 0 < bn := by omega
      have p2 : 0 < ad * wa := Int.mul_pos (by omega) (by omega)
      have p3 := Int.mul_pos p1 p2
      simp only [Int.zero_mul, Int.mul_zero]
      unfold sgn
      rw [if_pos p3]
      omega
  · rw [if_neg h, Int.mul_assoc, Int.mul_assoc]
theorem sgn_neg {x y : Int} : sgn x y < 0 ↔ x < y := by
  unfold sgn; split
  · constructor <;> intro _ <;> omega
  · split <;> constructor <;> intro _ <;> omega
theorem sgn_zero {x y : Int} : sgn x y = 0 ↔ x = y := by
  unfold sgn; split
  · constructor <;> intro _ <;> omega
  · split <;> constructor <;> intro _ <;> omega
/-- the best one: none that counts is lesser, and of those that are alike it stands first -/
theorem bestF_least {l : List Q} {sums : List (Int × Int)} {cnt : List Int} {t : Int × Int} (F : Nat → Fr) (B : Nat → Prop) (R : Nat × Q → Prop) (hF : ∀ b, B b → (F b).ok) (hord : ∀ (p : Nat × Q) (b : Nat), R p → B b → (ordZ (sums.getD p.1 (0, 0)) p.2.Wt (sums.getD ((b : Int)).toNat (0, 0)) (l.getD ((b : Int)).toNat q0).Wt t < 0 ↔ ¬ (F b).le (F p.1))) :
    ∀ (r : List (Nat × Q)) (b0 : Int), (∀ p ∈ r, R p ∧ B p.1) → (b0 = -1 ∨ ∃ b : Nat, b0 = b ∧ B b ∧ ∀ p ∈ r, b < p.1) → (r.map (·.1)).Pairwise (· < ·) → ∀ b : Nat, bestF l sums cnt t r b0 = b →
      B b ∧ (∀ p ∈ r, cnt.getD p.1 0 ≠ 0 → (F b).le (F p.1) ∧ ((F p.1).le (F b) → b ≤ p.1)) ∧ (∀ c : Nat, b0 = c → (F b).le (F c) ∧ ((F c).le (F b) → b ≤ c))
  | [], b0, _, hb0, _, b, h => by
    rw [bestF] at h
    rcases hb0 with e | ⟨c0, e, hB, _⟩
    · omega
    · have : c0 = b := by omega
      subst this
      refine ⟨hB, by simp, fun c hc => ?_⟩
      have : c0 = c := by omega
      subst this; exact ⟨Fr.le_refl _, fun _ => Nat.le_refl _⟩
  | p :: r, b0, hr, hb0, hp, b, h => by
    rw [List.map_cons, List.pairwise_cons] at hp
    have hlt : ∀ q ∈ r, p.1 < q.1 := fun q hq => hp.1 _ (List.mem_map.2 ⟨q, hq, rfl⟩)
    have hr' : ∀ q ∈ r, R q ∧ B q.1 := fun q hq => hr q (by simp [hq])
    obtain ⟨hRp, hBp⟩ := hr p (by simp)
    rw [bestF] at h
    by_cases h0 : cnt.getD p.1 0 = 0
    · rw [if_pos h0] at h
      obtain ⟨g0, g1, g2⟩ := bestF_least F B R hF hord r b0 hr' (hb0.imp id fun ⟨c, e, k0, k⟩ => ⟨c, e, k0, fun q hq => k q (by simp [hq])⟩) hp.2 b h
      refine ⟨g0, fun q hq hc => ?_, g2⟩
      rcases List.mem_cons.1 hq with rfl | hq
      · exact absurd h0 hc
      · exact g1 q hq hc
    rw [if_neg h0] at h
    split at h
    · rename_i hc
      obtain ⟨g0, g1, g2⟩ := bestF_least F B R hF hord r (p.1 : Int) hr' (.inr ⟨p.1, rfl, hBp, hlt⟩) hp.2 b h
      obtain ⟨k1, k2⟩ := g2 p.1 rfl
      refine ⟨g0, fun q hq hq2 => ?_, fun c hc2 => ?_⟩
      · rcases List.mem_cons.1 hq with rfl | hq
        · exact ⟨k1, k2⟩
        · exact g1 q hq hq2
      · have hBc : B c := by
          rcases hb0 with e | ⟨c', e, k, _⟩
          · omega
          · have : c' = c := by omega
            subst this; exact k
        subst hc2
        have h1 : ¬ (F c).le (F p.1) := by
          rcases hc with k | k
          · omega
          · exact (hord p c hRp hBc).1 k
        have h2 : (F p.1).le (F c) := ((F c).le_total (F p.1)).resolve_left h1
        refine ⟨Fr.le_trans (hF _ g0) (hF _ hBp) (hF _ hBc) k1 h2, fun h3 => ?_⟩
        exact absurd (Fr.le_trans (hF _ hBc) (hF _ g0) (hF _ hBp) h3 k1) h1
    · rename_i hc
      have hb : ∃ c : Nat, b0 = c ∧ B c ∧ ∀ q ∈ p :: r, c < q.1 := by
        rcases hb0 with e | e
        · exact absurd (.inl (by omega)) hc
        · exact e
      obtain ⟨c, rfl, hBc, hcl⟩ := hb
      obtain ⟨g0, g1, g2⟩ := bestF_least F B R hF hord r (c : Int) hr' (.inr ⟨c, rfl, hBc, fun q hq => hcl q (by simp [hq])⟩) hp.2 b h
      obtain ⟨k1, k2⟩ := g2 c rfl
      have h1 : (F c).le (F p.1) := Classical.byContradiction fun k => hc (.inr ((hord p c hRp hBc).2 k))
      refine ⟨g0, fun q hq hq2 => ?_, g2⟩
      rcases List.mem_cons.1 hq with rfl | hq
      · refine ⟨Fr.le_trans (hF _ g0) (hF _ hBc) (hF _ hBp) k1 h1, fun h3 => ?_⟩
        have := k2 (Fr.le_trans (hF _ hBc) (hF _ hBp) (hF _ g0) h1 h3)
        have := hcl q (by simp)
        omega
      · exact g1 q hq hq2
end Go.Idl
