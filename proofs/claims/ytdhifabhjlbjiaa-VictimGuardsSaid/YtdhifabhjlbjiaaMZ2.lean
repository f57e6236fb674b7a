/- Needs as plain data: each queue stands but once. No program here. -/
import Derived.Test.YtdhifabhjlbjiaaMZ
import Derived.Test.YtdhifabhjlbjiaaXJK
set_option linter.all false
namespace Go.Idl
set_option linter.unusedSimpArgs false
set_option linter.unusedVariables false

theorem need_rising {l : List Q} {need : List U} (h : ∀ j, j < need.length → neAt l need j = 0) : Rising (need.map (·.q)) := fun j hj => by
  rw [List.length_map] at hj
  have h1 := h (j + 1) hj
  have g1 : need.getD (j + 1) ⟨0, 0, 0⟩ = need[j + 1] := by simp [hj]
  have g0 : need.getD j ⟨0, 0, 0⟩ = need[j] := by simp [show j < need.length by omega]
  unfold neAt at h1
  simp only [g1, Nat.add_sub_cancel, g0] at h1
  rw [List.getElem_map, List.getElem_map]
  split at h1
  · omega
  · rename_i hn
    have : ¬ need[j + 1].q ≤ need[j].q := fun k => hn ⟨by omega, k⟩
    omega
theorem starve_mem {l : List Q} {M : List (Int × Int)} {need : List U} (h : ∀ j, j < need.length → neAt l need j = 0) {i : Nat} (hi : i < need.length) : need[i].q ∈ starveL l M need ↔ lacks l M need[i] = true := by
  have hnd := rising_nodup (need_rising h)
  constructor
  · intro hm
    obtain ⟨v, hv, e⟩ := List.mem_map.1 hm
    obtain ⟨hv1, hv2⟩ := List.mem_filter.1 hv
    obtain ⟨k, hk, rfl⟩ := List.getElem_of_mem hv1
    have : k = i := (List.getElem_inj (h₀ := by simpa using hk) (h₁ := by simpa using hi) hnd).1 (by rw [List.getElem_map, List.getElem_map]; exact e)
    subst this; exact hv2
  · intro hl
    exact List.mem_map.2 ⟨need[i], List.mem_filter.2 ⟨List.getElem_mem hi, hl⟩, rfl⟩
theorem needE_all {l : List Q} {need : List U} (h : needE l need = 0) : ∀ j, j < need.length → neAt l need j = 0 := by
  intro j hj
  unfold needE at h
  cases hf : (List.range need.length).find? (fun i => decide (neAt l need i ≠ 0)) with
  | none =>
    rw [List.find?_eq_none] at hf
    have := hf j (by simpa using hj)
    simpa using this
  | some i =>
    rw [hf] at h
    have := List.find?_some hf
    simp at this
    exact absurd h this
end Go.Idl
