/- The way to the chosen leaf is the way down: at each queue the best son. -/
import Derived.Test.YtdhifabhjlbjiaaMD4
set_option linter.all false
namespace Go.Idl
set_option linter.unusedSimpArgs false
set_option linter.unusedVariables false

theorem path_idx {l : List Q} (hf : form l = true) (id : Int) {k : Nat} (hk : k < (path l id).length) (hk2 : k < (up l id).length) : ∃ h : (up l id)[k].1 < l.length, l[(up l id)[k].1].Id = (path l id)[k] := by
  obtain ⟨g1, g2⟩ := up_mem hf (List.getElem_mem hk2)
  exact ⟨g1, by simp [path, ← g2]⟩
theorem up_dec {l : List Q} (hf : form l = true) (id : Int) {i j : Nat} (hi : i < (up l id).length) (hj : j < (up l id).length) (hij : i < j) : (up l id)[j].1 < (up l id)[i].1 := by
  have := List.pairwise_iff_getElem.1 (up_sorted hf _ id (Nat.le_refl _)) i j (by simpa using hi) (by simpa using hj) hij
  simpa using this
/-- where a queue stands on a way, its parent comes next -/
theorem path_next {l : List Q} (hf : form l = true) {id : Int} {j a : Nat} (hj : j < l.length) (ha : a < l.length) (hp : l[j].Par = l[a].Id) {k : Nat} (hk : k < (path l id).length) (e : (path l id)[k] = l[j].Id) : ∃ h : k + 1 < (path l id).length, (path l id)[k + 1] = l[a].Id := by
  have hr := form_rises hf
  have hhas : has l id = true := by
    cases e : has l id with
    | true => rfl
    | false => rw [path_eq hf, if_neg (by simp [e])] at hk; simp at hk
  rcases Nat.lt_or_ge (k + 1) (path l id).length with h | h
  · refine ⟨h, ?_⟩
    have hson := path_son hf id (i := k) h
    rw [e] at hson
    unfold sonIds at hson
    obtain ⟨q, hq, eq⟩ := List.mem_map.1 hson
    obtain ⟨hq1, hq2⟩ := List.mem_filter.1 hq
    obtain ⟨s, hs, rfl⟩ := List.getElem_of_mem hq1
    have : s = j := rises_inj hr hs hj eq
    subst this
    have : l[s].Par = (path l id)[k + 1] := by simpa using hq2
    rw [← this, hp]
  · exfalso
    obtain ⟨r, e1, e2⟩ := path_head hf hhas
    rw [List.getLast?_eq_getElem?, List.getElem?_eq_getElem (by omega)] at e2
    have e3 : (path l id).length - 1 = k := by omega
    simp only [e3, Option.some.injEq] at e2
    rw [e] at e2
    have h0 := form_root hf (form_pos hf)
    have : j = 0 := rises_inj hr hj (form_pos hf) (by rw [e2, h0.1])
    subst this
    rw [h0.2] at hp
    have := id_nonneg hf ha
    omega
theorem path_up {l : List Q} (hf : form l = true) {id : Int} {j a : Nat} (hj : j < l.length) (ha : a < l.length) (hp : l[j].Par = l[a].Id) (hm : l[j].Id ∈ path l id) : l[a].Id ∈ path l id := by
  obtain ⟨k, hk, e⟩ := List.getElem_of_mem hm
  obtain ⟨h, e2⟩ := path_next hf hj ha hp hk e
  rw [← e2]; exact List.getElem_mem h
theorem path_gap {l : List Q} (hf : form l = true) {id : Int} {j a b : Nat} (hj : j < l.length) (ha : a < l.length) (hb : b < l.length) (hp : l[j].Par = l[a].Id) (hm : l[j].Id ∈ path l id) (hbm : l[b].Id ∈ path l id) (h1 : a < b) (h2 : b < j) : False := by
  have hr := form_rises hf
  obtain ⟨k, hk, e⟩ := List.getElem_of_mem hm
  obtain ⟨h, e2⟩ := path_next hf hj ha hp hk e
  obtain ⟨m, hm2, e3⟩ := List.getElem_of_mem hbm
  have hlen : (path l id).length = (up l id).length := by simp [path]
  obtain ⟨g1, g2⟩ := path_idx hf id hk (by omega)
  obtain ⟨g3, g4⟩ := path_idx hf id h (by omega)
  obtain ⟨g5, g6⟩ := path_idx hf id hm2 (by omega)
  have ej : (up l id)[k].1 = j := rises_inj hr g1 hj (by rw [g2, e])
  have ea : (up l id)[k + 1].1 = a := rises_inj hr g3 ha (by rw [g4, e2])
  have eb : (up l id)[m].1 = b := rises_inj hr g5 hb (by rw [g6, e3])
  rcases Nat.lt_trichotomy m k with h3 | h3 | h3
  · have := up_dec hf id (i := m) (j := k) (by omega) (by omega) h3; omega
  · subst h3; omega
  · rcases Nat.lt_or_eq_of_le (show k + 1 ≤ m by omega) with h4 | h4
    · have := up_dec hf id (i := k + 1) (j := m) (by omega) (by omega) h4; omega
    · subst h4; omega
theorem path_le {l : List Q} (hf : form l = true) {a s : Nat} (ha : a < l.length) (hs : s < l.length) (hm : l[s].Id ∈ path l l[a].Id) : s ≤ a := by
  have hr := form_rises hf
  unfold path at hm
  obtain ⟨p, hp, e⟩ := List.mem_map.1 hm
  have h1 := up_lt hf _ l[a].Id (Nat.le_refl _) p hp
  obtain ⟨g1, g2⟩ := up_mem hf hp
  rw [g2] at e
  have := rises_inj hr g1 hs e
  have e2 : rank l l[a].Id = a + 1 := by simp [rank, has_at ha, pos_at hr ha]
  omega
theorem par_above {l : List Q} (hf : form l = true) {s b : Nat} (hs : s < l.length) (hb : b < l.length) (hp : l[s].Par = l[b].Id) : b < s := by
  have := sonsF_has l[b].Id l 0 s hs hp
  have := son_above hf hb this
  simpa using this
/-- the way down -/
theorem pick_way {l : List Q} {sums : List (Int × Int)} {cnt : List Int} {t : Int × Int} (hf : form l = true) : ∀ (n a : Nat) (ha : a < l.length), l.length - n ≤ a → ∃ hz : pickF l sums cnt t n a < l.length, l[a].Id ∈ path l l[pickF l sums cnt t n a].Id ∧
    ∀ s b (hs : s < l.length) (hb : b < l.length), a ≤ b → l[s].Id ∈ path l l[pickF l sums cnt t n a].Id → l[s].Par = l[b].Id → bestZ l sums cnt t b = s
  | 0, a, ha, hn => by omega
  | n + 1, a, ha, hn => by
    have hr := form_rises hf
    rw [pickF]
    by_cases hb : bestZ l sums cnt t a < 0
    · rw [if_pos hb]
      refine ⟨ha, path_self hf (has_at ha), fun s b hs hb2 hab hm hp => ?_⟩
      have h1 := path_le hf ha hs hm
      have h2 := par_above hf hs hb2 hp
      omega
    · rw [if_neg hb]
      rcases bestZ_range (sums := sums) (cnt := cnt) (t := t) hf ha with h | ⟨j, h, hj, haj⟩
      · rw [h] at hb; exact absurd (by decide) hb
      have hpar : l[j].Par = l[a].Id := by
        have hga : l.getD a q0 = l[a] := by simp [ha]
        have h' := h
        unfold bestZ at h'
        rw [hga] at h'
        rcases bestF_range (l := l) (sums := sums) (cnt := cnt) (t := t) (sons l l[a].Id) (-1) with h2 | ⟨p, hp, h2⟩
        · omega
        · obtain ⟨g1, g2, g3⟩ := sons_at hp
          have : p.1 = j := by omega
          subst this
          rw [← g2]; exact g3
      have hj0 : (bestZ l sums cnt t a).toNat = j := by omega
      rw [hj0]
      obtain ⟨hz, i1, i2⟩ := pick_way (sums := sums) (cnt := cnt) (t := t) hf n j hj (by omega)
      have hzj := path_le hf hz hj i1
      refine ⟨hz, path_up hf hj ha hpar i1, fun s b hs hb2 hab hm hp => ?_⟩
      rcases Nat.lt_or_ge b j with hlt | hge
      · rcases Nat.lt_or_eq_of_le hab with h3 | h3
        · exact (path_gap hf hj ha hb2 hpar i1 (path_up hf hs hb2 hp hm) h3 hlt).elim
        · subst h3
          have hne : l[a].Id ≠ l[pickF l sums cnt t n j].Id := fun e => by
            have := rises_inj hr ha hz e
            omega
          obtain ⟨s0, hs0, _, _, huni⟩ := way_son hf ha (path_up hf hj ha hpar i1) hne
          have e1 := huni j hj hpar i1
          have e2 := huni s hs hp hm
          rw [h, e1, e2]
      · exact i2 s b hs hb2 hge hm hp
end Go.Idl
