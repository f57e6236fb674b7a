/- Where one leaf alone wants something it is chosen. -/
import Derived.Test.YtdhifabhjlbjiaaPC
set_option linter.all false
namespace Go.Idl
set_option linter.unusedSimpArgs false
set_option linter.unusedVariables false

theorem cnts_one (l : List Q) (id : Int) : cnts l [id] = l.map fun q => if q.Id ∈ path l id then 1 else 0 := by
  unfold cnts
  refine List.map_congr_left fun q _ => ?_
  simp [cntI, sumI, onWay]
theorem getD_cnts {l : List Q} {id : Int} {i : Nat} (h : i < l.length) : (cnts l [id]).getD i 0 = if l[i].Id ∈ path l id then 1 else 0 := by
  rw [cnts_one]; simp [h]
/-- the son on the way, of a queue on the way -/
theorem way_son {l : List Q} (hf : form l = true) {id : Int} {a : Nat} (ha : a < l.length) (hm : l[a].Id ∈ path l id) (hne : l[a].Id ≠ id) :
    ∃ s, ∃ hs : s < l.length, l[s].Par = l[a].Id ∧ l[s].Id ∈ path l id ∧ ∀ c (hc : c < l.length), l[c].Par = l[a].Id → l[c].Id ∈ path l id → c = s := by
  have hr := form_rises hf
  obtain ⟨k, hk, ek⟩ := List.getElem_of_mem hm
  have hhas : has l id = true := by
    cases e : has l id with
    | true => rfl
    | false => rw [path_eq hf, if_neg (by simp [e])] at hk; simp at hk
  have hk0 : 0 < k := by
    rcases Nat.eq_zero_or_pos k with rfl | h
    · obtain ⟨r, e1, _⟩ := path_head hf hhas
      simp only [e1, List.getElem_cons_zero] at ek
      exact absurd ek.symm hne
    · exact h
  have hson := path_son hf id (i := k - 1) (by omega)
  have hk1 : k - 1 + 1 = k := by omega
  simp only [hk1, ek] at hson
  unfold sonIds at hson
  obtain ⟨q, hq, eq⟩ := List.mem_map.1 hson
  obtain ⟨hq1, hq2⟩ := List.mem_filter.1 hq
  obtain ⟨s, hs, rfl⟩ := List.getElem_of_mem hq1
  refine ⟨s, hs, by simpa using hq2, by rw [eq]; exact List.getElem_mem _, fun c hc hp hcm => ?_⟩
  obtain ⟨k2, hk2, ek2⟩ := List.getElem_of_mem hcm
  have hlen : (path l id).length = (up l id).length := by simp [path]
  have pa : ∀ i (h : i < (path l id).length), ∃ h2 : (up l id)[i].1 < l.length, l[(up l id)[i].1].Id = (path l id)[i] := fun i h => by
    obtain ⟨g1, g2⟩ := up_mem hf (List.getElem_mem (show i < (up l id).length by omega))
    exact ⟨g1, by simp [path, ← g2]⟩
  have ord : ∀ i j (hi : i < (path l id).length) (hj : j < (path l id).length), i < j → (up l id)[j].1 < (up l id)[i].1 := fun i j hi hj hij => by
    have := List.pairwise_iff_getElem.1 (up_sorted hf _ id (Nat.le_refl _)) i j (by simp; omega) (by simp; omega) hij
    simpa using this
  obtain ⟨b1, b2⟩ := pa k hk
  obtain ⟨c1, c2⟩ := pa k2 hk2
  obtain ⟨s1, s2⟩ := pa (k - 1) (by omega)
  have ea : (up l id)[k].1 = a := rises_inj hr b1 ha (by rw [b2, ek])
  have ec : (up l id)[k2].1 = c := rises_inj hr c1 hc (by rw [c2, ek2])
  have es : (up l id)[k - 1].1 = s := rises_inj hr s1 hs (by rw [s2, eq])
  have habove : a < c := by
    rcases Nat.eq_zero_or_pos c with e0 | e0
    · subst e0
      have := (form_root hf (form_pos hf)).2
      rw [this] at hp
      have := id_nonneg hf ha
      omega
    · obtain ⟨j, hj, hjc, e⟩ := form_par hf hc e0
      rw [hp] at e
      have := rises_inj hr hj ha e
      omega
  rcases Nat.lt_trichotomy k2 (k - 1) with h | h | h
  · -- the parent of c comes behind it
    have hson2 := path_son hf id (i := k2) (by omega)
    rw [ek2] at hson2
    unfold sonIds at hson2
    obtain ⟨q2, hq2', e2⟩ := List.mem_map.1 hson2
    obtain ⟨hm2, hp2⟩ := List.mem_filter.1 hq2'
    obtain ⟨c', hc', rfl⟩ := List.getElem_of_mem hm2
    have : c' = c := rises_inj hr hc' hc e2
    subst this
    have hpp : l[c'].Par = (path l id)[k2 + 1] := by simpa using hp2
    obtain ⟨d1, d2⟩ := pa (k2 + 1) (by omega)
    rw [← d2, hp] at hpp
    have := rises_inj hr ha d1 hpp
    have h3 := ord (k2 + 1) k (by omega) hk (by omega)
    omega
  · subst h; rw [← ec, es]
  · rcases Nat.lt_or_eq_of_le (show k ≤ k2 by omega) with h2 | h2
    · have := ord k k2 hk hk2 h2; omega
    · subst h2; omega
theorem bestF_skip {l : List Q} {sums : List (Int × Int)} {t : Int × Int} {cnt : List Int} : ∀ (r : List (Nat × Q)) (best : Int), (∀ p ∈ r, cnt.getD p.1 0 = 0) → bestF l sums cnt t r best = best
  | [], _, _ => rfl
  | p :: r, best, h => by
    rw [bestF, if_pos (h p (by simp)), bestF_skip r best fun q hq => h q (by simp [hq])]
theorem bestF_uni {l : List Q} {sums : List (Int × Int)} {t : Int × Int} {cnt : List Int} {s : Nat} : ∀ (r : List (Nat × Q)), (r.map (·.1)).Nodup → (∀ p ∈ r, cnt.getD p.1 0 ≠ 0 → p.1 = s) → (∃ p ∈ r, p.1 = s) → cnt.getD s 0 ≠ 0 → bestF l sums cnt t r (-1) = s
  | [], _, _, ⟨p, hp, _⟩, _ => by cases hp
  | p :: r, hnd, hu, hex, hs => by
    rw [List.map_cons, List.nodup_cons] at hnd
    by_cases e : p.1 = s
    · rw [bestF, if_neg (by rw [e]; exact hs), if_pos (.inl (by decide)), e]
      refine bestF_skip r _ fun q hq => ?_
      have hqs : q.1 ≠ s := fun e2 => hnd.1 (by rw [e, ← e2]; exact List.mem_map.2 ⟨q, hq, rfl⟩)
      rcases Decidable.em (cnt.getD q.1 0 = 0) with h | h
      · exact h
      · exact absurd (hu q (by simp [hq]) h) hqs
    · have h0 : cnt.getD p.1 0 = 0 := by
        rcases Decidable.em (cnt.getD p.1 0 = 0) with h | h
        · exact h
        · exact absurd (hu p (by simp) h) e
      rw [bestF, if_pos h0]
      refine bestF_uni r hnd.2 (fun q hq => hu q (by simp [hq])) ?_ hs
      obtain ⟨q, hq, e2⟩ := hex
      rcases List.mem_cons.1 hq with rfl | hq
      · exact absurd e2 e
      · exact ⟨q, hq, e2⟩
theorem sonsF_nodup (id : Int) : ∀ (r : List Q) (i : Nat), ((sonsF id r i).map (·.1)).Nodup ∧ ∀ p ∈ sonsF id r i, i ≤ p.1
  | [], _ => ⟨List.nodup_nil, by simp [sonsF]⟩
  | q :: r, i => by
    obtain ⟨h1, h2⟩ := sonsF_nodup id r (i + 1)
    unfold sonsF
    split
    · refine ⟨?_, fun p hp => ?_⟩
      · rw [List.map_cons, List.nodup_cons]
        refine ⟨fun hm => ?_, h1⟩
        obtain ⟨p, hp, e⟩ := List.mem_map.1 hm
        have := h2 p hp
        omega
      · rcases List.mem_cons.1 hp with rfl | hp
        · exact Nat.le_refl _
        · have := h2 p hp; omega
    · exact ⟨h1, fun p hp => by have := h2 p hp; omega⟩
theorem sonsF_has (id : Int) : ∀ (r : List Q) (i j : Nat) (h : j < r.length), r[j].Par = id → (i + j, r[j]) ∈ sonsF id r i
  | q :: r, i, 0, h, e => by
    unfold sonsF
    rw [if_pos (by simpa using e)]; simp
  | q :: r, i, j + 1, h, e => by
    have := sonsF_has id r (i + 1) j (by simpa using h) (by simpa using e)
    have e2 : i + 1 + j = i + (j + 1) := by omega
    rw [e2] at this
    unfold sonsF
    split
    · exact List.mem_cons_of_mem _ (by simpa using this)
    · simpa using this
/-- the way down ends at the one leaf that is wished -/
theorem pickF_one {l : List Q} {sums : List (Int × Int)} {t : Int × Int} (hf : form l = true) {id : Int} (hleaf : sonIds l id = []) : ∀ (n a : Nat) (ha : a < l.length), l.length - n ≤ a → l[a].Id ∈ path l id → ∃ h : pickF l sums (cnts l [id]) t n a < l.length, l[pickF l sums (cnts l [id]) t n a].Id = id
  | 0, a, ha, hn, _ => by omega
  | n + 1, a, ha, hn, hm => by
    have hga : l.getD a q0 = l[a] := by simp [ha]
    rw [pickF]
    by_cases e : l[a].Id = id
    · have hb : bestZ l sums (cnts l [id]) t a = -1 := by
        unfold bestZ
        rw [hga, e]
        have : sons l id = [] := List.length_eq_zero_iff.1 (leaf_nil.2 hleaf)
        rw [this]; rfl
      simp only [hb]
      exact ⟨ha, e⟩
    · obtain ⟨s, hs, h1, h2, h3⟩ := way_son hf ha hm e
      have hb : bestZ l sums (cnts l [id]) t a = s := by
        unfold bestZ
        rw [hga]
        refine bestF_uni _ (sonsF_nodup _ l 0).1 (fun p hp hc => ?_) ?_ ?_
        · obtain ⟨g1, g2, g3⟩ := sons_at hp
          rw [getD_cnts g1] at hc
          have hc2 : l[p.1].Id ∈ path l id := by
            rcases Decidable.em (l[p.1].Id ∈ path l id) with h | h
            · exact h
            · rw [if_neg h] at hc; exact absurd rfl hc
          exact h3 p.1 g1 (by rw [← g2]; exact g3) hc2
        · have := sonsF_has l[a].Id l 0 s hs h1
          exact ⟨_, this, by simp⟩
        · rw [getD_cnts hs, if_pos h2]; decide
      have hlt : a < s := by
        have := sonsF_has l[a].Id l 0 s hs h1
        have := son_above hf ha this
        simpa using this
      have hneg : ¬ ((s : Int) < 0) := by omega
      simp only [hb, if_neg hneg]
      exact pickF_one hf hleaf n s hs (by omega) h2
theorem pick_one {l : List Q} {uses : List U} {t : Int × Int} {id : Int} (hc : check l = 0) (hh : has l id = true) (hleaf : sonIds l id = []) : pickId l uses [id] t = id := by
  have hf := check_form hc
  have h0 := form_pos hf
  have hm : l[0].Id ∈ path l id := by rw [(form_root hf h0).1]; exact root_mem hf hh
  obtain ⟨h, e⟩ := pickF_one (sums := sumsL l uses) (t := t) hf hleaf l.length 0 h0 (by omega) hm
  unfold pickId pickN
  simp only [List.getD_eq_getElem?_getD, List.getElem?_eq_getElem h, Option.getD_some]
  exact e
theorem rising_one (id : Int) : Rising [id] := fun j h => by simp at h
theorem marksE_one {l : List Q} {id x y : Int} : marksE l [id] x y = if good x y = false then 1 else if has l id = false then 8 else if sonIds l id = [] then 0 else 14 := by
  unfold marksE wantsE
  by_cases h1 : good x y = false
  · simp [h1]
  · rw [if_neg h1, if_neg h1, if_pos (rising_one id), if_neg (by simp)]
    cases h2 : has l id
    · simp [h2]
    · by_cases h3 : sonIds l id = [] <;> simp [h2, h3]
end Go.Idl
