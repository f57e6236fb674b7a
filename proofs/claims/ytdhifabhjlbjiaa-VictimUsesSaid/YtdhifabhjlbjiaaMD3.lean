/- The order of all turns: each wish once, the chosen one first. -/
import Derived.Test.YtdhifabhjlbjiaaPO
import Derived.Test.YtdhifabhjlbjiaaMD2
set_option linter.all false
namespace Go.Idl
set_option linter.unusedSimpArgs false
set_option linter.unusedVariables false

theorem turns_cons (l : List Q) (sums : List (Int × Int)) (t : Int × Int) (cnt : List Int) : ∀ n, turns l sums t (n + 1) cnt = (pickAt l sums t cnt :: (turns l sums t n (lessZ l (pickAt l sums t cnt) cnt)).1, (turns l sums t n (lessZ l (pickAt l sums t cnt) cnt)).2)
  | 0 => by simp [turns]
  | n + 1 => by
    have ih := turns_cons l sums t cnt n
    rw [turns, ih]
    simp [turns]
theorem cntI_pos {l : List Q} {id : Int} : ∀ {want : List Int}, cntI l want id ≠ 0 ↔ ∃ w ∈ want, id ∈ path l w
  | [] => by simp [cntI, sumI]
  | w :: r => by
    have ih := cntI_pos (l := l) (id := id) (want := r)
    have hb := cntI_bound l id r
    unfold cntI at ih hb ⊢
    rw [sumI_cons]
    by_cases h : id ∈ path l w
    · simp only [onWay, if_pos h]
      constructor
      · intro _; exact ⟨w, by simp, h⟩
      · intro _; omega
    · simp only [onWay, if_neg h, Int.zero_add]
      rw [ih]
      constructor
      · rintro ⟨x, hx, e⟩; exact ⟨x, by simp [hx], e⟩
      · rintro ⟨x, hx, e⟩
        rcases List.mem_cons.1 hx with rfl | hx
        · exact absurd e h
        · exact ⟨x, hx, e⟩
theorem cnts_get {l : List Q} {want : List Int} {i : Nat} (h : i < l.length) : (cnts l want).getD i 0 = cntI l want l[i].Id := by
  simp [cnts, h]
theorem bestF_in {l : List Q} {sums : List (Int × Int)} {t : Int × Int} {cnt : List Int} : ∀ (r : List (Nat × Q)) (best : Int), bestF l sums cnt t r best = best ∨ ∃ q ∈ r, bestF l sums cnt t r best = q.1 ∧ cnt.getD q.1 0 ≠ 0
  | [], best => .inl rfl
  | p :: r, best => by
    unfold bestF
    split
    · rcases bestF_in r best with h | ⟨q, hq, h⟩
      · exact .inl h
      · exact .inr ⟨q, by simp [hq], h⟩
    · rename_i hp
      split
      · rcases bestF_in r (p.1 : Int) with h | ⟨q, hq, h⟩
        · exact .inr ⟨p, by simp, h, hp⟩
        · exact .inr ⟨q, by simp [hq], h⟩
      · rcases bestF_in r best with h | ⟨q, hq, h⟩
        · exact .inl h
        · exact .inr ⟨q, by simp [hq], h⟩
theorem bestF_some {l : List Q} {sums : List (Int × Int)} {t : Int × Int} {cnt : List Int} : ∀ (r : List (Nat × Q)), (∃ p ∈ r, cnt.getD p.1 0 ≠ 0) → ∃ q ∈ r, bestF l sums cnt t r (-1) = q.1 ∧ cnt.getD q.1 0 ≠ 0
  | [], ⟨p, hp, _⟩ => by cases hp
  | p :: r, hex => by
    unfold bestF
    split
    · rename_i h0
      obtain ⟨q, hq, e⟩ := hex
      rcases List.mem_cons.1 hq with rfl | hq
      · exact absurd h0 e
      · obtain ⟨q2, hq2, h⟩ := bestF_some r ⟨q, hq, e⟩
        exact ⟨q2, by simp [hq2], h⟩
    · rename_i hp
      rw [if_pos (.inl (by decide))]
      rcases bestF_in (l := l) (sums := sums) (t := t) (cnt := cnt) r (p.1 : Int) with h | ⟨q, hq, h⟩
      · exact ⟨p, by simp, h, hp⟩
      · exact ⟨q, by simp [hq], h⟩
/-- the way down ends at a wish -/
theorem pickF_in {l : List Q} {sums : List (Int × Int)} {t : Int × Int} (hf : form l = true) {want : List Int} : ∀ (n a : Nat) (ha : a < l.length), l.length - n ≤ a → cntI l want l[a].Id ≠ 0 → ∃ h : pickF l sums (cnts l want) t n a < l.length, l[pickF l sums (cnts l want) t n a].Id ∈ want
  | 0, a, ha, hn, _ => by omega
  | n + 1, a, ha, hn, hm => by
    have hga : l.getD a q0 = l[a] := by simp [ha]
    rw [pickF]
    by_cases hb : bestZ l sums (cnts l want) t a < 0
    · rw [if_pos hb]
      refine ⟨ha, ?_⟩
      obtain ⟨w, hw, hwp⟩ := cntI_pos.1 hm
      by_cases e : l[a].Id = w
      · rw [e]; exact hw
      · exfalso
        obtain ⟨s, hs, h1, h2, _⟩ := way_son hf ha hwp e
        have hc : (cnts l want).getD s 0 ≠ 0 := by rw [cnts_get hs]; exact cntI_pos.2 ⟨w, hw, h2⟩
        have hin := sonsF_has l[a].Id l 0 s hs h1
        obtain ⟨q, hq, e2, _⟩ := bestF_some (l := l) (sums := sums) (t := t) (cnt := cnts l want) (sons l l[a].Id) ⟨_, hin, by simpa using hc⟩
        unfold bestZ at hb
        rw [hga, e2] at hb
        omega
    · rcases bestZ_range (sums := sums) (cnt := cnts l want) (t := t) hf ha with h | ⟨j, h, hj, haj⟩
      · rw [h] at hb; exact absurd (by decide) hb
      · have hcj : cntI l want l[j].Id ≠ 0 := by
          rw [← cnts_get hj]
          rcases bestF_in (l := l) (sums := sums) (t := t) (cnt := cnts l want) (sons l l[a].Id) (-1) with h2 | ⟨q, hq, h2, h3⟩
          · unfold bestZ at h; rw [hga, h2] at h; omega
          · unfold bestZ at h; rw [hga, h2] at h
            have : q.1 = j := by omega
            rw [this] at h3; exact h3
        have hneg : ¬ ((j : Int) < 0) := by omega
        simp only [h, if_neg hneg]
        exact pickF_in hf n j hj (by omega) hcj
theorem pickAt_in {l : List Q} {sums : List (Int × Int)} {t : Int × Int} (hf : form l = true) {want : List Int} (hne : want ≠ []) (hh : ∀ w ∈ want, has l w = true) : pickAt l sums t (cnts l want) ∈ want := by
  have h0 := form_pos hf
  have hm : cntI l want l[0].Id ≠ 0 := by
    obtain ⟨w, r, rfl⟩ := List.exists_cons_of_ne_nil hne
    exact cntI_pos.2 ⟨w, by simp, by rw [(form_root hf h0).1]; exact root_mem hf (hh w (by simp))⟩
  obtain ⟨h, e⟩ := pickF_in (sums := sums) (t := t) hf l.length 0 h0 (by omega) hm
  unfold pickAt pickN
  simp only [List.getD_eq_getElem?_getD, List.getElem?_eq_getElem h, Option.getD_some]
  exact e
def others (want : List Int) (w : Int) : List Int := want.filter fun x => decide (x ≠ w)
theorem others_sum (f : Int → Int) {w : Int} : ∀ {want : List Int}, want.Nodup → w ∈ want → sumI f want = sumI f (others want w) + f w
  | [], _, h => by cases h
  | x :: r, hn, hm => by
    rw [List.nodup_cons] at hn
    unfold others
    rw [sumI_cons, List.filter_cons]
    by_cases e : x = w
    · subst e
      have : r.filter (fun y => decide (y ≠ x)) = r := by
        rw [List.filter_eq_self]
        intro y hy
        simp only [decide_eq_true_eq]
        rintro rfl; exact hn.1 hy
      rw [if_neg (by simp), this]; omega
    · have hm2 : w ∈ r := by
        rcases List.mem_cons.1 hm with h | h
        · exact absurd h.symm e
        · exact h
      rw [if_pos (by simpa using e), sumI_cons]
      have := others_sum f hn.2 hm2
      unfold others at this
      omega
theorem others_len {w : Int} {want : List Int} (hn : want.Nodup) (hm : w ∈ want) : (others want w).length + 1 = want.length := by
  have h := others_sum (fun _ => 1) hn hm
  have e : ∀ l : List Int, sumI (fun _ => (1 : Int)) l = l.length := by
    intro l
    induction l with
    | nil => rfl
    | cons x l ih => rw [sumI_cons, ih]; simp; omega
  rw [e, e] at h
  omega
theorem less_cnts {l : List Q} (hf : form l = true) {want : List Int} (hn : want.Nodup) (hw : want.length ≤ maxLen) {w : Int} (hm : w ∈ want) : lessZ l w (cnts l want) = cnts l (others want w) := by
  have hcl : (cnts l want).length = l.length := by simp [cnts]
  refine List.ext_getElem (by rw [lessZ_len, hcl]; simp [cnts]) fun j h1 h2 => ?_
  have h3 : j < l.length := by rw [lessZ_len, hcl] at h1; exact h1
  have hg : (cnts l want).getD j 0 = cntI l want l[j].Id := cnts_get h3
  simp only [lessZ, List.getElem_map, List.getElem_range, hg, up_path_iff hf _ h3]
  simp only [cnts, List.getElem_map]
  have hs := others_sum (onWay l l[j].Id) hn hm
  have hb := cntI_bound l l[j].Id want
  have hb2 := cntI_bound l l[j].Id (others want w)
  have hmx := maxLen_i64
  have e1 : cntI l want l[j].Id = sumI (onWay l l[j].Id) want := rfl
  have e2 : cntI l (others want w) l[j].Id = sumI (onWay l l[j].Id) (others want w) := rfl
  rw [← e1, ← e2] at hs
  by_cases e : l[j].Id ∈ path l w
  · rw [if_pos e]
    simp only [onWay, if_pos e] at hs
    rw [wrap_i64 (by omega) (by omega)]
    omega
  · rw [if_neg e]
    simp only [onWay, if_neg e] at hs
    omega
theorem rising_pairwise {w : List Int} (h : Rising w) : w.Pairwise (· < ·) := by
  rw [List.pairwise_iff_getElem]
  intro i j hi hj hij
  have key : ∀ d (h2 : i + 1 + d < w.length), w[i] < w[i + 1 + d] := by
    intro d
    induction d with
    | zero => intro h2; exact h i h2
    | succ d ih =>
      intro h2
      have h3 := ih (by omega)
      have h4 := h (i + 1 + d) (by omega)
      have e : i + 1 + (d + 1) = i + 1 + d + 1 := by omega
      simp only [e]
      omega
  obtain ⟨d, rfl⟩ : ∃ d, j = i + 1 + d := ⟨j - (i + 1), by omega⟩
  exact key d hj
theorem rising_nodup {w : List Int} (h : Rising w) : w.Nodup := (rising_pairwise h).imp fun h => by omega
theorem rising_others {w : List Int} {x : Int} (h : Rising w) : Rising (others w x) := fun j hj => by
  have := (rising_pairwise h).filter (fun y => decide (y ≠ x))
  exact List.pairwise_iff_getElem.1 this j (j + 1) (by unfold others at hj; omega) hj (by omega)
/-- all turns: the chosen one, then the turns of the others -/
theorem turns_others {l : List Q} {sums : List (Int × Int)} {t : Int × Int} (hf : form l = true) {want : List Int} (hR : Rising want) (hw : want.length ≤ maxLen) (hne : want ≠ []) (hh : ∀ w ∈ want, has l w = true) :
    (turns l sums t want.length (cnts l want)).1 = pickAt l sums t (cnts l want) :: (turns l sums t (others want (pickAt l sums t (cnts l want))).length (cnts l (others want (pickAt l sums t (cnts l want))))).1 := by
  have hm := pickAt_in (sums := sums) (t := t) hf hne hh
  have hn := rising_nodup hR
  rw [← others_len hn hm, turns_cons, less_cnts hf hn hw hm]
theorem turns_all {l : List Q} {sums : List (Int × Int)} {t : Int × Int} (hf : form l = true) : ∀ (n : Nat) (want : List Int), want.length = n → Rising want → want.length ≤ maxLen → (∀ w ∈ want, has l w = true) → ∀ x ∈ want, x ∈ (turns l sums t want.length (cnts l want)).1
  | 0, want, hn, _, _, _, x, hx => by
    have := List.length_eq_zero_iff.1 hn
    subst this; cases hx
  | n + 1, want, hn, hR, hw, hh, x, hx => by
    have hne : want ≠ [] := by rintro rfl; cases hx
    have hm := pickAt_in (sums := sums) (t := t) hf hne hh
    have hol := others_len (rising_nodup hR) hm
    rw [turns_others hf hR hw hne hh]
    by_cases e : x = pickAt l sums t (cnts l want)
    · subst e; simp
    · refine List.mem_cons_of_mem _ (turns_all hf n _ (by omega) (rising_others hR) (by omega) (fun w hw' => hh w ?_) x ?_)
      · exact (List.mem_filter.1 hw').1
      · exact List.mem_filter.2 ⟨hx, by simpa using e⟩
theorem wants_zero {l : List Q} {want : List Int} : wantsE l want = 0 ↔ (∀ w ∈ want, has l w = true) ∧ ∀ w ∈ want, sonIds l w = [] := by
  unfold wantsE
  by_cases h1 : want.any (fun w => !has l w) = true
  · rw [if_pos h1]
    constructor
    · intro h; cases h
    · rintro ⟨h, _⟩
      obtain ⟨w, hw, e⟩ := List.any_eq_true.1 h1
      rw [h w hw] at e; cases e
  · rw [if_neg h1]
    have g1 : ∀ w ∈ want, has l w = true := fun w hw => by
      cases e : has l w with
      | true => rfl
      | false => exact absurd (List.any_eq_true.2 ⟨w, hw, by simp [e]⟩) h1
    by_cases h2 : want.any (fun w => !decide (sonIds l w = [])) = true
    · rw [if_pos h2]
      constructor
      · intro h; cases h
      · rintro ⟨_, h⟩
        obtain ⟨w, hw, e⟩ := List.any_eq_true.1 h2
        simp [h w hw] at e
    · rw [if_neg h2]
      refine ⟨fun _ => ⟨g1, fun w hw => ?_⟩, fun _ => rfl⟩
      rcases Decidable.em (sonIds l w = []) with h | h
      · exact h
      · exact absurd (List.any_eq_true.2 ⟨w, hw, by simp [h]⟩) h2
theorem marks_zero {l : List Q} {want : List Int} {x y : Int} : marksE l want x y = 0 ↔ good x y = true ∧ Rising want ∧ want ≠ [] ∧ wantsE l want = 0 := by
  unfold marksE
  by_cases h1 : good x y = false
  · simp [h1]
  · rw [if_neg h1]
    have h1' : good x y = true := by simpa using h1
    by_cases h2 : Rising want
    · rw [if_pos h2]
      by_cases h3 : want = []
      · simp [h3]
      · simp [h1', h2, h3]
    · simp [h2]
end Go.Idl
