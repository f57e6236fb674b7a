/- Leases as plain data: which lease is to end. No program here. -/
import Derived.Test.YtdhifabhjlbjiaaMV
import Derived.Test.YtdhifabhjlbjiaaMD6
set_option linter.all false
namespace Go.Idl
set_option linter.unusedSimpArgs false
set_option linter.unusedVariables false

def stepC (l : List Q) (M : List (Int × Int)) (t : Int × Int) (s : Int × Int) (x : Le) : Int × Int :=
  if fits (l.getD (place l x.q).toNat q0).MC (l.getD (place l x.q).toNat q0).MM ((M.getD (place l x.q).toNat (0, 0)).1 - x.cs.length) ((M.getD (place l x.q).toNat (0, 0)).2 - x.m) = false then s
  else if 0 ≤ s.1 ∧ place l x.q ≠ s.1 ∧ (ordZ (M.getD (place l x.q).toNat (0, 0)) (l.getD (place l x.q).toNat q0).Wt (M.getD s.1.toNat (0, 0)) (l.getD s.1.toNat q0).Wt t < 0 ∨
      (ordZ (M.getD (place l x.q).toNat (0, 0)) (l.getD (place l x.q).toNat q0).Wt (M.getD s.1.toNat (0, 0)) (l.getD s.1.toNat q0).Wt t = 0 ∧ s.1 < place l x.q)) then s
  else if place l x.q ≠ s.1 ∨ s.2 < x.t then (place l x.q, x.t) else s
def runC (l : List Q) (M : List (Int × Int)) (t : Int × Int) (ls : List Le) : Int × Int := ls.foldl (stepC l M t) (-1, 0)
theorem runC_take {l : List Q} {M : List (Int × Int)} {t : Int × Int} {ls : List Le} {i : Nat} (h : i < ls.length) : runC l M t (ls.take (i + 1)) = stepC l M t (runC l M t (ls.take i)) ls[i] := by
  rw [List.take_add_one, List.getElem?_eq_getElem h, Option.toList_some]
  unfold runC
  rw [List.foldl_append]; rfl
theorem runC_range {l : List Q} {M : List (Int × Int)} {t : Int × Int} : ∀ (ls : List Le), (∀ x ∈ ls, ∃ j : Nat, j < l.length ∧ place l x.q = j) → (runC l M t ls).1 = -1 ∨ ∃ j : Nat, j < l.length ∧ (runC l M t ls).1 = j := by
  refine snoc_ind (fun _ => .inl rfl) ?_
  intro ls x ih h
  have ih := ih fun y hy => h y (by simp [hy])
  obtain ⟨j, hj, e⟩ := h x (by simp)
  have e1 : runC l M t (ls ++ [x]) = stepC l M t (runC l M t ls) x := by simp [runC]
  rw [e1]
  unfold stepC
  split
  · exact ih
  · split
    · exact ih
    · split
      · exact .inr ⟨j, hj, e⟩
      · exact ih
def liveL (ls : List Le) : List Le := ls.filter fun x => !x.st
/-- what all leases below a queue use -/
def onP (l : List Q) (id : Int) (x : Le) : Prop := id ∈ path l x.q
theorem sum_ids (f : Le → Int) (P : Int → Prop) [DecidablePred P] (ids : List Int) (hnd : ids.Nodup) : ∀ (ls : List Le), (∀ x ∈ ls, x.q ∈ ids) → sumI (fun q => if P q then sumI (fun x => if x.q = q then f x else 0) ls else 0) ids = sumI (fun x => if P x.q then f x else 0) ls
  | [], _ => by
    rw [sumI_nil]
    refine sumI_zero fun q _ => ?_
    split <;> rfl
  | x :: ls, h => by
    have ih := sum_ids f P ids hnd ls fun y hy => h y (by simp [hy])
    rw [sumI_cons, ← ih]
    have e1 : sumI (fun q => if P q then sumI (fun x => if x.q = q then f x else 0) (x :: ls) else 0) ids = sumI (fun q => (if q = x.q then (if P x.q then f x else 0) else 0) + (if P q then sumI (fun x => if x.q = q then f x else 0) ls else 0)) ids := by
      refine sumI_congr fun q _ => ?_
      rw [sumI_cons]
      by_cases e : q = x.q
      · subst e; simp; split <;> simp
      · have e2 : ¬ x.q = q := fun h => e h.symm
        simp [e, e2]
    rw [e1, sumI_add]
    congr 1
    have key : ∀ (ids : List Int), ids.Nodup → x.q ∈ ids → ∀ v : Int, sumI (fun q => if q = x.q then v else 0) ids = v := by
      intro ids
      induction ids with
      | nil => intro _ h; cases h
      | cons a r ih =>
        intro hn hm v
        rw [List.nodup_cons] at hn
        rw [sumI_cons]
        by_cases e : a = x.q
        · subst e
          rw [if_pos rfl, sumI_zero fun q hq => by rw [if_neg]; rintro rfl; exact hn.1 hq]
          simp
        · rw [if_neg e, ih hn.2 (by rcases List.mem_cons.1 hm with h | h; exact absurd h.symm e; exact h) v]
          simp
    exact key ids hnd (h x (by simp)) _
theorem totF_sum2 (l : List Q) (id : Int) : ∀ (us : List U) (s : Int × Int), totF l id us s = (s.1 + sumI (fun u => if id ∈ path l u.q then u.c else 0) us, s.2 + sumI (fun u => if id ∈ path l u.q then u.m else 0) us)
  | [], s => by simp [totF, sumI]
  | u :: r, s => by
    rw [totF, totF_sum2 l id r, sumI_cons, sumI_cons]
    split
    · simp only; ext <;> simp <;> omega
    · simp
theorem tot_uses {ls : List Le} (h : ∀ x ∈ ls, okLe x = true) (l : List Q) (id : Int) : tot l (usesL ls) id = (sumI (fun x : Le => if id ∈ path l x.q then (x.cs.length : Int) else 0) ls, sumI (fun x : Le => if id ∈ path l x.q then x.m else 0) ls) := by
  have hnd : (idsL ls).Nodup := (idsL_sorted h).imp fun h e => by omega
  have hin : ∀ x ∈ ls, x.q ∈ idsL ls := fun x hx => (idsL_mem h).2 ⟨x, hx, rfl⟩
  unfold tot
  rw [totF_sum2]
  have e1 : ∀ (g : Int × Int → Int) (f : Le → Int), (∀ q, g (sumL ls q) = sumI (fun x => if x.q = q then f x else 0) ls) → sumI (fun u : U => if id ∈ path l u.q then g (u.c, u.m) else 0) (usesL ls) = sumI (fun x : Le => if id ∈ path l x.q then f x else 0) ls := fun g f hg => by
    rw [← sum_ids f (fun q => id ∈ path l q) (idsL ls) hnd ls hin]
    unfold usesL sumI
    rw [List.map_map]
    congr 1
    refine List.map_congr_left fun q _ => ?_
    simp only [Function.comp]
    split
    · exact hg q
    · rfl
  have h1 := e1 (·.1) (fun x => (x.cs.length : Int)) fun q => rfl
  have h2 := e1 (·.2) (fun x => x.m) fun q => rfl
  simp only at h1 h2
  rw [h1, h2]; simp
theorem ok_of {ls : List Le} (h : vusesE ls = 0) : (∀ x ∈ ls, okLe x = true) ∧ ∀ x ∈ ls, goodP (sumL ls x.q) = true := by
  unfold vusesE at h
  split at h
  · cases h
  · rename_i h1
    split at h
    · cases h
    · rename_i h2
      refine ⟨fun x hx => ?_, fun x hx => ?_⟩
      · cases e : okLe x with
        | true => rfl
        | false => exact absurd (List.any_eq_true.2 ⟨x, hx, by rw [e]; rfl⟩) h1
      · cases e : goodP (sumL ls x.q) with
        | true => rfl
        | false => exact absurd (List.any_eq_true.2 ⟨x, hx, by rw [e]; rfl⟩) h2
theorem uses_of {ls : List Le} (h1 : ∀ x ∈ ls, okLe x = true) (h2 : ∀ x ∈ ls, goodP (sumL ls x.q) = true) : vusesE ls = 0 := by
  unfold vusesE
  rw [if_neg, if_neg]
  · intro h
    obtain ⟨x, hx, e⟩ := List.any_eq_true.1 h
    rw [h2 x hx] at e; cases e
  · intro h
    obtain ⟨x, hx, e⟩ := List.any_eq_true.1 h
    rw [h1 x hx] at e; cases e
theorem sumI_filter (f : Le → Int) (p : Le → Bool) : ∀ (ls : List Le), (∀ x ∈ ls, 0 ≤ f x) → 0 ≤ sumI f (ls.filter p) ∧ sumI f (ls.filter p) ≤ sumI f ls
  | [], _ => by simp [sumI]
  | x :: r, h => by
    obtain ⟨i1, i2⟩ := sumI_filter f p r fun y hy => h y (by simp [hy])
    have := h x (by simp)
    rw [List.filter_cons]
    split
    · rw [sumI_cons, sumI_cons]; omega
    · rw [sumI_cons]; omega
theorem good_le {a b : Int × Int} (hb : goodP b = true) (h1 : 0 ≤ a.1) (h2 : 0 ≤ a.2) (h3 : a.1 ≤ b.1) (h4 : a.2 ≤ b.2) : goodP a = true := by
  unfold goodP at hb ⊢
  rw [good_iff] at hb ⊢
  omega
def vsumsE (l : List Q) (ls : List Le) : Int := if check l ≠ 0 then check l else if vusesE ls ≠ 0 then vusesE ls else sumsE l (usesL ls)
theorem vsums_zero {l : List Q} {ls : List Le} : vsumsE l ls = 0 ↔ check l = 0 ∧ vusesE ls = 0 ∧ sumsE l (usesL ls) = 0 := by
  unfold vsumsE
  by_cases h1 : check l = 0
  · by_cases h2 : vusesE ls = 0
    · simp [h1, h2]
    · simp [h1, h2]
  · simp [h1]
theorem usesE_iff {l : List Q} : ∀ {us : List U}, usesE l us = 0 ↔ ∀ u ∈ us, useE l u = 0
  | [] => by simp [usesE]
  | u :: r => by
    have ih := usesE_iff (l := l) (us := r)
    unfold usesE
    constructor
    · intro h
      split at h
      · rename_i h1; exact absurd h h1
      · rename_i h1
        intro v hv
        rcases List.mem_cons.1 hv with rfl | hv
        · exact Classical.byContradiction fun k => h1 k
        · exact ih.1 h v hv
    · intro h
      have h1 := h u (by simp)
      rw [if_neg (by simp [h1])]
      exact ih.2 fun v hv => h v (by simp [hv])
/-- where all fits, so do some of the leases -/
theorem vsums_filter {l : List Q} {ls : List Le} (p : Le → Bool) (h : vsumsE l ls = 0) : vsumsE l (ls.filter p) = 0 := by
  obtain ⟨hc, hu, hs⟩ := vsums_zero.1 h
  obtain ⟨o1, o2⟩ := ok_of hu
  obtain ⟨_, hu0, ho⟩ := sumsE_zero.1 hs
  have o1' : ∀ x ∈ ls.filter p, okLe x = true := fun x hx => o1 x ((List.mem_filter.1 hx).1)
  have hcpu : ∀ q, ∀ x ∈ ls, 0 ≤ cpuOf q x := fun q x _ => by unfold cpuOf; split <;> omega
  have hmem : ∀ q, ∀ x ∈ ls, 0 ≤ memOf q x := fun q x hx => by have := okLe_iff.1 (o1 x hx); unfold memOf; split <;> omega
  have hg : ∀ x ∈ ls.filter p, goodP (sumL (ls.filter p) x.q) = true := fun x hx => by
    have a := sumI_filter (cpuOf x.q) p ls (hcpu _)
    have b := sumI_filter (memOf x.q) p ls (hmem _)
    exact good_le (o2 x ((List.mem_filter.1 hx).1)) a.1 b.1 a.2 b.2
  have hu' := uses_of o1' hg
  refine vsums_zero.2 ⟨hc, hu', sumsE_zero.2 ⟨hc, usesE_iff.2 fun u hu2 => ?_, overs_iff.2 fun q hq => ?_⟩⟩
  · unfold usesL at hu2
    obtain ⟨q, hq, rfl⟩ := List.mem_map.1 hu2
    obtain ⟨x, hx, rfl⟩ := (idsL_mem o1').1 hq
    have hx' := (List.mem_filter.1 hx).1
    have := usesE_mem hu0 ⟨x.q, (sumL ls x.q).1, (sumL ls x.q).2⟩ (by
      unfold usesL
      exact List.mem_map.2 ⟨x.q, (idsL_mem o1).2 ⟨x, hx', rfl⟩, rfl⟩)
    unfold useE at this ⊢
    simp only at this ⊢
    split at this
    · cases this
    · rename_i h1
      rw [if_neg h1]
      split at this
      · cases this
      · rename_i h2
        rw [if_neg h2, if_neg]
        have := hg x hx
        unfold goodP at this
        rw [this]; decide
  · have := overs_iff.1 ho q hq
    rw [tot_uses o1] at this
    rw [tot_uses o1']
    have a := sumI_filter (fun x => if q.Id ∈ path l x.q then (x.cs.length : Int) else 0) p ls fun x _ => by split <;> omega
    have b := sumI_filter (fun x => if q.Id ∈ path l x.q then x.m else 0) p ls fun x hx => by have := okLe_iff.1 (o1 x hx); split <;> omega
    exact good_le this a.1 b.1 a.2 b.2
theorem lease_place {l : List Q} {ls : List Le} (h : vsumsE l ls = 0) : ∀ x ∈ ls, ∃ j : Nat, ∃ hj : j < l.length, place l x.q = j ∧ l[j].Id = x.q := fun x hx => by
  obtain ⟨hc, hu, hs⟩ := vsums_zero.1 h
  obtain ⟨o1, o2⟩ := ok_of hu
  obtain ⟨_, hu0, ho⟩ := sumsE_zero.1 hs
  have := usesE_mem hu0 ⟨x.q, (sumL ls x.q).1, (sumL ls x.q).2⟩ (by
    unfold usesL
    exact List.mem_map.2 ⟨x.q, (idsL_mem o1).2 ⟨x, hx, rfl⟩, rfl⟩)
  have hh : has l x.q = true := by
    unfold useE at this
    simp only at this
    split at this
    · cases this
    · rename_i h1; simpa using h1
  obtain ⟨a, b, c⟩ := place_pos (check_rises hc) hh
  exact ⟨pos l x.q, b, a, c b⟩
end Go.Idl
