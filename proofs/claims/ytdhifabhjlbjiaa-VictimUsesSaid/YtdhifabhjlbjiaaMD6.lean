/- Who uses more has no lesser share: the choice stays. -/
import Derived.Test.YtdhifabhjlbjiaaMD5
set_option linter.all false
namespace Go.Idl
set_option linter.unusedSimpArgs false
set_option linter.unusedVariables false

theorem sonsF_sorted (id : Int) : ∀ (r : List Q) (i : Nat), ((sonsF id r i).map (·.1)).Pairwise (· < ·)
  | [], _ => List.Pairwise.nil
  | q :: r, i => by
    unfold sonsF
    split
    · rw [List.map_cons, List.pairwise_cons]
      refine ⟨fun a ha => ?_, sonsF_sorted id r (i + 1)⟩
      obtain ⟨p, hp, rfl⟩ := List.mem_map.1 ha
      have := (sonsF_nodup id r (i + 1)).2 p hp
      simp only; omega
    · exact sonsF_sorted id r (i + 1)
theorem check_wt {l : List Q} (hc : check l = 0) {c : Nat} (h : c < l.length) : 1 ≤ l[c].Wt ∧ l[c].Wt ≤ 1048576 := by
  have := args_mem (check_args hc) _ (List.getElem_mem h)
  simp only [okQ, Bool.and_eq_true, decide_eq_true_eq] at this
  omega
theorem tot_good {l : List Q} {uses : List U} (ho : overs l uses = false) {c : Nat} (h : c < l.length) : good (tot l uses l[c].Id).1 (tot l uses l[c].Id).2 = true := overs_iff.1 ho _ (List.getElem_mem h)
/-- no son that is wished has a lesser share by its weight than the best one -/
theorem best_frac {l : List Q} {uses : List U} {want : List Int} {t : Int × Int} (hc : check l = 0) (ho : overs l uses = false) (ht : good t.1 t.2 = true) {a s : Nat} (ha : a < l.length) (hb : bestZ l (sumsL l uses) (cnts l want) t a = s) :
    ∃ hs : s < l.length, ∀ k (hk : k < l.length), l[k].Par = l[a].Id → cntI l want l[k].Id ≠ 0 →
      (frZ (tot l uses l[s].Id) l[s].Wt t).le (frZ (tot l uses l[k].Id) l[k].Wt t) ∧ ((frZ (tot l uses l[k].Id) l[k].Wt t).le (frZ (tot l uses l[s].Id) l[s].Wt t) → s ≤ k) := by
  have hwt : ∀ c (h : c < l.length), 1 ≤ l[c].Wt := fun c h => (check_wt hc h).1
  have hgd : ∀ c (h : c < l.length), good (tot l uses l[c].Id).1 (tot l uses l[c].Id).2 = true := fun c h => tot_good ho h
  have hF : ∀ c (h : c < l.length), frZ (tot l uses (l.getD c q0).Id) (l.getD c q0).Wt t = frZ (tot l uses l[c].Id) l[c].Wt t := fun c h => by simp [h]
  have hga : l.getD a q0 = l[a] := by simp [ha]
  unfold bestZ at hb
  rw [hga] at hb
  obtain ⟨hs, g1, _⟩ := bestF_least (l := l) (sums := sumsL l uses) (cnt := cnts l want) (t := t) (fun c => frZ (tot l uses (l.getD c q0).Id) (l.getD c q0).Wt t) (fun c => c < l.length) (fun p => ∃ h : p.1 < l.length, p.2 = l[p.1])
    (fun c h => by rw [hF c h]; exact frZ_ok (hgd c h) ht (hwt c h))
    (fun p c hp' hc' => by
      obtain ⟨h1, h2⟩ := hp'
      have e1 : (sumsL l uses).getD p.1 (0, 0) = tot l uses l[p.1].Id := by simp [sumsL, h1]
      have e2 : (sumsL l uses).getD ((c : Int)).toNat (0, 0) = tot l uses l[c].Id := by simp [sumsL, hc']
      have e3 : l.getD ((c : Int)).toNat q0 = l[c] := by simp [hc']
      rw [e1, e2, e3, h2, hF c hc', hF p.1 h1, ordZ_fr (hgd _ h1) (hgd c hc') ht (hwt _ h1) (hwt c hc'), sgn_neg]
      unfold Fr.le
      omega)
    (sons l l[a].Id) (-1) (fun p hp' => by obtain ⟨h1, h2, _⟩ := sons_at hp'; exact ⟨⟨h1, h2⟩, h1⟩) (.inl rfl) (sonsF_sorted _ l 0) s hb
  refine ⟨hs, fun k hk hp hw => ?_⟩
  have hin := sonsF_has l[a].Id l 0 k hk hp
  obtain ⟨h1, h2⟩ := g1 _ hin (by simp only [Nat.zero_add]; rw [cnts_get hk]; exact hw)
  simp only [Nat.zero_add] at h1 h2
  rw [hF s hs, hF k hk] at h1 h2
  exact ⟨h1, h2⟩
theorem best_least {l : List Q} {uses : List U} {want : List Int} {t : Int × Int} (hc : check l = 0) (ho : overs l uses = false) (ht : good t.1 t.2 = true) {a s k : Nat} (ha : a < l.length) (hs : s < l.length) (hk : k < l.length)
    (hb : bestZ l (sumsL l uses) (cnts l want) t a = s) (hp : l[k].Par = l[a].Id) (hw : cntI l want l[k].Id ≠ 0) :
    ¬ ordZ (tot l uses l[k].Id) l[k].Wt (tot l uses l[s].Id) l[s].Wt t < 0 ∧ (ordZ (tot l uses l[k].Id) l[k].Wt (tot l uses l[s].Id) l[s].Wt t = 0 → s ≤ k) := by
  obtain ⟨_, g⟩ := best_frac hc ho ht ha hb
  obtain ⟨h1, h2⟩ := g k hk hp hw
  rw [ordZ_fr (tot_good ho hk) (tot_good ho hs) ht (check_wt hc hk).1 (check_wt hc hs).1, sgn_neg, sgn_zero]
  unfold Fr.le at h1 h2
  exact ⟨by omega, fun e => h2 (by omega)⟩
/-- a part of the way of a queue -/
theorem path_trans_n {l : List Q} (hf : form l = true) {x y : Int} (h1 : y ∈ path l x) : ∀ (n : Nat) (w : Int), rank l w ≤ n → x ∈ path l w → y ∈ path l w
  | n, w, hn, h2 => by
    rw [path_eq hf] at h2
    split at h2
    · rename_i hh
      rcases List.mem_cons.1 h2 with rfl | h2
      · exact h1
      · have hr := rank_par hf hh
        rw [path_eq hf, if_pos hh]
        cases n with
        | zero => omega
        | succ n => exact List.mem_cons_of_mem _ (path_trans_n hf h1 n _ (by omega) h2)
    · cases h2
theorem path_trans {l : List Q} (hf : form l = true) {x y w : Int} (h1 : y ∈ path l x) (h2 : x ∈ path l w) : y ∈ path l w := path_trans_n hf h1 _ w (Nat.le_refl _) h2
def frP (p : Int × Int) : Fr := ⟨p.1, p.2⟩
theorem partZ_ok {x y : Int} (hx : 0 ≤ x ∧ x ≤ 1099511627776) (hy : 0 ≤ y ∧ y ≤ 1099511627776) : (frP (partZ x y)).ok := by
  obtain ⟨h1, h2, h3⟩ := partZ_bound hx hy
  exact ⟨h1.1, h2.1, h3⟩
theorem partZ_mono {x x' y : Int} (h : x ≤ x') (h0 : 0 ≤ x) (hy : 0 ≤ y) : (frP (partZ x y)).le (frP (partZ x' y)) := by
  unfold partZ frP Fr.le
  split
  · split <;> split <;> simp only <;> omega
  · exact Int.mul_le_mul_of_nonneg_right h hy
theorem shareZ_mono {a b t : Int × Int} (ha : good a.1 a.2 = true) (hb : good b.1 b.2 = true) (ht : good t.1 t.2 = true) (h1 : a.1 ≤ b.1) (h2 : a.2 ≤ b.2) : (frP (shareZ a t)).le (frP (shareZ b t)) := by
  have ga := good_iff'.1 ha
  have gb := good_iff'.1 hb
  have gt := good_iff'.1 ht
  have o1 := partZ_ok ga.1 gt.1
  have o2 := partZ_ok ga.2 gt.2
  have o3 := partZ_ok gb.1 gt.1
  have o4 := partZ_ok gb.2 gt.2
  have m1 := partZ_mono h1 ga.1.1 gt.1.1
  have m2 := partZ_mono h2 ga.2.1 gt.2.1
  have top : ∀ u : Int × Int, (frP (partZ u.1 t.1)).le (frP (shareZ u t)) ∧ (frP (partZ u.2 t.2)).le (frP (shareZ u t)) := fun u => by
    unfold shareZ frP Fr.le
    split
    · simp only; omega
    · simp only; omega
  have os : (frP (shareZ b t)).ok := by unfold shareZ; split; exact o4; exact o3
  obtain ⟨k1, k2⟩ := top b
  have e : shareZ a t = partZ a.2 t.2 ∨ shareZ a t = partZ a.1 t.1 := by unfold shareZ; split; exact .inl rfl; exact .inr rfl
  rcases e with e | e
  · rw [e]; exact Fr.le_trans o2 o4 os m2 k2
  · rw [e]; exact Fr.le_trans o1 o3 os m1 k1
theorem frZ_mono {a b t : Int × Int} {w : Int} (ha : good a.1 a.2 = true) (hb : good b.1 b.2 = true) (ht : good t.1 t.2 = true) (hw : 1 ≤ w) (h1 : a.1 ≤ b.1) (h2 : a.2 ≤ b.2) : (frZ a w t).le (frZ b w t) := by
  have h := shareZ_mono ha hb ht h1 h2
  unfold frP Fr.le at h
  unfold frZ Fr.le
  simp only at h ⊢
  have := Int.mul_le_mul_of_nonneg_right h (show 0 ≤ w by omega)
  rw [Int.mul_assoc, Int.mul_assoc] at this
  exact this
theorem bestF_congr {l : List Q} {sums sums' : List (Int × Int)} {cnt : List Int} {t : Int × Int} : ∀ (r : List (Nat × Q)) (best : Int), (∀ p ∈ r, sums.getD p.1 (0, 0) = sums'.getD p.1 (0, 0)) → (0 ≤ best → sums.getD best.toNat (0, 0) = sums'.getD best.toNat (0, 0)) → bestF l sums cnt t r best = bestF l sums' cnt t r best
  | [], _, _, _ => rfl
  | p :: r, best, h, hb => by
    have h1 := h p (by simp)
    have h2 : ∀ q ∈ r, sums.getD q.1 (0, 0) = sums'.getD q.1 (0, 0) := fun q hq => h q (by simp [hq])
    unfold bestF
    rw [bestF_congr r best h2 hb, bestF_congr r (p.1 : Int) h2 (fun _ => by simpa using h1)]
    by_cases h0 : best < 0
    · simp [h0]
    · rw [h1, hb (by omega)]
theorem sumsL_get {l : List Q} {uses : List U} {i : Nat} (h : i < l.length) : (sumsL l uses).getD i (0, 0) = tot l uses l[i].Id := by simp [sumsL, h]
/-- in a part of the tree of which all sums stay, the way down stays -/
theorem pick_congr {l : List Q} {uses uses' : List U} {want : List Int} {t : Int × Int} (hf : form l = true) (T : Nat → Prop) (hT : ∀ a (ha : a < l.length) j (hj : j < l.length), T a → l[j].Par = l[a].Id → T j) (hs : ∀ a (ha : a < l.length), T a → tot l uses l[a].Id = tot l uses' l[a].Id) :
    ∀ (n a : Nat) (ha : a < l.length), T a → pickF l (sumsL l uses) (cnts l want) t n a = pickF l (sumsL l uses') (cnts l want) t n a
  | 0, a, ha, _ => rfl
  | n + 1, a, ha, hTa => by
    have hga : l.getD a q0 = l[a] := by simp [ha]
    have e : bestZ l (sumsL l uses) (cnts l want) t a = bestZ l (sumsL l uses') (cnts l want) t a := by
      unfold bestZ
      rw [hga]
      refine bestF_congr _ _ (fun p hp => ?_) (fun h => by omega)
      obtain ⟨h1, h2, h3⟩ := sons_at hp
      rw [sumsL_get h1, sumsL_get h1]
      exact hs _ h1 (hT a ha _ h1 hTa (by rw [← h2]; exact h3))
    rw [pickF, pickF, e]
    split
    · rfl
    · rename_i h0
      rcases bestZ_range (sums := sumsL l uses') (cnt := cnts l want) (t := t) hf ha with h | ⟨j, h, hj, haj⟩
      · rw [h] at h0; exact absurd (by decide) h0
      have hj2 : l[j].Par = l[a].Id := by
        have h' := h
        unfold bestZ at h'
        rw [hga] at h'
        rcases bestF_range (l := l) (sums := sumsL l uses') (cnt := cnts l want) (t := t) (sons l l[a].Id) (-1) with h2 | ⟨p, hp, h2⟩
        · omega
        · obtain ⟨g1, g2, g3⟩ := sons_at hp
          have : p.1 = j := by omega
          subst this
          rw [← g2]; exact g3
      rw [show (bestZ l (sumsL l uses') (cnts l want) t a).toNat = j by omega]
      exact pick_congr hf T hT hs n j hj (hT a ha j hj hTa hj2)
/-- the choice stays where another part of the tree uses more -/
theorem grows {l : List Q} {uses : List U} {want : List Int} {t : Int × Int} {u : U} (hE : chooseE l uses want t = 0) (hE' : chooseE l (uses ++ [u]) want t = 0)
    (hd : ∀ s (hs : s < l.length), l[s].Par = 0 → l[s].Id ∈ path l (pickAt l (sumsL l uses) t (cnts l want)) → l[s].Id ∉ path l u.q) :
    pickAt l (sumsL l (uses ++ [u])) t (cnts l want) = pickAt l (sumsL l uses) t (cnts l want) := by
  have hs : sumsE l uses = 0 := by
    rcases Decidable.em (sumsE l uses = 0) with h | h
    · exact h
    · simp [chooseE, h] at hE
  have hs' : sumsE l (uses ++ [u]) = 0 := by
    rcases Decidable.em (sumsE l (uses ++ [u]) = 0) with h | h
    · exact h
    · simp [chooseE, h] at hE'
  have hM : marksE l want t.1 t.2 = 0 := by simpa [chooseE, hs] using hE
  obtain ⟨hgd, hR, hne, hWz⟩ := marks_zero.1 hM
  obtain ⟨hh, hlf⟩ := wants_zero.1 hWz
  obtain ⟨hc, hu0, ho⟩ := sumsE_zero.1 hs
  obtain ⟨_, hu0', ho'⟩ := sumsE_zero.1 hs'
  have hf := check_form hc
  have hr := check_rises hc
  have h0 := form_pos hf
  have hroot := form_root hf h0
  have hgu : good u.c u.m = true := by
    have := usesE_mem hu0' u (by simp)
    unfold useE at this
    split at this
    · cases this
    · split at this
      · cases this
      · split at this
        · cases this
        · rename_i h; simpa using h
  have gu := good_iff.1 hgu
  unfold pickAt pickN at hd ⊢
  have hga : l.getD 0 q0 = l[0] := by simp [h0]
  have hlen : l.length = l.length - 1 + 1 := by omega
  have hcnt : cntI l want l[0].Id ≠ 0 := by
    obtain ⟨w, r, rfl⟩ := List.exists_cons_of_ne_nil hne
    exact cntI_pos.2 ⟨w, by simp, by rw [hroot.1]; exact root_mem hf (hh w (by simp))⟩
  -- the first step
  by_cases hex : ∃ p ∈ sons l l[0].Id, (cnts l want).getD p.1 0 ≠ 0
  case neg =>
    have e : ∀ sums, bestZ l sums (cnts l want) t 0 = -1 := fun sums => by
      unfold bestZ
      rw [hga]
      rcases bestF_in (l := l) (sums := sums) (t := t) (cnt := cnts l want) (sons l l[0].Id) (-1) with h | ⟨q, hq, _, h⟩
      · exact h
      · exact absurd ⟨q, hq, h⟩ hex
    have e2 : ∀ sums, pickF l sums (cnts l want) t l.length 0 = 0 := fun sums => by
      rw [hlen, pickF, if_pos (by rw [e]; decide)]
    rw [e2, e2]
  have hb := fun sums => bestF_some (l := l) (sums := sums) (t := t) (cnt := cnts l want) (sons l l[0].Id) hex
  obtain ⟨q1, hq1, e1, c1⟩ := hb (sumsL l uses)
  obtain ⟨q2, hq2, e2, c2⟩ := hb (sumsL l (uses ++ [u]))
  obtain ⟨l1, v1, p1⟩ := sons_at hq1
  obtain ⟨l2, v2, p2⟩ := sons_at hq2
  rw [v1] at p1
  rw [v2] at p2
  generalize q1.1 = i at *
  generalize q2.1 = j at *
  have b1 : bestZ l (sumsL l uses) (cnts l want) t 0 = i := by unfold bestZ; rw [hga]; exact e1
  have b2 : bestZ l (sumsL l (uses ++ [u])) (cnts l want) t 0 = j := by unfold bestZ; rw [hga]; exact e2
  rw [cnts_get l1] at c1
  rw [cnts_get l2] at c2
  obtain ⟨_, g1⟩ := best_frac hc ho hgd h0 b1
  obtain ⟨_, g2⟩ := best_frac hc ho' hgd h0 b2
  have st1 : pickF l (sumsL l uses) (cnts l want) t l.length 0 = pickF l (sumsL l uses) (cnts l want) t (l.length - 1) i := by
    rw [hlen, pickF, if_neg (by rw [b1]; omega), b1]; simp
  have st2 : pickF l (sumsL l (uses ++ [u])) (cnts l want) t l.length 0 = pickF l (sumsL l (uses ++ [u])) (cnts l want) t (l.length - 1) j := by
    rw [hlen, pickF, if_neg (by rw [b2]; omega), b2]; simp
  have hi0 := par_above hf l1 h0 p1
  have hway := (pick_way (sums := sumsL l uses) (cnt := cnts l want) (t := t) hf (l.length - 1) i l1 (by omega))
  rw [st1] at hd ⊢
  rw [st2]
  obtain ⟨hz, hw1, _⟩ := hway
  have hgz : l.getD (pickF l (sumsL l uses) (cnts l want) t (l.length - 1) i) q0 = l[pickF l (sumsL l uses) (cnts l want) t (l.length - 1) i] := by simp [hz]
  have hnot : l[i].Id ∉ path l u.q := hd i l1 (by rw [p1]; exact hroot.1) (by rw [hgz]; exact hw1)
  have hsame : ∀ a (ha : a < l.length), l[i].Id ∈ path l l[a].Id → tot l uses l[a].Id = tot l (uses ++ [u]) l[a].Id := fun a ha h => by
    rw [tot_snoc, if_neg (fun k => hnot (path_trans hf h k))]
  have hmono : (frZ (tot l uses l[j].Id) l[j].Wt t).le (frZ (tot l (uses ++ [u]) l[j].Id) l[j].Wt t) := by
    refine frZ_mono (tot_good ho l2) (tot_good ho' l2) hgd (check_wt hc l2).1 ?_ ?_ <;>
    · rw [tot_snoc]; split
      · simp only; omega
      · exact Int.le_refl _
  have eself := hsame i l1 (path_self hf (has_at l1))
  have o1 := frZ_ok (w := l[i].Wt) (tot_good ho l1) hgd (check_wt hc l1).1
  have o2 := frZ_ok (w := l[j].Wt) (tot_good ho l2) hgd (check_wt hc l2).1
  have o3 := frZ_ok (w := l[j].Wt) (tot_good ho' l2) hgd (check_wt hc l2).1
  obtain ⟨a1, a2⟩ := g1 j l2 p2 c2
  obtain ⟨a3, a4⟩ := g2 i l1 p1 c1
  rw [← eself] at a3 a4
  have eij : j = i := by
    have k1 := a2 (Fr.le_trans o2 o3 o1 hmono a3)
    have k2 := a4 (Fr.le_trans o1 o2 o3 a1 hmono)
    omega
  subst eij
  have := pick_congr (uses := uses) (uses' := uses ++ [u]) (want := want) (t := t) hf (fun a => ∃ ha : a < l.length, l[j].Id ∈ path l l[a].Id)
    (fun a ha k hk hTa hp => ⟨hk, by
      obtain ⟨_, hTa⟩ := hTa
      refine path_trans hf hTa ?_
      have hk' := path_self hf (has_at hk)
      exact path_up hf hk ha hp hk'⟩)
    (fun a ha hTa => hsame a ha hTa.2) (l.length - 1) j l2 ⟨l2, path_self hf (has_at l2)⟩
  rw [this]
end Go.Idl
