/- The program's turns: pick. -/
import Derived.Test.YtdhifabhjlbjiaaPD
import Derived.Test.YtdhifabhjlbjiaaPV
import Derived.Test.YtdhifabhjlbjiaaPS
set_option linter.all false
namespace Go.Idl
open Go.Proofs
set_option linter.unusedSimpArgs false
set_option linter.unusedVariables false
set_option maxRecDepth 8000
set_option maxHeartbeats 4000000
variable (b c d : Bool)

/-- the best of some sons, with one that was found before -/
def bestF (l : List Q) (sums : List (Int × Int)) (cnt : List Int) (t : Int × Int) : List (Nat × Q) → Int → Int
  | [], best => best
  | p :: r, best => if cnt.getD p.1 0 = 0 then bestF l sums cnt t r best
    else if best < 0 ∨ ordZ (sums.getD p.1 (0, 0)) p.2.Wt (sums.getD best.toNat (0, 0)) (l.getD best.toNat q0).Wt t < 0 then bestF l sums cnt t r p.1
    else bestF l sums cnt t r best
def bestZ (l : List Q) (sums : List (Int × Int)) (cnt : List Int) (t : Int × Int) (at_ : Nat) : Int := bestF l sums cnt t (sons l (l.getD at_ q0).Id) (-1)
/-- the way down -/
def pickF (l : List Q) (sums : List (Int × Int)) (cnt : List Int) (t : Int × Int) : Nat → Nat → Nat
  | 0, a => a
  | n + 1, a => if bestZ l sums cnt t a < 0 then a else pickF l sums cnt t n (bestZ l sums cnt t a).toNat
def pickN (l : List Q) (sums : List (Int × Int)) (cnt : List Int) (t : Int × Int) : Nat := pickF l sums cnt t l.length 0
theorem sonsF_at (l : List Q) (id : Int) : ∀ (r : List Q) (i : Nat), (∀ j (h : j < r.length), ∃ h' : i + j < l.length, l[i + j] = r[j]) → ∀ p ∈ sonsF id r i, ∃ h : p.1 < l.length, p.2 = l[p.1] ∧ p.2.Par = id
  | [], _, _, p, hp => by cases hp
  | q :: r, i, h, p, hp => by
    have hr : ∀ j (h : j < r.length), ∃ h' : i + 1 + j < l.length, l[i + 1 + j] = r[j] := fun j hj => by
      obtain ⟨a, e⟩ := h (j + 1) (by simp; omega)
      have e2 : i + (j + 1) = i + 1 + j := by omega
      simp only [e2] at a e
      exact ⟨a, by simpa using e⟩
    unfold sonsF at hp
    split at hp
    · rename_i e
      rcases List.mem_cons.1 hp with rfl | hp
      · obtain ⟨a, e2⟩ := h 0 (by simp)
        exact ⟨by simpa using a, by simpa using e2.symm, e⟩
      · exact sonsF_at l id r (i + 1) hr p hp
    · exact sonsF_at l id r (i + 1) hr p hp
theorem sons_at {l : List Q} {id : Int} {p : Nat × Q} (hp : p ∈ sons l id) : ∃ h : p.1 < l.length, p.2 = l[p.1] ∧ p.2.Par = id :=
  sonsF_at l id l 0 (fun j h => ⟨by simpa using h, by simp⟩) p hp
theorem son_above {l : List Q} (hf : form l = true) {a : Nat} (ha : a < l.length) {p : Nat × Q} (hp : p ∈ sons l l[a].Id) : a < p.1 := by
  obtain ⟨h1, h2, h3⟩ := sons_at hp
  have hr := form_rises hf
  rcases Nat.eq_zero_or_pos p.1 with e | e
  · have := (form_root hf (form_pos hf)).2
    have e2 : p.2 = l[0] := by rw [h2]; simp only [e]
    rw [e2, this] at h3
    have := id_nonneg hf ha
    omega
  · obtain ⟨j, hj, hjp, e2⟩ := form_par hf h1 e
    rw [← h2, h3] at e2
    have := rises_inj hr hj ha e2
    omega
theorem bestF_range {l : List Q} {sums : List (Int × Int)} {cnt : List Int} {t : Int × Int} : ∀ (r : List (Nat × Q)) (best : Int), bestF l sums cnt t r best = best ∨ ∃ p ∈ r, bestF l sums cnt t r best = p.1
  | [], best => .inl rfl
  | p :: r, best => by
    unfold bestF
    split
    · rcases bestF_range r best with h | ⟨q, hq, h⟩
      · exact .inl h
      · exact .inr ⟨q, by simp [hq], h⟩
    · split
      · rcases bestF_range r (p.1 : Int) with h | ⟨q, hq, h⟩
        · exact .inr ⟨p, by simp, h⟩
        · exact .inr ⟨q, by simp [hq], h⟩
      · rcases bestF_range r best with h | ⟨q, hq, h⟩
        · exact .inl h
        · exact .inr ⟨q, by simp [hq], h⟩
theorem bestZ_range {l : List Q} {sums : List (Int × Int)} {cnt : List Int} {t : Int × Int} (hf : form l = true) {a : Nat} (ha : a < l.length) : bestZ l sums cnt t a = -1 ∨ ∃ j : Nat, bestZ l sums cnt t a = j ∧ j < l.length ∧ a < j := by
  unfold bestZ
  have e : l.getD a q0 = l[a] := by simp [ha]
  rw [e]
  rcases bestF_range (l := l) (sums := sums) (cnt := cnt) (t := t) (sons l l[a].Id) (-1) with h | ⟨p, hp, h⟩
  · exact .inl h
  · obtain ⟨h1, _, _⟩ := sons_at hp
    exact .inr ⟨p.1, h, h1, son_above hf ha hp⟩
theorem sons_spec' : True := trivial
theorem pick_spec (l : List Q) (sums : List (Int × Int)) (cnt : List Int) (t : Int × Int) (hc : check l = 0) (hsl : sums.length = l.length) (hsg : ∀ j (h : j < sums.length), good sums[j].1 sums[j].2 = true) (hcl : cnt.length = l.length) (ht : good t.1 t.2 = true) :
    PCall Try.prog 130 [encL b l, encVs c sums, encI d cnt, .agg [I t.1, I t.2]] (.d (I (l.getD (pickN l sums cnt t) q0).Id)) := by
  have hf := check_form hc
  have hr := check_rises hc
  have h64 := check_len hc
  refine pcallS (fn := Try.f130) [] [(3, 1006007)] mixed (bodyOf Try.f130) [.tmp 8] Try.func130 rfl rfl (by decide) 56 rfl (by kernel_rfl) ?_
  simp -implicitDefEqProofs [↓gd_tt, ↓gd_ff, ↓gd_tf, ↓gd_ft, bodyOf, Try.f130, stripC, stripL, stripM, onsOf, upto, hintOf, freeOf, List.replicate]
  refine scopeS [] [(3, 1006007)] mixed (by kernel_rfl) ?_
  simp -implicitDefEqProofs [↓gd_tt, ↓gd_ff, ↓gd_tf, ↓gd_ft, stripC, stripL, stripM, onsOf, upto, hintOf, freeOf, List.replicate]
  refine loopA mixed [false, false, false, false, false, false, false, false, false, true, true, false, false, true, true, true, true, true, true, true, false, false, false, false, false, false, false, false, false, false, false, false, false, false, false, false, false, false, false, false, false, false, false, false, false, false, false, false, false, false, false, false, true, true, true] (fun (p : Nat × Nat) => [(9, .d (I p.2))]) (fun (p : Nat × Nat) => [.var [.d (encL b l)], .var [.d (encVs c sums)], .var [.d (encI d cnt)], .var [.d (I t.1), .d (I t.2)]]) (fun (p : Nat × Nat) => p.2 < l.length ∧ p.1 ≤ p.2 ∧ pickF l sums cnt t (l.length - p.1) p.2 = pickN l sums cnt t) (fun (p : Nat × Nat) => l.length - p.2) ((0, 0)) (⟨h64.1, Nat.le_refl _, rfl⟩) (by simp) ?_
  rintro p hx
  obtain ⟨k, a⟩ := p
  obtain ⟨ha, hka, hpk⟩ := hx
  simp only at ha hka hpk ⊢
  simp -implicitDefEqProofs [↓gd_tt, ↓gd_ff, ↓gd_tf, ↓gd_ft]
  have hga : l.getD a q0 = l[a] := by simp [ha]
  refine scopeS [] [(3, 1006007)] mixed (by kernel_rfl) ?_
  simp -implicitDefEqProofs [↓gd_tt, ↓gd_ff, ↓gd_tf, ↓gd_ft, stripC, stripL, stripM, onsOf, upto, hintOf, freeOf, List.replicate, ha]
  refine sonsw_spec b l l[a].Id _ _ ?_
  refine ⟨⟨_, rfl⟩, ?_⟩
  rw [anyGo]
  simp -implicitDefEqProofs [↓gd_tt, ↓gd_ff, ↓gd_tf, ↓gd_ft]
  have hbz : bestZ l sums cnt t a = bestF l sums cnt t (sons l l[a].Id) (-1) := by unfold bestZ; rw [hga]
  refine rangeY mixed (children_yields b l l[a].Id 5 6 (max64 h64.2)) (by simp) (by simp) (by simp) (by simp) (by simp) (by intro y hy; obtain ⟨p, _, rfl⟩ := List.mem_map.1 hy; simp [yQ]) (fun k hp => ∃ best, hp = [.var [.d (encL b l)], .var [.d (encVs c sums)], .var [.d (encI d cnt)], .var [.d (I t.1), .d (I t.2)], .var [.d (I best)], .var [.d (encL b l)], .var [.d (I l[a].Id)]] ∧ k ≤ (sons l l[a].Id).length ∧ bestF l sums cnt t ((sons l l[a].Id).drop k) best = bestZ l sums cnt t a ∧ (best = -1 ∨ ∃ j : Nat, best = j ∧ j < l.length)) ⟨-1, rfl, Nat.zero_le _, hbz.symm, .inl rfl⟩ (by rintro k hp ⟨best, rfl, _⟩; simp) ?_ ?_
  · rintro k hp ⟨best, rfl, hk, hb, hbr⟩ hik L0 L1
    have hk' : k < (sons l l[a].Id).length := by simpa using hik
    obtain ⟨u1, u2, u3⟩ := sons_at (List.getElem_mem hk')
    rw [List.drop_eq_getElem_cons hk', bestF] at hb
    have hcn : (sons l l[a].Id)[k].1 < cnt.length := by omega
    have hsn : (sons l l[a].Id)[k].1 < sums.length := by omega
    have hcg : cnt.getD (sons l l[a].Id)[k].1 0 = cnt[(sons l l[a].Id)[k].1] := by simp [hcn]
    have hsg1 : sums.getD (sons l l[a].Id)[k].1 (0, 0) = sums[(sons l l[a].Id)[k].1] := by simp [hsn]
    rw [hcg, hsg1] at hb
    have hq1 := args_mem (check_args hc) _ (List.getElem_mem u1)
    rw [← u2] at hq1
    have hwt : 1 ≤ (sons l l[a].Id)[k].2.Wt ∧ (sons l l[a].Id)[k].2.Wt ≤ 1048576 := by
      simp only [okQ, Bool.and_eq_true, decide_eq_true_eq] at hq1
      omega
    by_cases hz : cnt[(sons l l[a].Id)[k].1] = 0
    · rw [if_pos hz] at hb
      simp -implicitDefEqProofs [↓gd_tt, ↓gd_ff, ↓gd_tf, ↓gd_ft, yQ, hcn, hz]
      exact ⟨by omega, hb, hbr⟩
    rw [if_neg hz] at hb
    rcases hbr with rfl | ⟨j, rfl, hj⟩
    · rw [if_pos (.inl (by decide))] at hb
      simp -implicitDefEqProofs [↓gd_tt, ↓gd_ff, ↓gd_tf, ↓gd_ft, yQ, hcn, hz]
      exact ⟨by omega, hb, _, rfl, u1⟩
    · have hj2 : j < sums.length := by omega
      have hjn : ¬ (j : Int) < 0 := by omega
      have e1 : sums.getD ((j : Int)).toNat (0, 0) = sums[j] := by simp [hj2]
      have e2 : l.getD ((j : Int)).toNat q0 = l[j] := by simp [hj]
      rw [e1, e2] at hb
      have hq2 := args_mem (check_args hc) _ (List.getElem_mem hj)
      have hwj : 1 ≤ l[j].Wt ∧ l[j].Wt ≤ 1048576 := by
        simp only [okQ, Bool.and_eq_true, decide_eq_true_eq] at hq2
        omega
      simp -implicitDefEqProofs [↓gd_tt, ↓gd_ff, ↓gd_tf, ↓gd_ft, yQ, hcn, hz, hsn, hj, hj2, hjn]
      refine free_pcall (order_spec sums[(sons l l[a].Id)[k].1] sums[j] t (sons l l[a].Id)[k].2.Wt l[j].Wt (hsg _ hsn) (hsg _ hj2) ht hwt hwj) rfl rfl ?_
      by_cases ho : ordZ sums[(sons l l[a].Id)[k].1] (sons l l[a].Id)[k].2.Wt sums[j] l[j].Wt t < 0
      · rw [if_pos (.inr ho)] at hb
        simp -implicitDefEqProofs [↓gd_tt, ↓gd_ff, ↓gd_tf, ↓gd_ft, ho]
        exact ⟨by omega, hb, _, rfl, u1⟩
      · rw [if_neg (by rintro (k1 | k1); exact hjn k1; exact ho k1)] at hb
        simp -implicitDefEqProofs [↓gd_tt, ↓gd_ff, ↓gd_tf, ↓gd_ft, ho]
        exact ⟨by omega, hb, j, rfl, hj⟩
  · rintro hp' ⟨best, rfl, hk, hb, hbr⟩
    have hbe : best = bestZ l sums cnt t a := by
      rw [← hb]; simp [bestF]
    have hlk : l.length - k = (l.length - (k + 1)) + 1 := by omega
    rw [hlk, pickF] at hpk
    simp -implicitDefEqProofs [↓gd_tt, ↓gd_ff, ↓gd_tf, ↓gd_ft]
    refine ⟨fun e => ⟨ha, ?_⟩, fun e => ?_⟩
    · rw [← hbe, if_pos e] at hpk
      rw [← hpk]
      simp [ha]
    · rw [← hbe, if_neg (by omega)] at hpk
      rcases bestZ_range (sums := sums) (cnt := cnt) (t := t) hf ha with h | ⟨j, h, hj, haj⟩
      · rw [← hbe] at h; omega
      · rw [← hbe] at h
        subst h
        exact ⟨k + 1, j, ⟨hj, by omega, by simpa using hpk⟩, by omega, rfl⟩
end Go.Idl
