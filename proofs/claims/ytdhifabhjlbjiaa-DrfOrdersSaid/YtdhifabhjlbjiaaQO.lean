/- The document's answer for turns: Check, Pick, Choose. -/
import Derived.Test.YtdhifabhjlbjiaaRN
import Derived.Test.YtdhifabhjlbjiaaQB
import Derived.Test.YtdhifabhjlbjiaaMD6
set_option linter.all false
namespace Go.Idl
open Go.Proofs
set_option linter.unusedSimpArgs false
set_option linter.unusedVariables false
set_option maxRecDepth 8000
set_option maxHeartbeats 2000000
variable (b c d : Bool)

theorem rrises_spec (l : List Int) (hl : l.length ≤ maxLen) : PCall Try.prog 173 [encI b l] (.d (.bool (decide (Rising l)))) := by
  refine pcallS (fn := Try.f173) [] [] mixed (bodyOf Try.f173) [.tmp 2] Try.func173 rfl rfl (by decide) 23 rfl (by kernel_rfl) ?_
  simp -implicitDefEqProofs [↓gd_tt, ↓gd_ff, ↓gd_tf, ↓gd_ft, bodyOf, Try.f173, stripC, stripL, stripM, onsOf, upto, hintOf, freeOf, List.replicate]
  refine loopA mixed [false, false, true, true, false, false, true, true, true, true, true, true, true, true, true, true, true, true, true, true, true, true, true, true] (fun (i : Nat) => [(6, .d (I i))]) (fun (i : Nat) => []) (fun (i : Nat) => i ≤ l.length ∧ ∀ j (h : j + 1 < l.length), j + 1 < i → l[j] < l[j + 1]) (fun (i : Nat) => l.length - i) (0) (⟨Nat.zero_le _, fun j _ h => by omega⟩) (by simp) ?_
  rintro i hx
  obtain ⟨hi, hx⟩ := hx
  rcases Nat.lt_or_eq_of_le hi with h | h
  case inr =>
    have hR : Rising l := fun j hj => hx j hj (by omega)
    simp -implicitDefEqProofs [↓gd_tt, ↓gd_ff, ↓gd_tf, ↓gd_ft, h, hR]
  rcases Nat.eq_zero_or_pos i with h0 | h0
  · have hz : ¬ (0 : Int) < (i : Int) := by omega
    have hz2 : ¬ 0 < i := by omega
    simp -implicitDefEqProofs [↓gd_tt, ↓gd_ff, ↓gd_tf, ↓gd_ft, h, hz, hz2, wrap1 hl h]
    exact ⟨⟨by omega, fun j hj hj2 => by omega⟩, by omega⟩
  · have hm1 : i - 1 < l.length := by omega
    have hwm := wrapm1 hl h h0
    have hpos : (0 : Int) < (i : Int) := by omega
    simp -implicitDefEqProofs [↓gd_tt, ↓gd_ff, ↓gd_tf, ↓gd_ft, h, hm1, hwm, hpos, h0, wrap1 hl h]
    refine ⟨fun e hR => ?_, fun e => ⟨⟨by omega, fun j hj hji => ?_⟩, by omega⟩⟩
    · have := hR (i - 1) (by omega)
      have e2 : i - 1 + 1 = i := by omega
      simp only [e2] at this
      omega
    · by_cases e2 : j + 1 = i
      · subst e2; simpa using e
      · exact hx j hj (by omega)
noncomputable def rcheckV (l : List Q) (uses : List U) (want : List Int) (t : Int × Int) : V := if chooseE l uses want t = 0 then .tup [.d (encVs false (sumsL l uses)), .d (I 0)] else .tup [.nil 2, .d (I (chooseE l uses want t))]
theorem rcheck_spec (l : List Q) (uses : List U) (want : List Int) (t : Int × Int) (hl : l.length ≤ maxLen) (hu : uses.length ≤ maxLen) (hw : want.length ≤ maxLen) : PCall Try.prog 131 [encL b l, encUs c uses, encI d want, encV t] (rcheckV l uses want t) := by
  obtain ⟨x, y⟩ := t
  have hbad : ∀ e : Int, e ≠ 0 → chooseE l uses want (x, y) = e → rcheckV l uses want (x, y) = .tup [.nil 2, .d (I e)] := fun e he h => by unfold rcheckV; rw [h, if_neg he]
  refine pcallS (fn := Try.f131) [] [] mixed (bodyOf Try.f131) [.tmp 8, .tmp 9] Try.func131 rfl rfl (by decide) 57 rfl (by kernel_rfl) ?_
  simp -implicitDefEqProofs [↓gd_tt, ↓gd_ff, ↓gd_tf, ↓gd_ft, bodyOf, Try.f131, stripC, stripL, stripM, onsOf, upto, hintOf, freeOf, List.replicate]
  by_cases hs : sumsE l uses = 0
  case neg =>
    have hv : sumsV l uses = .tup [.nil 2, .d (I (sumsE l uses))] := by simp [sumsV, hs]
    refine callK_pcall (refSums_spec b c l uses hl hu) rfl (by rw [hv]; rfl) ?_
    rw [hv, hbad (sumsE l uses) hs (by simp [chooseE, hs])]
    simp -implicitDefEqProofs [↓gd_tt, ↓gd_ff, ↓gd_tf, ↓gd_ft, hs]
  have hv : sumsV l uses = .tup [.d (encVs false (sumsL l uses)), .d (I 0)] := by simp [sumsV, hs]
  have hE : chooseE l uses want (x, y) = marksE l want x y := by simp [chooseE, hs]
  obtain ⟨hc, hu0, ho⟩ := sumsE_zero.1 hs
  have h64 := check_len hc
  have hl2 : l.length * 56 ≤ reachBytes := by
    have : reachBytes = 140737488351232 := rfl
    omega
  refine callK_pcall (refSums_spec b c l uses hl hu) rfl (by rw [hv]; rfl) ?_
  rw [hv]
  simp -implicitDefEqProofs [↓gd_tt, ↓gd_ff, ↓gd_tf, ↓gd_ft]
  refine callK_pcall (good_spec x y) rfl rfl ?_
  by_cases hg : good x y = true
  case neg =>
    rw [hbad 1 (by decide) (by rw [hE]; simp [marksE, hg])]
    simp -implicitDefEqProofs [↓gd_tt, ↓gd_ff, ↓gd_tf, ↓gd_ft, hg]
  simp -implicitDefEqProofs [↓gd_tt, ↓gd_ff, ↓gd_tf, ↓gd_ft, hg]
  refine callK_pcall (rrises_spec d want hw) rfl rfl ?_
  by_cases hR : Rising want
  case neg =>
    rw [hbad 4 (by decide) (by rw [hE]; simp [marksE, hg, hR])]
    simp -implicitDefEqProofs [↓gd_tt, ↓gd_ff, ↓gd_tf, ↓gd_ft, hR]
  by_cases hn : want = []
  case pos =>
    rw [hbad 8 (by decide) (by rw [hE]; subst hn; simp [marksE, hg, Rising])]
    have hR0 : Rising ([] : List Int) := fun j h => by simp at h
    simp -implicitDefEqProofs [↓gd_tt, ↓gd_ff, ↓gd_tf, ↓gd_ft, hR, hn, hR0]
  have hE2 : chooseE l uses want (x, y) = wantsE l want := by rw [hE]; simp [marksE, hg, hR, hn]
  simp -implicitDefEqProofs [↓gd_tt, ↓gd_ff, ↓gd_tf, ↓gd_ft, hR, hn]
  refine loopA mixed [false, false, false, false, false, false, false, false, true, true, false, false, false, true, false, false, false, false, false, false, false, false, false, false, false, false, false, false, false, false, false, false, false, false, false, false, false, false, false, false, true, true, true, true, true, true, true, true, true] (fun (i : Nat) => [(40, .d (I i))]) (fun (i : Nat) => [.var [.d (I x), .d (I y)]]) (fun (i : Nat) => i ≤ want.length ∧ ∀ j (h : j < want.length), j < i → has l want[j] = true) (fun (i : Nat) => want.length - i) (0) (⟨Nat.zero_le _, fun j _ h => by omega⟩) (by simp) ?_
  rintro i hx
  obtain ⟨hi, hx⟩ := hx
  rcases Nat.lt_or_eq_of_le hi with h | h
  · simp -implicitDefEqProofs [↓gd_tt, ↓gd_ff, ↓gd_tf, ↓gd_ft, h]
    refine callK_pcall (has_spec b l want[i] hl) rfl rfl ?_
    by_cases h1 : has l want[i] = true
    case neg =>
      have hany : want.any (fun w => !has l w) = true := List.any_eq_true.2 ⟨want[i], List.getElem_mem h, by simpa using h1⟩
      rw [hbad 8 (by decide) (by rw [hE2]; unfold wantsE; rw [if_pos hany])]
      simp -implicitDefEqProofs [↓gd_tt, ↓gd_ff, ↓gd_tf, ↓gd_ft, h1]
    simp -implicitDefEqProofs [↓gd_tt, ↓gd_ff, ↓gd_tf, ↓gd_ft, h1, wrap1 hw h]
    refine ⟨⟨by omega, fun j hj hji => ?_⟩, by omega⟩
    by_cases e2 : j = i
    · subst e2; exact h1
    · exact hx j hj (by omega)
  have hhas : ∀ w ∈ want, has l w = true := fun w hwm => by
    obtain ⟨j, hj, rfl⟩ := List.getElem_of_mem hwm
    exact hx j hj (by omega)
  simp -implicitDefEqProofs [↓gd_tt, ↓gd_ff, ↓gd_tf, ↓gd_ft, h]
  refine loopA mixed [false, false, false, false, false, false, false, false, true, true, false, false, false, false, false, true, false, false, false, false, false, false, false, false, false, false, false, false, false, false, false, false, false, false, false, false, false, false, false, false, false, false, false, false, false, false, false, false, false, false, false, true, true, true, true, true, true, true, true, true] (fun (i : Nat) => [(51, .d (I i))]) (fun (i : Nat) => [.var [.d (I x), .d (I y)]]) (fun (i : Nat) => i ≤ want.length ∧ ∀ j (h : j < want.length), j < i → sonIds l want[j] = []) (fun (i : Nat) => want.length - i) (0) (⟨Nat.zero_le _, fun j _ h => by omega⟩) (by simp) ?_
  rintro i hx
  obtain ⟨hi, hx⟩ := hx
  rcases Nat.lt_or_eq_of_le hi with h | h
  · simp -implicitDefEqProofs [↓gd_tt, ↓gd_ff, ↓gd_tf, ↓gd_ft, h]
    refine callK_pcall (rleaf_spec b l want[i] hl hl2) rfl rfl ?_
    have h0 := hhas _ (List.getElem_mem h)
    by_cases h1 : sonIds l want[i] = []
    case neg =>
      have hno : ¬ want.any (fun w => !has l w) = true := fun e => by
        obtain ⟨w, hwm, e⟩ := List.any_eq_true.1 e
        rw [hhas w hwm] at e; cases e
      have hany : want.any (fun w => !decide (sonIds l w = [])) = true := List.any_eq_true.2 ⟨want[i], List.getElem_mem h, by simpa using h1⟩
      rw [hbad 14 (by decide) (by rw [hE2]; unfold wantsE; rw [if_neg hno, if_pos hany])]
      simp -implicitDefEqProofs [↓gd_tt, ↓gd_ff, ↓gd_tf, ↓gd_ft, h0, h1]
    simp -implicitDefEqProofs [↓gd_tt, ↓gd_ff, ↓gd_tf, ↓gd_ft, h0, h1, wrap1 hw h]
    refine ⟨⟨by omega, fun j hj hji => ?_⟩, by omega⟩
    by_cases e2 : j = i
    · subst e2; exact h1
    · exact hx j hj (by omega)
  have hlf : ∀ w ∈ want, sonIds l w = [] := fun w hwm => by
    obtain ⟨j, hj, rfl⟩ := List.getElem_of_mem hwm
    exact hx j hj (by omega)
  have hok : rcheckV l uses want (x, y) = .tup [.d (encVs false (sumsL l uses)), .d (I 0)] := by
    unfold rcheckV
    rw [if_pos (by rw [hE2]; exact wants_zero.2 ⟨hhas, hlf⟩)]
  rw [hok]
  simp -implicitDefEqProofs [↓gd_tt, ↓gd_ff, ↓gd_tf, ↓gd_ft, h]
theorem rwanted_spec (l : List Q) (want : List Int) (id : Int) (hc : check l = 0) (hw : want.length ≤ maxLen) (hh : ∀ w ∈ want, has l w = true) : PCall Try.prog 191 [encL b l, encI c want, I id] (.d (.bool (decide (cntI l want id ≠ 0)))) := by
  refine pcallS (fn := Try.f191) [] [] mixed (bodyOf Try.f191) [.tmp 6] Try.func191 rfl rfl (by decide) 17 rfl (by kernel_rfl) ?_
  simp -implicitDefEqProofs [↓gd_tt, ↓gd_ff, ↓gd_tf, ↓gd_ft, bodyOf, Try.f191, stripC, stripL, stripM, onsOf, upto, hintOf, freeOf, List.replicate]
  refine loopA mixed [false, false, false, false, false, false, true, false, true, false, false, true, true, true, true, true, true, true, true, true] (fun (i : Nat) => [(11, .d (I i))]) (fun (i : Nat) => []) (fun (i : Nat) => i ≤ want.length ∧ ∀ j (h : j < want.length), j < i → id ∉ path l want[j]) (fun (i : Nat) => want.length - i) (0) (⟨Nat.zero_le _, fun j _ h => by omega⟩) (by simp) ?_
  rintro i hx
  obtain ⟨hi, hx⟩ := hx
  rcases Nat.lt_or_eq_of_le hi with h | h
  · simp -implicitDefEqProofs [↓gd_tt, ↓gd_ff, ↓gd_tf, ↓gd_ft, h]
    refine callK_pcall (under_spec b l want[i] id hc (hh _ (List.getElem_mem h))) rfl rfl ?_
    by_cases h1 : id ∈ path l want[i]
    · have : cntI l want id ≠ 0 := cntI_pos.2 ⟨_, List.getElem_mem h, h1⟩
      simp -implicitDefEqProofs [↓gd_tt, ↓gd_ff, ↓gd_tf, ↓gd_ft, h1, this]
    · simp -implicitDefEqProofs [↓gd_tt, ↓gd_ff, ↓gd_tf, ↓gd_ft, h1, wrap1 hw h]
      refine ⟨⟨by omega, fun j hj hji => ?_⟩, by omega⟩
      by_cases e2 : j = i
      · subst e2; exact h1
      · exact hx j hj (by omega)
  · have : cntI l want id = 0 := Classical.byContradiction fun hne => by
      obtain ⟨w, hwm, hp⟩ := cntI_pos.1 hne
      obtain ⟨j, hj, rfl⟩ := List.getElem_of_mem hwm
      exact hx j hj (by omega) hp
    simp -implicitDefEqProofs [↓gd_tt, ↓gd_ff, ↓gd_tf, ↓gd_ft, h, this]
/-- where the way down ends -/
theorem best_end {l : List Q} {sums : List (Int × Int)} {t : Int × Int} {want : List Int} (hf : form l = true) (hlf : ∀ w ∈ want, sonIds l w = []) {a : Nat} (ha : a < l.length) (hm : cntI l want l[a].Id ≠ 0) : bestZ l sums (cnts l want) t a < 0 ↔ sonIds l l[a].Id = [] := by
  have hga : l.getD a q0 = l[a] := by simp [ha]
  unfold bestZ
  rw [hga]
  constructor
  · intro hb
    obtain ⟨w, hw, hwp⟩ := cntI_pos.1 hm
    by_cases e : l[a].Id = w
    · rw [e]; exact hlf w hw
    · exfalso
      obtain ⟨s, hs, h1, h2, _⟩ := way_son hf ha hwp e
      have hc : (cnts l want).getD s 0 ≠ 0 := by rw [cnts_get hs]; exact cntI_pos.2 ⟨w, hw, h2⟩
      have hin := sonsF_has l[a].Id l 0 s hs h1
      obtain ⟨q, hq, e2, _⟩ := bestF_some (l := l) (sums := sums) (t := t) (cnt := cnts l want) (sons l l[a].Id) ⟨_, hin, by simpa using hc⟩
      rw [e2] at hb
      omega
  · intro hn
    rcases bestF_in (l := l) (sums := sums) (t := t) (cnt := cnts l want) (sons l l[a].Id) (-1) with h | ⟨q, hq, _⟩
    · rw [h]; decide
    · exfalso
      obtain ⟨h1, h2, h3⟩ := sons_at hq
      have : l[q.1].Id ∈ sonIds l l[a].Id := by
        unfold sonIds
        exact List.mem_map.2 ⟨l[q.1], List.mem_filter.2 ⟨List.getElem_mem h1, by rw [← h2]; simpa using h3⟩, rfl⟩
      rw [hn] at this; cases this
theorem rpick_spec (l : List Q) (uses : List U) (want : List Int) (t : Int × Int) (hw : want.length ≤ maxLen) (hc : check l = 0) (ho : overs l uses = false) (hgd : good t.1 t.2 = true) (hne : want ≠ []) (hh : ∀ w ∈ want, has l w = true) (hlf : ∀ w ∈ want, sonIds l w = []) :
    PCall Try.prog 132 [encL b l, encVs c (sumsL l uses), encI d want, encV t] (.d (I (pickAt l (sumsL l uses) t (cnts l want)))) := by
  obtain ⟨x, y⟩ := t
  have hf := check_form hc
  have hr := check_rises hc
  have h64 := check_len hc
  have hl := max64 h64.2
  have hl2 : l.length * 56 ≤ reachBytes := by
    have : reachBytes = 140737488351232 := rfl
    omega
  have h0 := form_pos hf
  have hroot := form_root hf h0
  have hcnt0 : cntI l want l[0].Id ≠ 0 := by
    obtain ⟨w, r, rfl⟩ := List.exists_cons_of_ne_nil hne
    exact cntI_pos.2 ⟨w, by simp, by rw [hroot.1]; exact root_mem hf (hh w (by simp))⟩
  have hsl : (sumsL l uses).length = l.length := by simp [sumsL]
  refine pcallS (fn := Try.f132) [] [] mixed (bodyOf Try.f132) [.tmp 8] Try.func132 rfl rfl (by decide) 58 rfl (by kernel_rfl) ?_
  simp -implicitDefEqProofs [↓gd_tt, ↓gd_ff, ↓gd_tf, ↓gd_ft, bodyOf, Try.f132, stripC, stripL, stripM, onsOf, upto, hintOf, freeOf, List.replicate]
  refine loopA mixed [false, false, false, false, false, false, false, false, false, true, true, false, true, true, true, true, true, true, true, true, true, true, true, true, true, true, true, true, true, true, true, true, true, true, true, true, true, true, true, true, true, true, true, true, true, true, true, true, true, true, true, true, true, true, true, true, true, true, true, true, true] (fun (z : Int) => [(9, .d (I z))]) (fun (z : Int) => [.var [.d (I x), .d (I y)]]) (fun (z : Int) => ∃ a n, ∃ ha : a < l.length, l[a].Id = z ∧ cntI l want l[a].Id ≠ 0 ∧ l.length - n ≤ a ∧ pickF l (sumsL l uses) (cnts l want) (x, y) n a = pickN l (sumsL l uses) (cnts l want) (x, y)) (fun (z : Int) => l.length - pos l z) (0) (⟨0, l.length, h0, hroot.1, hcnt0, by omega, rfl⟩) (by simp) ?_
  rintro z hx
  obtain ⟨a, n, ha, rfl, hca, hna, hpk⟩ := hx
  obtain ⟨n, rfl⟩ : ∃ k, n = k + 1 := ⟨n - 1, by omega⟩
  have hpos := pos_at hr ha
  have hga : l.getD a q0 = l[a] := by simp [ha]
  have hha := has_at ha
  have hend := best_end (sums := sumsL l uses) (t := (x, y)) hf hlf ha hca
  simp -implicitDefEqProofs [↓gd_tt, ↓gd_ff, ↓gd_tf, ↓gd_ft]
  refine callK_pcall (rleaf_spec b l l[a].Id hl hl2) rfl rfl ?_
  by_cases hs : sonIds l l[a].Id = []
  case pos =>
    simp -implicitDefEqProofs [↓gd_tt, ↓gd_ff, ↓gd_tf, ↓gd_ft, hha, hs]
    rw [pickF, if_pos (hend.2 hs)] at hpk
    unfold pickAt
    rw [← hpk, hga]
  have hb0 : ¬ bestZ l (sumsL l uses) (cnts l want) (x, y) a < 0 := fun e => hs (hend.1 e)
  rw [pickF, if_neg hb0] at hpk
  simp -implicitDefEqProofs [↓gd_tt, ↓gd_ff, ↓gd_tf, ↓gd_ft, hha, hs]
  refine loopA mixed [false, false, false, false, false, false, false, false, false, false, true, false, true, false, false, false, false, false, false, true, true, true, true, true, true, true, true, true, true, true, true, true, true, true, true, true, true, true, true, true, true, true, true, true, true, true, true, true, true, true, true, true, true, true, true, true, true, true, true, true] (fun (p : Nat × Int) => [(19, .d (I p.1)), (10, .d (I p.2))]) (fun (p : Nat × Int) => [.var [.d (I x), .d (I y)]]) (fun (p : Nat × Int) => p.1 ≤ l.length ∧ ∃ bz : Int, ((bz = -1 ∧ p.2 = -1) ∨ ∃ j : Nat, bz = j ∧ ∃ hj : j < l.length, p.2 = l[j].Id ∧ l[j].Par = l[a].Id ∧ ¬ cntI l want l[j].Id = 0) ∧ bestF l (sumsL l uses) (cnts l want) (x, y) (sonsF l[a].Id (l.drop p.1) p.1) bz = bestZ l (sumsL l uses) (cnts l want) (x, y) a) (fun (p : Nat × Int) => l.length - p.1) ((0, -1)) (⟨Nat.zero_le _, -1, .inl ⟨rfl, rfl⟩, by unfold bestZ; rw [hga]; rfl⟩) (by simp) ?_
  rintro p hx
  obtain ⟨k, e⟩ := p
  obtain ⟨hk, bz, hbz, hbf⟩ := hx
  simp only at hk hbz hbf
  rcases Nat.lt_or_eq_of_le hk with hk | hk
  case inr =>
    rw [hk, List.drop_length] at hbf
    simp only [sonsF, bestF] at hbf
    rcases hbz with ⟨k1, k2⟩ | ⟨j, k1, hj, k2, k3, k4⟩
    · rw [← hbf, k1] at hb0; exact absurd (by decide) hb0
    · have haj := par_above hf hj ha k3
      have hjn : (bestZ l (sumsL l uses) (cnts l want) (x, y) a).toNat = j := by omega
      rw [hjn] at hpk
      simp -implicitDefEqProofs [↓gd_tt, ↓gd_ff, ↓gd_tf, ↓gd_ft, hk]
      refine ⟨⟨j, n, hj, k2.symm, k4, by omega, hpk⟩, ?_⟩
      rw [k2, pos_at hr hj, hpos]; omega
  rw [List.drop_eq_getElem_cons hk, sonsF] at hbf
  by_cases c1 : l[k].Par = l[a].Id
  case neg =>
    rw [if_neg c1] at hbf
    simp -implicitDefEqProofs [↓gd_tt, ↓gd_ff, ↓gd_tf, ↓gd_ft, hk, c1, wrap1 hl hk]
    exact ⟨k + 1, _, ⟨by omega, bz, hbz, hbf⟩, by omega, rfl, rfl⟩
  rw [if_pos c1, bestF] at hbf
  simp only [cnts_get hk] at hbf
  simp -implicitDefEqProofs [↓gd_tt, ↓gd_ff, ↓gd_tf, ↓gd_ft, hk, c1]
  refine callK_pcall (rwanted_spec b d l want l[k].Id hc hw hh) rfl rfl ?_
  by_cases c2 : cntI l want l[k].Id = 0
  case pos =>
    rw [if_pos c2] at hbf
    simp -implicitDefEqProofs [↓gd_tt, ↓gd_ff, ↓gd_tf, ↓gd_ft, hk, c1, c2, wrap1 hl hk]
    exact ⟨k + 1, _, ⟨by omega, bz, hbz, hbf⟩, by omega, rfl, rfl⟩
  rw [if_neg c2] at hbf
  rcases hbz with ⟨rfl, rfl⟩ | ⟨j, rfl, hj, rfl, k3, k4⟩
  · rw [if_pos (.inl (by decide))] at hbf
    simp -implicitDefEqProofs [↓gd_tt, ↓gd_ff, ↓gd_tf, ↓gd_ft, hk, c1, c2, wrap1 hl hk]
    exact ⟨k + 1, _, ⟨by omega, k, .inr ⟨k, rfl, hk, rfl, c1, c2⟩, hbf⟩, by omega, rfl, rfl⟩
  have hneg : ¬ l[j].Id < 0 := by have := id_nonneg hf hj; omega
  have s1 := rsum_spec b c l (sumsL l uses) l[k].Id hl hr (has_at hk) hsl (by rw [pos_at hr hk]; omega)
  have s2 := rsum_spec b c l (sumsL l uses) l[j].Id hl hr (has_at hj) hsl (by rw [pos_at hr hj]; omega)
  have s3 := find_spec b l l[j].Id hl
  have v1 : (sumsL l uses)[pos l l[k].Id]'(by rw [pos_at hr hk]; omega) = tot l uses l[k].Id := by simp [sumsL, pos_at hr hk]
  have v2 : (sumsL l uses)[pos l l[j].Id]'(by rw [pos_at hr hj]; omega) = tot l uses l[j].Id := by simp [sumsL, pos_at hr hj]
  rw [v1] at s1
  rw [v2] at s2
  rw [find_at hr hj] at s3
  have e4 : (sumsL l uses).getD ((j : Int)).toNat (0, 0) = tot l uses l[j].Id := by simp [sumsL, hj]
  have e5 : l.getD ((j : Int)).toNat q0 = l[j] := by simp [hj]
  rw [e4, e5, sumsL_get hk] at hbf
  have hn0 : ¬ ((j : Int) < 0) := by omega
  simp only [hn0, false_or] at hbf
  have s4 := rless2_spec (tot l uses l[k].Id) (tot l uses l[j].Id) (x, y) l[k].Wt l[j].Wt (tot_good ho hk) (tot_good ho hj) hgd (check_wt hc hk) (check_wt hc hj)
  simp -implicitDefEqProofs [↓gd_tt, ↓gd_ff, ↓gd_tf, ↓gd_ft, hk, c1, c2, hneg]
  refine free_pcall s1 rfl rfl ?_
  simp -implicitDefEqProofs [↓gd_tt, ↓gd_ff, ↓gd_tf, ↓gd_ft, hk, c1, c2, hneg]
  refine free_pcall s2 rfl rfl ?_
  simp -implicitDefEqProofs [↓gd_tt, ↓gd_ff, ↓gd_tf, ↓gd_ft, hk, c1, c2, hneg]
  refine free_pcall s3 rfl rfl ?_
  simp -implicitDefEqProofs [↓gd_tt, ↓gd_ff, ↓gd_tf, ↓gd_ft, hk, c1, c2, hneg]
  refine free_pcall s4 rfl rfl ?_
  by_cases c3 : ordZ (tot l uses l[k].Id) l[k].Wt (tot l uses l[j].Id) l[j].Wt (x, y) < 0
  · rw [if_pos c3] at hbf
    simp -implicitDefEqProofs [↓gd_tt, ↓gd_ff, ↓gd_tf, ↓gd_ft, hk, c1, c2, hneg, c3, wrap1 hl hk]
    exact ⟨k + 1, _, ⟨by omega, k, .inr ⟨k, rfl, hk, rfl, c1, c2⟩, hbf⟩, by omega, rfl, rfl⟩
  · rw [if_neg c3] at hbf
    simp -implicitDefEqProofs [↓gd_tt, ↓gd_ff, ↓gd_tf, ↓gd_ft, hk, c1, c2, hneg, c3, wrap1 hl hk]
    exact ⟨k + 1, _, ⟨by omega, j, .inr ⟨j, rfl, hj, rfl, k3, k4⟩, hbf⟩, by omega, rfl, rfl⟩
theorem rchoose_spec (l : List Q) (uses : List U) (want : List Int) (t : Int × Int) (hl : l.length ≤ maxLen) (hu : uses.length ≤ maxLen) (hw : want.length ≤ maxLen) : PCall Try.prog 55 [encL b l, encUs c uses, encI d want, encV t] (chooseV l uses want t) := by
  obtain ⟨x, y⟩ := t
  refine pcallS (fn := Try.f55) [] [] mixed (bodyOf Try.f55) [.tmp 8, .tmp 9] Try.func55 rfl rfl (by decide) 25 rfl (by kernel_rfl) ?_
  simp -implicitDefEqProofs [↓gd_tt, ↓gd_ff, ↓gd_tf, ↓gd_ft, bodyOf, Try.f55, stripC, stripL, stripM, onsOf, upto, hintOf, freeOf, List.replicate]
  by_cases hE : chooseE l uses want (x, y) = 0
  case neg =>
    have hv : rcheckV l uses want (x, y) = .tup [.nil 2, .d (I (chooseE l uses want (x, y)))] := by unfold rcheckV; rw [if_neg hE]
    have hcv : chooseV l uses want (x, y) = .tup [.d (I 0), .d (I (chooseE l uses want (x, y)))] := by unfold chooseV; rw [if_neg hE]
    refine callK_pcall (rcheck_spec b c d l uses want (x, y) hl hu hw) rfl (by rw [hv]; rfl) ?_
    rw [hv, hcv]
    simp -implicitDefEqProofs [↓gd_tt, ↓gd_ff, ↓gd_tf, ↓gd_ft, hE]
  have hv : rcheckV l uses want (x, y) = .tup [.d (encVs false (sumsL l uses)), .d (I 0)] := by unfold rcheckV; rw [if_pos hE]
  have hcv : chooseV l uses want (x, y) = .tup [.d (I (pickAt l (sumsL l uses) (x, y) (cnts l want))), .d (I 0)] := by unfold chooseV; rw [if_pos hE]; rfl
  have hs : sumsE l uses = 0 := by
    rcases Decidable.em (sumsE l uses = 0) with h | h
    · exact h
    · simp [chooseE, h] at hE
  have hM : marksE l want x y = 0 := by simpa [chooseE, hs] using hE
  obtain ⟨hgd, hR, hne, hWz⟩ := marks_zero.1 hM
  obtain ⟨hh, hlf⟩ := wants_zero.1 hWz
  obtain ⟨hc, hu0, ho⟩ := sumsE_zero.1 hs
  refine callK_pcall (rcheck_spec b c d l uses want (x, y) hl hu hw) rfl (by rw [hv]; rfl) ?_
  rw [hv, hcv]
  simp -implicitDefEqProofs [↓gd_tt, ↓gd_ff, ↓gd_tf, ↓gd_ft]
  refine callK_pcall (rpick_spec b false d l uses want (x, y) hw hc ho hgd hne hh hlf) rfl rfl ?_
  simp -implicitDefEqProofs [↓gd_tt, ↓gd_ff, ↓gd_tf, ↓gd_ft]
end Go.Idl
