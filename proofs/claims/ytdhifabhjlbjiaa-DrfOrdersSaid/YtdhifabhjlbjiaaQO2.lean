/- The document's answer for turns: the order of all. -/
import Derived.Test.YtdhifabhjlbjiaaQO
import Derived.Test.YtdhifabhjlbjiaaMD3
set_option linter.all false
namespace Go.Idl
open Go.Proofs
set_option linter.unusedSimpArgs false
set_option linter.unusedVariables false
set_option maxRecDepth 8000
set_option maxHeartbeats 2000000
variable (b c d : Bool)

theorem take_others {l : List Int} {k : Nat} (h : k < l.length) (b : Int) : (l.take (k + 1)).filter (fun w => decide (w ≠ b)) = (l.take k).filter (fun w => decide (w ≠ b)) ++ (if l[k] = b then [] else [l[k]]) := by
  rw [List.take_add_one, List.getElem?_eq_getElem h, Option.toList_some, List.filter_append]
  split
  · rename_i e; simp [e]
  · rename_i e; simp [e]
theorem rorder_spec (l : List Q) (uses : List U) (want : List Int) (t : Int × Int) (hl : l.length ≤ maxLen) (hu : uses.length ≤ maxLen) (hw : want.length ≤ maxLen) (hw2 : want.length * 8 ≤ reachBytes) : PCall Try.prog 57 [encL b l, encUs c uses, encI d want, encV t] (orderV l uses want t) := by
  obtain ⟨x, y⟩ := t
  have hrb : reachBytes = 140737488351232 := rfl
  refine pcallS (fn := Try.f57) [] [] mixed (bodyOf Try.f57) [.tmp 8, .tmp 9] Try.func57 rfl rfl (by decide) 57 rfl (by kernel_rfl) ?_
  simp -implicitDefEqProofs [↓gd_tt, ↓gd_ff, ↓gd_tf, ↓gd_ft, bodyOf, Try.f57, stripC, stripL, stripM, onsOf, upto, hintOf, freeOf, List.replicate]
  by_cases hE : chooseE l uses want (x, y) = 0
  case neg =>
    have hv : rcheckV l uses want (x, y) = .tup [.nil 2, .d (I (chooseE l uses want (x, y)))] := by unfold rcheckV; rw [if_neg hE]
    have hcv : orderV l uses want (x, y) = .tup [.nil 1, .d (I (chooseE l uses want (x, y)))] := by unfold orderV; rw [if_neg hE]
    refine callK_pcall (rcheck_spec b c d l uses want (x, y) hl hu hw) rfl (by rw [hv]; rfl) ?_
    rw [hv, hcv]
    simp -implicitDefEqProofs [↓gd_tt, ↓gd_ff, ↓gd_tf, ↓gd_ft, hE]
  have hv : rcheckV l uses want (x, y) = .tup [.d (encVs false (sumsL l uses)), .d (I 0)] := by unfold rcheckV; rw [if_pos hE]
  have hcv : orderV l uses want (x, y) = .tup [.d (encI false (turns l (sumsL l uses) (x, y) want.length (cnts l want)).1), .d (I 0)] := by unfold orderV; rw [if_pos hE]
  have hs : sumsE l uses = 0 := by
    rcases Decidable.em (sumsE l uses = 0) with h | h
    · exact h
    · simp [chooseE, h] at hE
  have hM : marksE l want x y = 0 := by simpa [chooseE, hs] using hE
  obtain ⟨hgd, hR, hne, hWz⟩ := marks_zero.1 hM
  obtain ⟨hh, hlf⟩ := wants_zero.1 hWz
  obtain ⟨hc, hu0, ho⟩ := sumsE_zero.1 hs
  have hf := check_form hc
  have h8 : want.length * 8 ≤ 140737488355328 := by omega
  refine callK_pcall (rcheck_spec b c d l uses want (x, y) hl hu hw) rfl (by rw [hv]; rfl) ?_
  rw [hv, hcv]
  simp -implicitDefEqProofs [↓gd_tt, ↓gd_ff, ↓gd_tf, ↓gd_ft, h8]
  refine loopA mixed [false, false, false, false, false, false, false, false, false, false, false, false, true, true, true, true, false, true, false, false, false, false, false, false, false, false, false, false, false, false, false, false, true, true, true, true, true, true, true, true, true, true, true, true, true, true, true, true, true, true, true, true, true, true, true, true, true, true, true] (fun (p : List Int × List Int) => [(12, .own 1 (p.1.map I)), (13, .own 1 (p.2.map I))]) (fun (p : List Int × List Int) => [.var [.d (I x), .d (I y)]]) (fun (p : List Int × List Int) => p.1.length + p.2.length = want.length ∧ Rising p.2 ∧ (∀ w ∈ p.2, w ∈ want) ∧ p.1 ++ (turns l (sumsL l uses) (x, y) p.2.length (cnts l p.2)).1 = (turns l (sumsL l uses) (x, y) want.length (cnts l want)).1) (fun (p : List Int × List Int) => p.2.length) (([], want)) (⟨by simp, hR, fun w h => h, by simp⟩) (by simp) ?_
  rintro p hx
  obtain ⟨out, left⟩ := p
  obtain ⟨h1, h2, h3, h4⟩ := hx
  simp only at h1 h2 h3 h4
  by_cases hn : left = []
  case pos =>
    subst hn
    simp only [List.length_nil, turns, List.append_nil] at h4
    simp -implicitDefEqProofs [↓gd_tt, ↓gd_ff, ↓gd_tf, ↓gd_ft, h4]
  have hp0 : 0 < left.length := List.length_pos_iff.2 hn
  have hp1 : (0 : Int) < (left.length : Int) := by omega
  have hll : left.length ≤ maxLen := by omega
  have hto := turns_others (sums := sumsL l uses) (t := (x, y)) hf h2 hll hn (fun w hw' => hh w (h3 w hw'))
  have hm := pickAt_in (sums := sumsL l uses) (t := (x, y)) hf hn (fun w hw' => hh w (h3 w hw'))
  have hps := rpick_spec b false false l uses left (x, y) hll hc ho hgd hn (fun w hw' => hh w (h3 w hw')) (fun w hw' => hlf w (h3 w hw'))
  rw [hto] at h4
  generalize pickAt l (sumsL l uses) (x, y) (cnts l left) = bb at *
  have ho8 : (out.length + 1) * 8 ≤ 140737488355328 := by omega
  simp -implicitDefEqProofs [↓gd_tt, ↓gd_ff, ↓gd_tf, ↓gd_ft, hp1, hp0, hn]
  refine callK_pcall hps rfl rfl ?_
  simp -implicitDefEqProofs [↓gd_tt, ↓gd_ff, ↓gd_tf, ↓gd_ft, hp1, hp0, hn, ho8]
  refine loopA mixed [false, false, false, false, false, false, false, false, false, false, false, false, false, false, false, true, false, true, false, false, false, false, false, false, false, false, false, false, false, false, false, false, false, false, false, false, false, false, false, false, false, false, false, false, false, false, true, true, true, true, true, true, true, true, true, true, true, true] (fun (q : Nat × List Int) => [(46, .d (I q.1)), (15, .own 1 (q.2.map I))]) (fun (q : Nat × List Int) => [.var [.d (I x), .d (I y)]]) (fun (q : Nat × List Int) => q.1 ≤ left.length ∧ q.2 = (left.take q.1).filter (fun w => decide (w ≠ bb))) (fun (q : Nat × List Int) => left.length - q.1) ((0, [])) (⟨Nat.zero_le _, by simp⟩) (by simp) ?_
  rintro q hx
  obtain ⟨k, m⟩ := q
  obtain ⟨hk, hm2⟩ := hx
  simp only at hk hm2
  rcases Nat.lt_or_eq_of_le hk with hk | hk
  case inr =>
    rw [hk, List.take_length] at hm2
    have hmo : m = others left bb := hm2
    simp -implicitDefEqProofs [↓gd_tt, ↓gd_ff, ↓gd_tf, ↓gd_ft, hk]
    have hol := others_len (rising_nodup h2) hm
    refine ⟨out ++ [bb], m, ⟨?_, ?_, ?_, ?_⟩, ?_, by simp, rfl⟩
    · rw [hmo]; simp; omega
    · rw [hmo]; exact rising_others h2
    · intro w hwm
      rw [hmo] at hwm
      exact h3 w (List.mem_filter.1 hwm).1
    · rw [hmo, ← h4]; simp
    · rw [hmo]; omega
  have hml : m.length ≤ k := by
    rw [hm2]
    exact Nat.le_trans (List.length_filter_le _ _) (by simp; omega)
  have hm8 : (m.length + 1) * 8 ≤ 140737488355328 := by omega
  by_cases c1 : left[k] = bb
  · simp -implicitDefEqProofs [↓gd_tt, ↓gd_ff, ↓gd_tf, ↓gd_ft, hk, c1, wrap1 hll hk]
    exact ⟨k + 1, _, ⟨by omega, by have := take_others hk bb; rw [if_pos c1, List.append_nil, ← hm2] at this; simpa using this.symm⟩, by omega, rfl, rfl⟩
  · simp -implicitDefEqProofs [↓gd_tt, ↓gd_ff, ↓gd_tf, ↓gd_ft, hk, c1, wrap1 hll hk, hm8]
    exact ⟨k + 1, m ++ [left[k]], ⟨by omega, by have := take_others hk bb; rw [if_neg c1, ← hm2] at this; simpa using this.symm⟩, by omega, by simp, rfl⟩
end Go.Idl
