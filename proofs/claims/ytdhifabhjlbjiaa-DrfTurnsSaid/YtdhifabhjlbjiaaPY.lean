/- The statement DrfTurns: what it computes. -/
import Derived.Test.YtdhifabhjlbjiaaPW
import Derived.Test.YtdhifabhjlbjiaaMD3
import Derived.Test.YtdhifabhjlbjiaaQJ
import Derived.Test.YtdhifabhjlbjiaaQD
set_option linter.all false
namespace Go.Idl
open Go.Proofs
set_option linter.unusedSimpArgs false
set_option linter.unusedVariables false
set_option maxRecDepth 8000
set_option maxHeartbeats 4000000

theorem others_succ {want : List Int} {w : Int} {i : Nat} (h : i < want.length) : others (want.take (i + 1)) w = others (want.take i) w ++ (if want[i] = w then [] else [want[i]]) := by
  unfold others
  rw [List.take_add_one, List.getElem?_eq_getElem h, Option.toList_some, List.filter_append]
  congr 1
  by_cases e : want[i] = w <;> simp [e]
theorem others_le (want : List Int) (w : Int) : (others want w).length ≤ want.length := List.length_filter_le _ _
theorem turns_spec (l : List Q) (uses : List U) (want : List Int) (t : Int × Int) (hl : l.length ≤ maxLen) (hr : l.length * 56 ≤ reachBytes) (hu : uses.length ≤ maxLen) (hur : uses.length * 24 ≤ reachBytes) (hw : want.length ≤ maxLen) (hw2 : want.length * 8 ≤ reachBytes) : PCall Try.prog 12 [encL false l, encUs false uses, encI false want, encV t] (.d (.bool true)) := by
  obtain ⟨x, y⟩ := t
  have hrb : reachBytes = 140737488351232 := rfl
  refine pcallS (fn := Try.f12) [] [] mixed (bodyOf Try.f12) [.tmp 8] Try.func12 rfl rfl (by decide) 105 rfl (by kernel_rfl) ?_
  simp -implicitDefEqProofs [↓gd_tt, ↓gd_ff, ↓gd_tf, ↓gd_ft, bodyOf, Try.f12, stripC, stripL, stripM, onsOf, upto, hintOf, freeOf, List.replicate]
  refine callK_pcall awake6_spec rfl rfl ?_
  simp -implicitDefEqProofs [↓gd_tt, ↓gd_ff, ↓gd_tf, ↓gd_ft]
  by_cases hE : chooseE l uses want (x, y) = 0
  case neg =>
    have hov : orderV l uses want (x, y) = .tup [.nil 1, .d (I (chooseE l uses want (x, y)))] := by unfold orderV; rw [if_neg hE]
    have hcv : chooseV l uses want (x, y) = .tup [.d (I 0), .d (I (chooseE l uses want (x, y)))] := by unfold chooseV; rw [if_neg hE]
    refine callK_pcall (dorder_spec false false false l uses want (x, y) hl hu hw hw2) rfl (by rw [hov]; rfl) ?_
    rw [hov]
    simp -implicitDefEqProofs [↓gd_tt, ↓gd_ff, ↓gd_tf, ↓gd_ft]
    refine callK_pcall (choose_spec false false false l uses want (x, y) hl hu hw) rfl (by rw [hcv]; rfl) ?_
    rw [hcv]
    simp -implicitDefEqProofs [↓gd_tt, ↓gd_ff, ↓gd_tf, ↓gd_ft, hE]
  have hs : sumsE l uses = 0 := by
    rcases Decidable.em (sumsE l uses = 0) with h | h
    · exact h
    · simp [chooseE, h] at hE
  have hM : marksE l want x y = 0 := by simpa [chooseE, hs] using hE
  obtain ⟨hgd, hR, hne, hWz⟩ := marks_zero.1 hM
  obtain ⟨hh, hlf⟩ := wants_zero.1 hWz
  obtain ⟨hc, hu0, ho⟩ := sumsE_zero.1 hs
  have hf := check_form hc
  obtain ⟨bb, hbb⟩ : ∃ bb, bb = pickAt l (sumsL l uses) (x, y) (cnts l want) := ⟨_, rfl⟩
  have hto := turns_others (sums := sumsL l uses) (t := (x, y)) hf hR hw hne hh
  have hall := turns_all (sums := sumsL l uses) (t := (x, y)) hf want.length want rfl hR hw hh
  have htl := (turns_len l (sumsL l uses) (x, y) (cnts l want) want.length).1
  have hbm : bb ∈ want := by rw [hbb]; exact pickAt_in hf hne hh
  have hol := others_len (rising_nodup hR) hbm
  have hcv : chooseV l uses want (x, y) = .tup [.d (I bb), .d (I 0)] := by unfold chooseV; rw [if_pos hE, hbb]; rfl
  obtain ⟨R, hRR⟩ : ∃ R, R = (turns l (sumsL l uses) (x, y) (others want bb).length (cnts l (others want bb))).1 := ⟨_, rfl⟩
  rw [← hbb, ← hRR] at hto
  rw [hto] at hall htl
  have hov : orderV l uses want (x, y) = .tup [.d (encI false (bb :: R)), .d (I 0)] := by unfold orderV; rw [if_pos hE, hto]
  have hRl : R.length + 1 = want.length := by simpa using htl
  refine callK_pcall (dorder_spec false false false l uses want (x, y) hl hu hw hw2) rfl (by rw [hov]; rfl) ?_
  rw [hov]
  simp -implicitDefEqProofs [↓gd_tt, ↓gd_ff, ↓gd_tf, ↓gd_ft]
  refine callK_pcall (choose_spec false false false l uses want (x, y) hl hu hw) rfl (by rw [hcv]; rfl) ?_
  rw [hcv]
  have hRl2 : ((R.length : Int) + 1) = (want.length : Int) := by omega
  have hpos : 0 < want.length := by omega
  have hw0 : ¬ (want.length : Int) = 0 := by omega
  simp -implicitDefEqProofs [↓gd_tt, ↓gd_ff, ↓gd_tf, ↓gd_ft, hRl, hRl2, hne, hpos, hw0]
  refine loopA mixed [false, false, false, false, false, false, false, false, true, false, false, false, false, true, false, true, false, false, false, false, false, false, false, false, false, false, false, false, false, false, false, false, false, false, false, false, false, false, false, false, false, false, false, false, false, false, false, false, false, false, false, false, false, false, false, false, false, false, false, false, false, false, false, false, false, false, false, false, false, false, false, false, false, false, true, true, true, true, true, true, true, true, true, true, true, true, true, true, true, true] (fun (i : Nat) => [(13, .own 1 ((others (want.take i) bb).map I)), (74, .d (I i))]) (fun (i : Nat) => [.var [.d (I x), .d (I y)]]) (fun (i : Nat) => i ≤ want.length) (fun (i : Nat) => want.length - i) (0) (Nat.zero_le _) (by simp [others]) ?_
  rintro i hx
  rcases Nat.lt_or_eq_of_le hx with h | h
  · have hin := hall want[i] (List.getElem_mem h)
    have hsu := others_succ (w := bb) h
    have hle := others_le (want.take i) bb
    simp at hle
    simp -implicitDefEqProofs [↓gd_tt, ↓gd_ff, ↓gd_tf, ↓gd_ft, h]
    refine callK_pcall (nhas_spec false (bb :: R) want[i] (by simp; omega)) (by simp) rfl ?_
    simp -implicitDefEqProofs [↓gd_tt, ↓gd_ff, ↓gd_tf, ↓gd_ft, hin, wrap1 hw h]
    refine ⟨fun e => ⟨by omega, i + 1, by omega, by omega, by rw [hsu, if_neg e]; simp, rfl⟩, fun e => ⟨i + 1, by omega, by omega, by rw [hsu, if_pos e]; simp, rfl⟩⟩
  rw [h, List.take_length]
  by_cases hre : others want bb = []
  · simp -implicitDefEqProofs [↓gd_tt, ↓gd_ff, ↓gd_tf, ↓gd_ft, hre]
  have hrs : others want bb ≠ [] := hre
  have hE2 : chooseE l uses (others want bb) (x, y) = 0 := by
    have hM2 : marksE l (others want bb) x y = 0 := marks_zero.2 ⟨hgd, rising_others hR, hre, wants_zero.2 ⟨fun w hw' => hh w (List.mem_filter.1 hw').1, fun w hw' => hlf w (List.mem_filter.1 hw').1⟩⟩
    simp [chooseE, hs, hM2]
  have hov2 : orderV l uses (others want bb) (x, y) = .tup [.d (encI false R), .d (I 0)] := by unfold orderV; rw [if_pos hE2, hRR]
  have hln : ¬ (others want bb).length = 0 := fun e => hre (List.length_eq_zero_iff.1 e)
  simp -implicitDefEqProofs [↓gd_tt, ↓gd_ff, ↓gd_tf, ↓gd_ft, hre]
  refine callK_pcall (dorder_spec false false false l uses (others want bb) (x, y) hl hu (by omega) (by omega)) (by simp) (by rw [hov2]; rfl) ?_
  rw [hov2]
  simp -implicitDefEqProofs [↓gd_tt, ↓gd_ff, ↓gd_tf, ↓gd_ft, hRl, hRl2]
  have e4 : (List.take want.length (I bb :: R.map I)).tail = R.map I := by
    rw [List.take_of_length_le (by simp; omega)]; rfl
  refine ⟨by omega, ?_⟩
  rw [e4]
  refine callK_pcall (ints_spec false false R R (by omega)) rfl rfl ?_
  simp -implicitDefEqProofs [↓gd_tt, ↓gd_ff, ↓gd_tf, ↓gd_ft]
end Go.Idl
