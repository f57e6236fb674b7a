/- The statement DrfOne: what it computes. -/
import Derived.Test.YtdhifabhjlbjiaaPW
import Derived.Test.YtdhifabhjlbjiaaMD2
import Derived.Test.YtdhifabhjlbjiaaQJ
set_option linter.all false
namespace Go.Idl
open Go.Proofs
set_option linter.unusedSimpArgs false
set_option linter.unusedVariables false
set_option maxRecDepth 8000
set_option maxHeartbeats 4000000

theorem leafIds_iff {l : List Q} (hc : check l = 0) {x : Int} : x ∈ leafIds l (down l 0) ↔ has l x = true ∧ sonIds l x = [] := by
  rw [down_root (check_form hc)]
  unfold leafIds
  rw [List.mem_filter, has_mem, List.mem_map]
  simp
theorem one_spec (l : List Q) (uses : List U) (id : Int) (t : Int × Int) (hl : l.length ≤ maxLen) (hr : l.length * 56 ≤ reachBytes) (hu : uses.length ≤ maxLen) (hur : uses.length * 24 ≤ reachBytes) : PCall Try.prog 16 [encL false l, encUs false uses, I id, encV t] (.d (.bool true)) := by
  obtain ⟨x, y⟩ := t
  refine pcallS (fn := Try.f16) [] [] mixed (bodyOf Try.f16) [.tmp 8] Try.func16 rfl rfl (by decide) 59 rfl (by kernel_rfl) ?_
  simp -implicitDefEqProofs [↓gd_tt, ↓gd_ff, ↓gd_tf, ↓gd_ft, bodyOf, Try.f16, stripC, stripL, stripM, onsOf, upto, hintOf, freeOf, List.replicate]
  refine callK_pcall awake6_spec rfl rfl ?_
  simp -implicitDefEqProofs [↓gd_tt, ↓gd_ff, ↓gd_tf, ↓gd_ft]
  by_cases hs : sumsE l uses = 0
  case neg =>
    have hE : chooseE l uses [id] (x, y) = sumsE l uses := by simp [chooseE, hs]
    have hcv : chooseV l uses [id] (x, y) = .tup [.d (I 0), .d (I (sumsE l uses))] := by unfold chooseV; rw [hE, if_neg hs]
    have hv : sumsV l uses = .tup [.nil 2, .d (I (sumsE l uses))] := by simp [sumsV, hs]
    refine callK_pcall (choose_spec false false false l uses [id] (x, y) hl hu (max64 (by simp))) rfl (by rw [hcv]; rfl) ?_
    rw [hcv]
    simp -implicitDefEqProofs [↓gd_tt, ↓gd_ff, ↓gd_tf, ↓gd_ft]
    refine callK_pcall (qsums_spec false false l uses hl hu) rfl (by rw [hv]; rfl) ?_
    rw [hv]
    simp -implicitDefEqProofs [↓gd_tt, ↓gd_ff, ↓gd_tf, ↓gd_ft]
    refine callK_pcall (qleaves_spec false l hl) rfl (by split <;> rfl) ?_
    split <;> simp -implicitDefEqProofs [↓gd_tt, ↓gd_ff, ↓gd_tf, ↓gd_ft, hs]
  obtain ⟨hc, hu0, ho⟩ := sumsE_zero.1 hs
  have h64 := check_len hc
  have hv : sumsV l uses = .tup [.d (encVs false (sumsL l uses)), .d (I 0)] := by simp [sumsV, hs]
  have hE : chooseE l uses [id] (x, y) = marksE l [id] x y := by simp [chooseE, hs]
  rw [marksE_one] at hE
  have eL : (if check l = 0 then V.tup [.d (encI false (leafIds l (down l 0))), .d (I 0)] else .tup [.nil 1, .d (I (check l))]) = .tup [.d (encI false (leafIds l (down l 0))), .d (I 0)] := by rw [if_pos hc]
  have hlf : (leafIds l (down l 0)).length ≤ maxLen := by
    have h2 : (leafIds l (down l 0)).length ≤ (down l 0).length := List.length_filter_le _ _
    have := down_len l 0
    omega
  have hbad : ∀ e : Int, e ≠ 0 → chooseE l uses [id] (x, y) = e → chooseV l uses [id] (x, y) = .tup [.d (I 0), .d (I e)] := fun e he h => by unfold chooseV; rw [h, if_neg he]
  by_cases hg : good x y = true
  case neg =>
    have hcv := hbad 1 (by decide) (by rw [hE]; simp [hg])
    refine callK_pcall (choose_spec false false false l uses [id] (x, y) hl hu (max64 (by simp))) rfl (by rw [hcv]; rfl) ?_
    rw [hcv]
    simp -implicitDefEqProofs [↓gd_tt, ↓gd_ff, ↓gd_tf, ↓gd_ft]
    refine callK_pcall (qsums_spec false false l uses hl hu) rfl (by rw [hv]; rfl) ?_
    rw [hv]
    simp -implicitDefEqProofs [↓gd_tt, ↓gd_ff, ↓gd_tf, ↓gd_ft]
    refine callK_pcall (qleaves_spec false l hl) rfl (by rw [eL]; rfl) ?_
    rw [eL]
    simp -implicitDefEqProofs [↓gd_tt, ↓gd_ff, ↓gd_tf, ↓gd_ft]
    refine callK_pcall (vcheck_spec x y) rfl rfl ?_
    simp -implicitDefEqProofs [↓gd_tt, ↓gd_ff, ↓gd_tf, ↓gd_ft, hg]
  by_cases hm : has l id = true ∧ sonIds l id = []
  case neg =>
    obtain ⟨e, he, hEe⟩ : ∃ e : Int, e ≠ 0 ∧ chooseE l uses [id] (x, y) = e := by
      by_cases h1 : has l id = true
      · have h2 : ¬ sonIds l id = [] := fun e => hm ⟨h1, e⟩
        exact ⟨14, by decide, by rw [hE]; simp [hg, h1, h2]⟩
      · exact ⟨8, by decide, by rw [hE]; simp [hg, h1]⟩
    have hcv := hbad e he hEe
    have hnm : ¬ id ∈ leafIds l (down l 0) := fun k => hm ((leafIds_iff hc).1 k)
    refine callK_pcall (choose_spec false false false l uses [id] (x, y) hl hu (max64 (by simp))) rfl (by rw [hcv]; rfl) ?_
    rw [hcv]
    simp -implicitDefEqProofs [↓gd_tt, ↓gd_ff, ↓gd_tf, ↓gd_ft]
    refine callK_pcall (qsums_spec false false l uses hl hu) rfl (by rw [hv]; rfl) ?_
    rw [hv]
    simp -implicitDefEqProofs [↓gd_tt, ↓gd_ff, ↓gd_tf, ↓gd_ft]
    refine callK_pcall (qleaves_spec false l hl) rfl (by rw [eL]; rfl) ?_
    rw [eL]
    simp -implicitDefEqProofs [↓gd_tt, ↓gd_ff, ↓gd_tf, ↓gd_ft]
    refine callK_pcall (vcheck_spec x y) rfl rfl ?_
    simp -implicitDefEqProofs [↓gd_tt, ↓gd_ff, ↓gd_tf, ↓gd_ft, hg]
    refine callK_pcall (nhas_spec false (leafIds l (down l 0)) id hlf) rfl rfl ?_
    simp -implicitDefEqProofs [↓gd_tt, ↓gd_ff, ↓gd_tf, ↓gd_ft, hnm, he]
  have hEz : chooseE l uses [id] (x, y) = 0 := by rw [hE]; simp [hg, hm.1, hm.2]
  have hcv : chooseV l uses [id] (x, y) = .tup [.d (I id), .d (I 0)] := by
    unfold chooseV
    rw [if_pos hEz, pick_one hc hm.1 hm.2]
  have hmem : id ∈ leafIds l (down l 0) := (leafIds_iff hc).2 hm
  refine callK_pcall (choose_spec false false false l uses [id] (x, y) hl hu (max64 (by simp))) rfl (by rw [hcv]; rfl) ?_
  rw [hcv]
  simp -implicitDefEqProofs [↓gd_tt, ↓gd_ff, ↓gd_tf, ↓gd_ft]
  refine callK_pcall (qsums_spec false false l uses hl hu) rfl (by rw [hv]; rfl) ?_
  rw [hv]
  simp -implicitDefEqProofs [↓gd_tt, ↓gd_ff, ↓gd_tf, ↓gd_ft]
  refine callK_pcall (qleaves_spec false l hl) rfl (by rw [eL]; rfl) ?_
  rw [eL]
  simp -implicitDefEqProofs [↓gd_tt, ↓gd_ff, ↓gd_tf, ↓gd_ft]
  refine callK_pcall (vcheck_spec x y) rfl rfl ?_
  simp -implicitDefEqProofs [↓gd_tt, ↓gd_ff, ↓gd_tf, ↓gd_ft, hg]
  refine callK_pcall (nhas_spec false (leafIds l (down l 0)) id hlf) rfl rfl ?_
  simp -implicitDefEqProofs [↓gd_tt, ↓gd_ff, ↓gd_tf, ↓gd_ft, hmem]
end Go.Idl
