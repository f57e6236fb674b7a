/- The statement DrfGrows: what it computes. -/
import Derived.Test.YtdhifabhjlbjiaaPZ
import Derived.Test.YtdhifabhjlbjiaaMD6
import Derived.Test.YtdhifabhjlbjiaaQJ
set_option linter.all false
namespace Go.Idl
open Go.Proofs
set_option linter.unusedSimpArgs false
set_option linter.unusedVariables false
set_option maxRecDepth 8000
set_option maxHeartbeats 4000000

theorem ends_two {l : List Q} (hf : form l = true) {id : Int} {s : Nat} (hs : s < l.length) (hp : l[s].Par = 0) (hm : l[s].Id ∈ path l id) : ∃ h : (path l id).length - 2 < (path l id).length, (path l id)[(path l id).length - 2] = l[s].Id := by
  have h0 := form_pos hf
  have hroot := form_root hf h0
  obtain ⟨k, hk, e⟩ := List.getElem_of_mem hm
  obtain ⟨h1, e1⟩ := path_next hf hs h0 (by rw [hp, hroot.1]) hk e
  refine ⟨by omega, ?_⟩
  rcases Nat.lt_or_ge (k + 2) (path l id).length with h2 | h2
  · exfalso
    have hson := path_son hf id (i := k + 1) (by omega)
    rw [e1] at hson
    unfold sonIds at hson
    obtain ⟨q, hq, eq⟩ := List.mem_map.1 hson
    obtain ⟨hq1, hq2⟩ := List.mem_filter.1 hq
    obtain ⟨c, hc, rfl⟩ := List.getElem_of_mem hq1
    have : c = 0 := rises_inj (form_rises hf) hc h0 eq
    subst this
    have h3 : l[0].Par = (path l id)[k + 1 + 1] := by simpa using hq2
    rw [hroot.2] at h3
    have h4 := path_has hf id (i := k + 1 + 1) (by omega)
    rw [← h3] at h4
    obtain ⟨q, hq, e5⟩ := has_mem.1 h4
    obtain ⟨c, hc, rfl⟩ := List.getElem_of_mem hq
    have := id_nonneg hf hc
    omega
  · have : (path l id).length - 2 = k := by omega
    simp only [this]; exact e
theorem drfGrows_spec (l : List Q) (uses : List U) (want : List Int) (t : Int × Int) (other : Int) (more : Int × Int) (hl : l.length ≤ maxLen) (hr : l.length * 56 ≤ reachBytes) (hu : uses.length ≤ maxLen) (hur : uses.length * 24 ≤ reachBytes) (hw : want.length ≤ maxLen) (hw2 : want.length * 8 ≤ reachBytes) : PCall Try.prog 14 [encL false l, encUs false uses, encI false want, encV t, I other, encV more] (.d (.bool true)) := by
  obtain ⟨x, y⟩ := t
  obtain ⟨mx, my⟩ := more
  refine pcallS (fn := Try.f14) [] [] mixed (bodyOf Try.f14) [.tmp 12] Try.func14 rfl rfl (by decide) 95 rfl (by kernel_rfl) ?_
  simp -implicitDefEqProofs [↓gd_tt, ↓gd_ff, ↓gd_tf, ↓gd_ft, bodyOf, Try.f14, stripC, stripL, stripM, onsOf, upto, hintOf, freeOf, List.replicate]
  refine callK_pcall awake6_spec rfl rfl ?_
  simp -implicitDefEqProofs [↓gd_tt, ↓gd_ff, ↓gd_tf, ↓gd_ft]
  by_cases hE : chooseE l uses want (x, y) = 0
  case neg =>
    have hcv : chooseV l uses want (x, y) = .tup [.d (I 0), .d (I (chooseE l uses want (x, y)))] := by unfold chooseV; rw [if_neg hE]
    refine callK_pcall (choose_spec false false false l uses want (x, y) hl hu hw) rfl (by rw [hcv]; rfl) ?_
    rw [hcv]
    simp -implicitDefEqProofs [↓gd_tt, ↓gd_ff, ↓gd_tf, ↓gd_ft, hE]
  have hs : sumsE l uses = 0 := by
    rcases Decidable.em (sumsE l uses = 0) with h | h
    · exact h
    · simp [chooseE, h] at hE
  have hM : marksE l want x y = 0 := by simpa [chooseE, hs] using hE
  obtain ⟨hgd, hR, hne, hWz⟩ := marks_zero.1 hM
  obtain ⟨hh, hlf⟩ := wants_zero.1 hWz
  obtain ⟨hc, hu0, ho⟩ := sumsE_zero.1 hs
  have hf := check_form hc
  have h64 := check_len hc
  have hml := maxLen_i64
  have hrb : reachBytes = 140737488351232 := rfl
  have hbm := pickAt_in (sums := sumsL l uses) (t := (x, y)) hf hne hh
  have hcv : chooseV l uses want (x, y) = .tup [.d (I (pickAt l (sumsL l uses) (x, y) (cnts l want))), .d (I 0)] := by unfold chooseV; rw [if_pos hE]; rfl
  have hgr := grows (l := l) (uses := uses) (want := want) (t := (x, y)) (u := ⟨other, mx, my⟩) hE
  refine callK_pcall (choose_spec false false false l uses want (x, y) hl hu hw) rfl (by rw [hcv]; rfl) ?_
  rw [hcv]
  have hcv2 : chooseE l (uses ++ [⟨other, mx, my⟩]) want (x, y) = 0 → chooseV l (uses ++ [⟨other, mx, my⟩]) want (x, y) = .tup [.d (I (pickAt l (sumsL l (uses ++ [⟨other, mx, my⟩])) (x, y) (cnts l want))), .d (I 0)] := fun h => by unfold chooseV; rw [if_pos h]; rfl
  have hcv3 : chooseE l (uses ++ [⟨other, mx, my⟩]) want (x, y) ≠ 0 → chooseV l (uses ++ [⟨other, mx, my⟩]) want (x, y) = .tup [.d (I 0), .d (I (chooseE l (uses ++ [⟨other, mx, my⟩]) want (x, y)))] := fun h => by unfold chooseV; rw [if_neg h]
  generalize pickAt l (sumsL l uses) (x, y) (cnts l want) = bb at *
  generalize pickAt l (sumsL l (uses ++ [⟨other, mx, my⟩])) (x, y) (cnts l want) = b2 at *
  by_cases hbo : bb = other
  case pos => simp -implicitDefEqProofs [↓gd_tt, ↓gd_ff, ↓gd_tf, ↓gd_ft, hbo]
  simp -implicitDefEqProofs [↓gd_tt, ↓gd_ff, ↓gd_tf, ↓gd_ft, hbo]
  have hhb := hh bb hbm
  have eP : pathV l bb = .tup [.d (encI false (path l bb)), .d (I 0)] := by simp [pathV, there_zero.2 ⟨hc, hhb⟩]
  refine callK_pcall (qpath_spec false l bb hl) rfl (by rw [eP]; rfl) ?_
  rw [eP]
  simp -implicitDefEqProofs [↓gd_tt, ↓gd_ff, ↓gd_tf, ↓gd_ft]
  by_cases hto : there l other = 0
  case neg =>
    have eO : pathV l other = .tup [.nil 1, .d (I (there l other))] := by simp [pathV, hto]
    refine callK_pcall (qpath_spec false l other hl) rfl (by rw [eO]; rfl) ?_
    rw [eO]
    simp -implicitDefEqProofs [↓gd_tt, ↓gd_ff, ↓gd_tf, ↓gd_ft, hto]
  have eO : pathV l other = .tup [.d (encI false (path l other)), .d (I 0)] := by simp [pathV, hto]
  have n1 := path_len l bb
  have n2 := path_len l other
  refine callK_pcall (qpath_spec false l other hl) rfl (by rw [eO]; rfl) ?_
  rw [eO]
  by_cases c1 : (path l other).length < 2
  case pos => simp -implicitDefEqProofs [↓gd_tt, ↓gd_ff, ↓gd_tf, ↓gd_ft, c1, show ((path l other).length : Int) < 2 by omega]
  have c1' : ¬ ((path l other).length : Int) < 2 := by omega
  by_cases c2 : (path l bb).length < 2
  case pos => simp -implicitDefEqProofs [↓gd_tt, ↓gd_ff, ↓gd_tf, ↓gd_ft, c1', show ((path l bb).length : Int) < 2 by omega]
  have c2' : ¬ ((path l bb).length : Int) < 2 := by omega
  have w1 : IntKind.i64.wrap (((path l other).length : Int) - 2) = (((path l other).length - 2 : Nat) : Int) := by rw [wrap_i64 (by omega) (by omega)]; omega
  have w2 : IntKind.i64.wrap (((path l bb).length : Int) - 2) = (((path l bb).length - 2 : Nat) : Int) := by rw [wrap_i64 (by omega) (by omega)]; omega
  have d1 : (path l other).length - 2 < (path l other).length := by omega
  have d2 : (path l bb).length - 2 < (path l bb).length := by omega
  by_cases c3 : (path l other)[(path l other).length - 2] = (path l bb)[(path l bb).length - 2]
  case pos => simp -implicitDefEqProofs [↓gd_tt, ↓gd_ff, ↓gd_tf, ↓gd_ft, c1', c2', w1, w2, d1, d2, c3]
  have hgr := fun h => hgr h (fun s hs' hp hm hm2 => by
    obtain ⟨_, e1⟩ := ends_two hf hs' hp hm
    obtain ⟨_, e2⟩ := ends_two hf hs' hp hm2
    exact c3 (by rw [e2, e1]))
  simp -implicitDefEqProofs [↓gd_tt, ↓gd_ff, ↓gd_tf, ↓gd_ft, c1', c2', w1, w2, d1, d2, c3]
  refine ⟨by omega, by omega, ?_⟩
  have hu2 : (uses ++ [(⟨other, mx, my⟩ : U)]).length ≤ maxLen := by
    have : (140737488351232 : Nat) < maxLen := by decide
    simp; omega
  by_cases hE2 : chooseE l (uses ++ [⟨other, mx, my⟩]) want (x, y) = 0
  · have ecv := hcv2 hE2
    refine free_pcall (choose_spec false false false l (uses ++ [⟨other, mx, my⟩]) want (x, y) hl hu2 hw) (by simp) (by rw [ecv]; rfl) ?_
    rw [ecv, hgr hE2]
    simp -implicitDefEqProofs [↓gd_tt, ↓gd_ff, ↓gd_tf, ↓gd_ft]
  · have ecv := hcv3 hE2
    refine free_pcall (choose_spec false false false l (uses ++ [⟨other, mx, my⟩]) want (x, y) hl hu2 hw) (by simp) (by rw [ecv]; rfl) ?_
    rw [ecv]
    simp -implicitDefEqProofs [↓gd_tt, ↓gd_ff, ↓gd_tf, ↓gd_ft, hE2]
end Go.Idl
