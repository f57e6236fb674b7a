/- The statement QueueTrees: what it computes. -/
import Derived.Test.YtdhifabhjlbjiaaQW
import Derived.Test.YtdhifabhjlbjiaaQJ
import Derived.Test.YtdhifabhjlbjiaaPI
set_option linter.all false
namespace Go.Idl
open Go.Proofs
set_option linter.unusedSimpArgs false
set_option linter.unusedVariables false
set_option maxRecDepth 8000

theorem below_len (l : List Q) (id : Int) : (below l id).length ≤ l.length := by
  unfold below
  rw [List.length_map]; exact List.length_filter_le _ _
theorem leafIds_mem {l : List Q} (hc : check l = 0) {x : Int} (hx : has l x = true) : x ∈ leafIds l (down l 0) ↔ sonIds l x = [] := by
  rw [down_root (check_form hc)]
  unfold leafIds
  rw [List.mem_filter]
  obtain ⟨q, hq, rfl⟩ := has_mem.1 hx
  simp only [decide_eq_true_eq, and_iff_right_iff_imp]
  intro _
  exact List.mem_map.2 ⟨q, hq, rfl⟩
set_option maxHeartbeats 4000000 in
theorem trees_spec (l : List Q) (id : Int) (hl : l.length ≤ maxLen) (hr : l.length * 56 ≤ reachBytes) : PCall Try.prog 9 [encL false l, I id] (.d (.bool true)) := by
  refine pcallS (fn := Try.f9) [] [] mixed (bodyOf Try.f9) [.tmp 4] Try.func9 rfl rfl (by decide) 136 rfl (by kernel_rfl) ?_
  simp -implicitDefEqProofs [↓gd_tt, ↓gd_ff, ↓gd_tf, ↓gd_ft, bodyOf, Try.f9, stripC, stripL, stripM, onsOf, upto, hintOf, freeOf, List.replicate]
  refine callK_pcall awake_spec rfl rfl ?_
  simp -implicitDefEqProofs [↓gd_tt, ↓gd_ff, ↓gd_tf, ↓gd_ft]
  by_cases ht : there l id = 0
  case neg =>
    have eP : pathV l id = .tup [.nil 1, .d (I (there l id))] := by simp [pathV, ht]
    refine callK_pcall (qpath_spec false l id hl) rfl (by rw [eP]; rfl) ?_
    rw [eP]
    simp -implicitDefEqProofs [↓gd_tt, ↓gd_ff, ↓gd_tf, ↓gd_ft, ht]
  obtain ⟨hc, hh⟩ := there_zero.1 ht
  have hf := check_form hc
  have h64 := check_len hc
  have n3 := path_len l id
  have eP : pathV l id = .tup [.d (encI false (path l id)), .d (I 0)] := by simp [pathV, ht]
  refine callK_pcall (qpath_spec false l id hl) rfl (by rw [eP]; rfl) ?_
  rw [eP]
  obtain ⟨r, e1, e2⟩ := path_head hf hh
  have hp0 : 0 < (path l id).length := by rw [e1]; simp
  have hpn : path l id ≠ [] := by rw [e1]; simp
  have hp1 : (path l id)[0] = id := by simp only [e1, List.getElem_cons_zero]
  have hp2 : (path l id)[(path l id).length - 1] = 0 := by
    rw [List.getLast?_eq_getElem?, List.getElem?_eq_getElem (by omega)] at e2
    simpa using e2
  have hml : 64 ≤ maxLen := by decide
  have hw := wrapm1 (l := path l id) (i := (path l id).length) (by omega)
  have hw1 : IntKind.i64.wrap (((path l id).length : Int) - 1) = (((path l id).length - 1 : Nat) : Int) := by rw [wrap_i64 (by omega) (by omega)]; omega
  have hlt : (path l id).length - 1 < (path l id).length := by omega
  simp -implicitDefEqProofs [↓gd_tt, ↓gd_ff, ↓gd_tf, ↓gd_ft, hpn, hp0, hp1, hw1, hlt, hp2]
  refine loopA mixed [false, false, false, false, true, false, false, true, true, true, false, false, false, false, false, false, false, false, false, false, false, false, false, false, false, false, false, false, false, false, false, false, false, false, false, false, false, false, false, false, false, false, false, false, false, false, false, false, false, false, true, true, true, true, true, true, true, true, true, true, true, true, true, true, true, true, true, true, true, true, true, true, true, true, true, true, true] (fun (i : Nat) => [(7, .d (I i))]) (fun (i : Nat) => []) (fun (i : Nat) => 1 ≤ i ∧ i ≤ (path l id).length) (fun (i : Nat) => (path l id).length - i) (1) (⟨Nat.le_refl _, by omega⟩) (by simp) ?_
  rintro i hx
  obtain ⟨hi1, hi⟩ := hx
  rcases Nat.lt_or_eq_of_le hi with h | h
  · have hq := path_has hf id h
    have hs := path_son hf id (i := i - 1) (by omega)
    have hii : i - 1 + 1 = i := by omega
    simp only [hii] at hs
    have hthere : there l (path l id)[i] = 0 := there_zero.2 ⟨hc, hq⟩
    have eC : childrenV l (path l id)[i] = .tup [.d (encI false (sonIds l (path l id)[i])), .d (I 0)] := by simp [childrenV, hthere]
    have hm1 : i - 1 < (path l id).length := by omega
    have hwm : IntKind.i64.wrap ((i : Int) - 1) = ((i - 1 : Nat) : Int) := wrapm1 (l := path l id) (by omega) h hi1
    simp -implicitDefEqProofs [↓gd_tt, ↓gd_ff, ↓gd_tf, ↓gd_ft, h]
    refine callK_pcall (qchildren_spec false l (path l id)[i] hl) rfl (by rw [eC]; rfl) ?_
    rw [eC]
    simp -implicitDefEqProofs [↓gd_tt, ↓gd_ff, ↓gd_tf, ↓gd_ft, hwm, hm1]
    refine callK_pcall (nhas_spec false (sonIds l (path l id)[i]) (path l id)[i - 1] (by have := sonIds_len l (path l id)[i]; omega)) rfl rfl ?_
    simp -implicitDefEqProofs [↓gd_tt, ↓gd_ff, ↓gd_tf, ↓gd_ft, hs, wrap1 (l := path l id) (by omega) h]
    omega
  simp -implicitDefEqProofs [↓gd_tt, ↓gd_ff, ↓gd_tf, ↓gd_ft, h]
  have eL : (if check l = 0 then V.tup [.d (encI false (leafIds l (down l 0))), .d (I 0)] else .tup [.nil 1, .d (I (check l))]) = .tup [.d (encI false (leafIds l (down l 0))), .d (I 0)] := by rw [if_pos hc]
  refine callK_pcall (qleaves_spec false l hl) rfl (by rw [eL]; rfl) ?_
  rw [eL]
  simp -implicitDefEqProofs [↓gd_tt, ↓gd_ff, ↓gd_tf, ↓gd_ft]
  refine loopA mixed [false, false, false, false, true, false, false, false, false, false, false, false, false, true, true, true, true, true, false, false, false, false, false, false, false, false, false, false, false, false, false, false, false, false, false, false, false, false, false, false, false, false, false, false, false, false, false, false, false, false, false, false, false, false, false, false, false, false, false, false, false, false, false, false, false, false, false, false, false, false, false, false, false, false, false, false, false, false, false, false, false, false, false, false, false, false, true, true, true, true, true, true, true, true, true, true, true, true, true, true, true, true, true, true, true, true, true, true, true, true, true, true, true, true, true, true, true, true, true, true, true, true, true, true, true, true, true, true, true, true, true, true, true, true, true, true, true, true] (fun (i : Nat) => [(86, .d (I i))]) (fun (i : Nat) => []) (fun (i : Nat) => i ≤ l.length) (fun (i : Nat) => l.length - i) (0) (Nat.zero_le _) (by simp) ?_
  rintro i hx
  rcases Nat.lt_or_eq_of_le hx with h | h
  · have hq := has_at h
    have hthere : there l l[i].Id = 0 := there_zero.2 ⟨hc, hq⟩
    have eC : childrenV l l[i].Id = .tup [.d (encI false (sonIds l l[i].Id)), .d (I 0)] := by simp [childrenV, hthere]
    have eB : belowV l l[i].Id = .tup [.d (encI false (below l l[i].Id)), .d (I 0)] := by simp [belowV, hthere]
    have m1 : ((id : Int) ∈ below l l[i].Id) = (l[i].Id ∈ path l id) := propext (below_mem hh)
    have m2 : (l[i].Id ∈ below l l[i].Id) = True := propext ⟨fun _ => trivial, fun _ => (below_mem hq).2 (path_self hf hq)⟩
    have m3 : (l[i].Id ∈ leafIds l (down l 0)) = (sonIds l l[i].Id = []) := propext (leafIds_mem hc hq)
    simp -implicitDefEqProofs [↓gd_tt, ↓gd_ff, ↓gd_tf, ↓gd_ft, h]
    refine callK_pcall (qbelow_spec false l l[i].Id hl) rfl (by rw [eB]; rfl) ?_
    rw [eB]
    simp -implicitDefEqProofs [↓gd_tt, ↓gd_ff, ↓gd_tf, ↓gd_ft]
    refine callK_pcall (qchildren_spec false l l[i].Id hl) rfl (by rw [eC]; rfl) ?_
    rw [eC]
    simp -implicitDefEqProofs [↓gd_tt, ↓gd_ff, ↓gd_tf, ↓gd_ft]
    refine free_pcall (nhas_spec false (below l l[i].Id) id (by have := below_len l l[i].Id; omega)) rfl rfl ?_
    simp -implicitDefEqProofs [↓gd_tt, ↓gd_ff, ↓gd_tf, ↓gd_ft]
    refine free_pcall (nhas_spec false (path l id) l[i].Id (by omega)) rfl rfl ?_
    simp -implicitDefEqProofs [↓gd_tt, ↓gd_ff, ↓gd_tf, ↓gd_ft, m1]
    refine free_pcall (nhas_spec false (below l l[i].Id) l[i].Id (by have := below_len l l[i].Id; omega)) rfl rfl ?_
    simp -implicitDefEqProofs [↓gd_tt, ↓gd_ff, ↓gd_tf, ↓gd_ft, m2]
    refine free_pcall (nhas_spec false (leafIds l (down l 0)) l[i].Id (by have := downF_len 0 l []; have h2 : (leafIds l (down l 0)).length ≤ (down l 0).length := List.length_filter_le _ _; unfold down at h2; unfold down; omega)) rfl rfl ?_
    simp -implicitDefEqProofs [↓gd_tt, ↓gd_ff, ↓gd_tf, ↓gd_ft, m3, wrap1 hl h]
    omega
  · simp -implicitDefEqProofs [↓gd_tt, ↓gd_ff, ↓gd_tf, ↓gd_ft, h]
end Go.Idl
