/- The statement QueueAsks: what it computes. -/
import Derived.Test.YtdhifabhjlbjiaaQW
import Derived.Test.YtdhifabhjlbjiaaQJ
import Derived.Test.YtdhifabhjlbjiaaPI
set_option linter.all false
namespace Go.Idl
open Go.Proofs
set_option linter.unusedSimpArgs false
set_option linter.unusedVariables false
set_option maxRecDepth 8000

theorem permLI : ∀ (m : List Int), D.permL (m.map I)
  | [] => trivial
  | x :: m => ⟨trivial, permLI m⟩
theorem permI (m : List Int) (e : Int) : V.permP (.tup [.d (encI false m), .d (I e)]) := by
  intro v hv
  rcases List.mem_cons.1 hv with rfl | hv
  · exact ⟨rfl, permLI m⟩
  · rcases List.mem_cons.1 hv with rfl | hv
    · trivial
    · cases hv
theorem permN (e : Int) : V.permP (.tup [.nil 1, .d (I e)]) := by
  intro v hv
  rcases List.mem_cons.1 hv with rfl | hv
  · trivial
  · rcases List.mem_cons.1 hv with rfl | hv
    · trivial
    · cases hv
theorem leaves_none {l : List Q} (h : check l ≠ 0) : leaves l = [] := by
  unfold leaves
  rw [List.map_eq_nil_iff, List.filter_eq_nil_iff]
  intro q _
  simp [h]
theorem leaves_len (l : List Q) : (leaves l).length ≤ l.length := by
  unfold leaves
  rw [List.length_map]; exact List.length_filter_le _ _
theorem below_leN (l : List Q) (id : Int) : (below l id).length ≤ l.length := by
  unfold below
  rw [List.length_map]; exact List.length_filter_le _ _
set_option maxHeartbeats 4000000 in
theorem asks_spec (l : List Q) (id : Int) (hl : l.length ≤ maxLen) (hr : l.length * 56 ≤ reachBytes) : PCall Try.prog 8 [encL false l, I id] (.d (.bool true)) := by
  have hl2 : (l.length + 1) * 56 ≤ 140737488355328 := reach_more hr
  have n1 := leaves_len l
  have n2 := sonIds_len l id
  have n3 := path_len l id
  have n4 := below_leN l id
  refine pcallS (fn := Try.f8) [] [] mixed (bodyOf Try.f8) [.tmp 4] Try.func8 rfl rfl (by decide) 105 rfl (by kernel_rfl) ?_
  simp -implicitDefEqProofs [↓gd_tt, ↓gd_ff, ↓gd_tf, ↓gd_ft, bodyOf, Try.f8, stripC, stripL, stripM, onsOf, upto, hintOf, freeOf, List.replicate]
  refine callK_pcall awake_spec rfl rfl ?_
  simp -implicitDefEqProofs [↓gd_tt, ↓gd_ff, ↓gd_tf, ↓gd_ft]
  refine twin_mem false l hl2 fun t cap hp' xs k0 k1 k2 k3 k4 => ?_
  have k5 : True := trivial
  have hlen : l.length ≤ cap := by omega
  have hlen2 : cap ≤ l.length + (xs.length + 1) := by omega
  have hx : ∀ d : D, lendL hp' [.ref t 7 0 l.length cap, .d d] = some [encL true l, d] := fun d => by
    have : List.take l.length (l.map encQ ++ encQ ⟨71, 0, 0, 0, 0, 0, 0⟩ :: xs) = l.map encQ := List.take_left' (by simp)
    simp [k1, hlen, hlen2]
  have hx1 : lendL hp' [.ref t 7 0 l.length cap] = some [encL true l] := by
    have : List.take l.length (l.map encQ ++ encQ ⟨71, 0, 0, 0, 0, 0, 0⟩ :: xs) = l.map encQ := List.take_left' (by simp)
    simp [k1, hlen, hlen2]
  simp -implicitDefEqProofs [↓gd_tt, ↓gd_ff, ↓gd_tf, ↓gd_ft]
  by_cases hc : check l = 0
  · have eL : (if check l = 0 then V.tup [.d (encI false (leafIds l (down l 0))), .d (I 0)] else .tup [.nil 1, .d (I (check l))]) = .tup [.d (encI false (leaves l)), .d (I 0)] := by rw [if_pos hc, leaves_same hc]
    by_cases hh : has l id = true
    · have ht : there l id = 0 := there_zero.2 ⟨hc, hh⟩
      have eLd := hc
      have eC : childrenV l id = .tup [.d (encI false (sonIds l id)), .d (I 0)] := by simp [childrenV, ht]
      have eP : pathV l id = .tup [.d (encI false (path l id)), .d (I 0)] := by simp [pathV, ht]
      have eB : belowV l id = .tup [.d (encI false (below l id)), .d (I 0)] := by simp [belowV, ht]
      refine callK_lend (qleaves_spec true l hl) hx1 (by rw [eL]; rfl) (by rw [eL]; first | exact permI _ _ | exact permN _) ?_
      rw [eL]
      simp -implicitDefEqProofs [↓gd_tt, ↓gd_ff, ↓gd_tf, ↓gd_ft, k5]
      refine callK_pcall (refLeaves_spec false l hl hr) rfl rfl ?_
      simp -implicitDefEqProofs [↓gd_tt, ↓gd_ff, ↓gd_tf, ↓gd_ft, k5, eLd]
      refine callK_lend (qchildren_spec true l id hl) (hx _) (by rw [eC]; rfl) (by rw [eC]; first | exact permI _ _ | exact permN _) ?_
      rw [eC]
      simp -implicitDefEqProofs [↓gd_tt, ↓gd_ff, ↓gd_tf, ↓gd_ft, k5]
      refine callK_pcall (refChildren_spec false l id hl hr) rfl (by rw [eC]; rfl) ?_
      rw [eC]
      simp -implicitDefEqProofs [↓gd_tt, ↓gd_ff, ↓gd_tf, ↓gd_ft, k5]
      first | refine callK_pcall (ints_spec false false (leaves l) (leaves l) (by omega)) rfl rfl ?_ | refine callK_pcall (ints_spec false false [] [] (Nat.zero_le _)) rfl rfl ?_
      simp -implicitDefEqProofs [↓gd_tt, ↓gd_ff, ↓gd_tf, ↓gd_ft, k5, eLd]
      first | refine callK_pcall (ints_spec false false (sonIds l id) (sonIds l id) (by omega)) rfl rfl ?_ | refine callK_pcall (ints_spec false false [] [] (Nat.zero_le _)) rfl rfl ?_
      simp -implicitDefEqProofs [↓gd_tt, ↓gd_ff, ↓gd_tf, ↓gd_ft, k5, eLd]
      refine callK_lend (qpath_spec true l id hl) (hx _) (by rw [eP]; rfl) (by rw [eP]; first | exact permI _ _ | exact permN _) ?_
      rw [eP]
      simp -implicitDefEqProofs [↓gd_tt, ↓gd_ff, ↓gd_tf, ↓gd_ft, k5]
      refine callK_pcall (refPath_spec false l id hl) rfl (by rw [eP]; rfl) ?_
      rw [eP]
      simp -implicitDefEqProofs [↓gd_tt, ↓gd_ff, ↓gd_tf, ↓gd_ft, k5]
      refine callK_lend (qbelow_spec true l id hl) (hx _) (by rw [eB]; rfl) (by rw [eB]; first | exact permI _ _ | exact permN _) ?_
      rw [eB]
      simp -implicitDefEqProofs [↓gd_tt, ↓gd_ff, ↓gd_tf, ↓gd_ft, k5]
      refine callK_pcall (refBelow_spec false l id hl) rfl (by rw [eB]; rfl) ?_
      rw [eB]
      simp -implicitDefEqProofs [↓gd_tt, ↓gd_ff, ↓gd_tf, ↓gd_ft, k5]
      first | refine callK_pcall (ints_spec false false (path l id) (path l id) (by omega)) rfl rfl ?_ | refine callK_pcall (ints_spec false false [] [] (Nat.zero_le _)) rfl rfl ?_
      simp -implicitDefEqProofs [↓gd_tt, ↓gd_ff, ↓gd_tf, ↓gd_ft, k5]
      first | refine callK_pcall (ints_spec false false (below l id) (below l id) (by omega)) rfl rfl ?_ | refine callK_pcall (ints_spec false false [] [] (Nat.zero_le _)) rfl rfl ?_
      simp -implicitDefEqProofs [↓gd_tt, ↓gd_ff, ↓gd_tf, ↓gd_ft, k5]
      refine kept_mem false l hl2 k2 (by omega) k1 ?_
      simp -implicitDefEqProofs [↓gd_tt, ↓gd_ff, ↓gd_tf, ↓gd_ft, k5]
    · have ht : ¬ there l id = 0 := fun e => hh (there_zero.1 e).2
      have eLd := hc
      have eC : childrenV l id = .tup [.nil 1, .d (I (there l id))] := by simp [childrenV, ht]
      have eP : pathV l id = .tup [.nil 1, .d (I (there l id))] := by simp [pathV, ht]
      have eB : belowV l id = .tup [.nil 1, .d (I (there l id))] := by simp [belowV, ht]
      refine callK_lend (qleaves_spec true l hl) hx1 (by rw [eL]; rfl) (by rw [eL]; first | exact permI _ _ | exact permN _) ?_
      rw [eL]
      simp -implicitDefEqProofs [↓gd_tt, ↓gd_ff, ↓gd_tf, ↓gd_ft, k5]
      refine callK_pcall (refLeaves_spec false l hl hr) rfl rfl ?_
      simp -implicitDefEqProofs [↓gd_tt, ↓gd_ff, ↓gd_tf, ↓gd_ft, k5, eLd]
      refine callK_lend (qchildren_spec true l id hl) (hx _) (by rw [eC]; rfl) (by rw [eC]; first | exact permI _ _ | exact permN _) ?_
      rw [eC]
      simp -implicitDefEqProofs [↓gd_tt, ↓gd_ff, ↓gd_tf, ↓gd_ft, k5]
      refine callK_pcall (refChildren_spec false l id hl hr) rfl (by rw [eC]; rfl) ?_
      rw [eC]
      simp -implicitDefEqProofs [↓gd_tt, ↓gd_ff, ↓gd_tf, ↓gd_ft, k5]
      first | refine callK_pcall (ints_spec false false (leaves l) (leaves l) (by omega)) rfl rfl ?_ | refine callK_pcall (ints_spec false false [] [] (Nat.zero_le _)) rfl rfl ?_
      simp -implicitDefEqProofs [↓gd_tt, ↓gd_ff, ↓gd_tf, ↓gd_ft, k5, eLd]
      first | refine callK_pcall (ints_spec false false (sonIds l id) (sonIds l id) (by omega)) rfl rfl ?_ | refine callK_pcall (ints_spec false false [] [] (Nat.zero_le _)) rfl rfl ?_
      simp -implicitDefEqProofs [↓gd_tt, ↓gd_ff, ↓gd_tf, ↓gd_ft, k5, eLd]
      refine callK_lend (qpath_spec true l id hl) (hx _) (by rw [eP]; rfl) (by rw [eP]; first | exact permI _ _ | exact permN _) ?_
      rw [eP]
      simp -implicitDefEqProofs [↓gd_tt, ↓gd_ff, ↓gd_tf, ↓gd_ft, k5]
      refine callK_pcall (refPath_spec false l id hl) rfl (by rw [eP]; rfl) ?_
      rw [eP]
      simp -implicitDefEqProofs [↓gd_tt, ↓gd_ff, ↓gd_tf, ↓gd_ft, k5]
      refine callK_lend (qbelow_spec true l id hl) (hx _) (by rw [eB]; rfl) (by rw [eB]; first | exact permI _ _ | exact permN _) ?_
      rw [eB]
      simp -implicitDefEqProofs [↓gd_tt, ↓gd_ff, ↓gd_tf, ↓gd_ft, k5]
      refine callK_pcall (refBelow_spec false l id hl) rfl (by rw [eB]; rfl) ?_
      rw [eB]
      simp -implicitDefEqProofs [↓gd_tt, ↓gd_ff, ↓gd_tf, ↓gd_ft, k5]
      first | refine callK_pcall (ints_spec false false (path l id) (path l id) (by omega)) rfl rfl ?_ | refine callK_pcall (ints_spec false false [] [] (Nat.zero_le _)) rfl rfl ?_
      simp -implicitDefEqProofs [↓gd_tt, ↓gd_ff, ↓gd_tf, ↓gd_ft, k5]
      first | refine callK_pcall (ints_spec false false (below l id) (below l id) (by omega)) rfl rfl ?_ | refine callK_pcall (ints_spec false false [] [] (Nat.zero_le _)) rfl rfl ?_
      simp -implicitDefEqProofs [↓gd_tt, ↓gd_ff, ↓gd_tf, ↓gd_ft, k5]
      refine kept_mem false l hl2 k2 (by omega) k1 ?_
      simp -implicitDefEqProofs [↓gd_tt, ↓gd_ff, ↓gd_tf, ↓gd_ft, k5]
  · have eL : (if check l = 0 then V.tup [.d (encI false (leafIds l (down l 0))), .d (I 0)] else .tup [.nil 1, .d (I (check l))]) = .tup [.nil 1, .d (I (check l))] := by rw [if_neg hc]
    have ht : ¬ there l id = 0 := fun e => hc (there_zero.1 e).1
    have eLd := leaves_none hc
    have eC : childrenV l id = .tup [.nil 1, .d (I (there l id))] := by simp [childrenV, ht]
    have eP : pathV l id = .tup [.nil 1, .d (I (there l id))] := by simp [pathV, ht]
    have eB : belowV l id = .tup [.nil 1, .d (I (there l id))] := by simp [belowV, ht]
    refine callK_lend (qleaves_spec true l hl) hx1 (by rw [eL]; rfl) (by rw [eL]; first | exact permI _ _ | exact permN _) ?_
    rw [eL]
    simp -implicitDefEqProofs [↓gd_tt, ↓gd_ff, ↓gd_tf, ↓gd_ft, k5]
    refine callK_pcall (refLeaves_spec false l hl hr) rfl rfl ?_
    simp -implicitDefEqProofs [↓gd_tt, ↓gd_ff, ↓gd_tf, ↓gd_ft, k5, eLd]
    refine callK_lend (qchildren_spec true l id hl) (hx _) (by rw [eC]; rfl) (by rw [eC]; first | exact permI _ _ | exact permN _) ?_
    rw [eC]
    simp -implicitDefEqProofs [↓gd_tt, ↓gd_ff, ↓gd_tf, ↓gd_ft, k5]
    refine callK_pcall (refChildren_spec false l id hl hr) rfl (by rw [eC]; rfl) ?_
    rw [eC]
    simp -implicitDefEqProofs [↓gd_tt, ↓gd_ff, ↓gd_tf, ↓gd_ft, k5]
    first | refine callK_pcall (ints_spec false false (leaves l) (leaves l) (by omega)) rfl rfl ?_ | refine callK_pcall (ints_spec false false [] [] (Nat.zero_le _)) rfl rfl ?_
    simp -implicitDefEqProofs [↓gd_tt, ↓gd_ff, ↓gd_tf, ↓gd_ft, k5, eLd]
    first | refine callK_pcall (ints_spec false false (sonIds l id) (sonIds l id) (by omega)) rfl rfl ?_ | refine callK_pcall (ints_spec false false [] [] (Nat.zero_le _)) rfl rfl ?_
    simp -implicitDefEqProofs [↓gd_tt, ↓gd_ff, ↓gd_tf, ↓gd_ft, k5, eLd]
    refine callK_lend (qpath_spec true l id hl) (hx _) (by rw [eP]; rfl) (by rw [eP]; first | exact permI _ _ | exact permN _) ?_
    rw [eP]
    simp -implicitDefEqProofs [↓gd_tt, ↓gd_ff, ↓gd_tf, ↓gd_ft, k5]
    refine callK_pcall (refPath_spec false l id hl) rfl (by rw [eP]; rfl) ?_
    rw [eP]
    simp -implicitDefEqProofs [↓gd_tt, ↓gd_ff, ↓gd_tf, ↓gd_ft, k5]
    refine callK_lend (qbelow_spec true l id hl) (hx _) (by rw [eB]; rfl) (by rw [eB]; first | exact permI _ _ | exact permN _) ?_
    rw [eB]
    simp -implicitDefEqProofs [↓gd_tt, ↓gd_ff, ↓gd_tf, ↓gd_ft, k5]
    refine callK_pcall (refBelow_spec false l id hl) rfl (by rw [eB]; rfl) ?_
    rw [eB]
    simp -implicitDefEqProofs [↓gd_tt, ↓gd_ff, ↓gd_tf, ↓gd_ft, k5]
    first | refine callK_pcall (ints_spec false false (path l id) (path l id) (by omega)) rfl rfl ?_ | refine callK_pcall (ints_spec false false [] [] (Nat.zero_le _)) rfl rfl ?_
    simp -implicitDefEqProofs [↓gd_tt, ↓gd_ff, ↓gd_tf, ↓gd_ft, k5]
    first | refine callK_pcall (ints_spec false false (below l id) (below l id) (by omega)) rfl rfl ?_ | refine callK_pcall (ints_spec false false [] [] (Nat.zero_le _)) rfl rfl ?_
    simp -implicitDefEqProofs [↓gd_tt, ↓gd_ff, ↓gd_tf, ↓gd_ft, k5]
    refine kept_mem false l hl2 k2 (by omega) k1 ?_
    simp -implicitDefEqProofs [↓gd_tt, ↓gd_ff, ↓gd_tf, ↓gd_ft, k5]
end Go.Idl
