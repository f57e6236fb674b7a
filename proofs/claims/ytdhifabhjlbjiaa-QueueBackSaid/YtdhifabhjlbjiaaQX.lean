/- The statement QueueEdits. -/
import Derived.Test.YtdhifabhjlbjiaaQW
import Derived.Test.YtdhifabhjlbjiaaQJ
set_option linter.all false
namespace Go.Idl
open Go.Proofs
set_option linter.unusedSimpArgs false
set_option linter.unusedVariables false
set_option maxRecDepth 8000

theorem encL_perm (m : List Q) : (encL false m).permP := by
  refine ⟨rfl, ?_⟩
  induction m with
  | nil => trivial
  | cons q m ih => exact ⟨⟨trivial, trivial, trivial, trivial, trivial, trivial, trivial, trivial⟩, ih⟩
theorem tup_perm (m : List Q) (e : Int) : V.permP (.tup [.d (encL false m), .d (I e)]) := by
  intro v hv
  rcases List.mem_cons.1 hv with rfl | hv
  · exact encL_perm m
  · rcases List.mem_cons.1 hv with rfl | hv
    · trivial
    · cases hv
theorem nil_perm (e : Int) : V.permP (.tup [.nil 7, .d (I e)]) := by
  intro v hv
  rcases List.mem_cons.1 hv with rfl | hv
  · trivial
  · rcases List.mem_cons.1 hv with rfl | hv
    · trivial
    · cases hv
theorem doneP_ok (m : List Q) : (doneP m).data = true ∧ (doneP m).permP := by
  unfold doneP; split
  · exact ⟨rfl, tup_perm _ _⟩
  · exact ⟨rfl, nil_perm _⟩
theorem addP_ok (l : List Q) (q : Q) : (addP l q).data = true ∧ (addP l q).permP := by
  unfold addP; split
  · exact doneP_ok _
  · exact ⟨rfl, nil_perm _⟩
theorem setP_ok (l : List Q) (q : Q) : (setP l q).data = true ∧ (setP l q).permP := by
  unfold setP; split
  · exact doneP_ok _
  · exact ⟨rfl, nil_perm _⟩
theorem dropP_ok (l : List Q) (id : Int) : (dropP l id).data = true ∧ (dropP l id).permP := by
  unfold dropP; split
  · exact ⟨rfl, tup_perm _ _⟩
  · exact ⟨rfl, nil_perm _⟩
theorem resP (m : List Q) (hm : check m = 0 → m.length ≤ maxLen) : (∃ x, x.length ≤ maxLen ∧ doneP m = .tup [.d (encL false x), .d (I 0)]) ∨ ∃ e, doneP m = .tup [.nil 7, .d (I e)] := by
  unfold doneP; split
  · rename_i h; exact .inl ⟨m, hm h, rfl⟩
  · exact .inr ⟨_, rfl⟩
theorem check_max {m : List Q} (h : check m = 0) : m.length ≤ maxLen := by
  have := check_len h
  have h2 : 64 ≤ maxLen := by decide
  omega
theorem addP_res (l : List Q) (q : Q) : (∃ x, x.length ≤ maxLen ∧ addP l q = .tup [.d (encL false x), .d (I 0)]) ∨ ∃ e, addP l q = .tup [.nil 7, .d (I e)] := by
  unfold addP; split
  · exact resP _ check_max
  · exact .inr ⟨_, rfl⟩
theorem setP_res (l : List Q) (q : Q) : (∃ x, x.length ≤ maxLen ∧ setP l q = .tup [.d (encL false x), .d (I 0)]) ∨ ∃ e, setP l q = .tup [.nil 7, .d (I e)] := by
  unfold setP; split
  · exact resP _ check_max
  · exact .inr ⟨_, rfl⟩
theorem dropP_res (l : List Q) (id : Int) (hl : l.length ≤ maxLen) : (∃ x, x.length ≤ maxLen ∧ dropP l id = .tup [.d (encL false x), .d (I 0)]) ∨ ∃ e, dropP l id = .tup [.nil 7, .d (I e)] := by
  unfold dropP; split
  · exact .inl ⟨_, Nat.le_trans (List.length_filter_le _ _) hl, rfl⟩
  · exact .inr ⟨_, rfl⟩
set_option maxHeartbeats 4000000 in
theorem edits_spec (l : List Q) (q : Q) (id : Int) (hl : l.length ≤ maxLen) (hr : l.length * 56 ≤ reachBytes) : PCall Try.prog 6 [encL false l, encQ q, I id] (.d (.bool true)) := by
  have hl2 : (l.length + 1) * 56 ≤ 140737488355328 := by
    have : reachBytes = 140737488351232 := rfl
    omega
  refine pcallS (fn := Try.f6) [] [] mixed (bodyOf Try.f6) [.tmp 6] Try.func6 rfl rfl (by decide) 97 rfl (by kernel_rfl) ?_
  simp -implicitDefEqProofs [↓gd_tt, ↓gd_ff, ↓gd_tf, ↓gd_ft, bodyOf, Try.f6, stripC, stripL, stripM, onsOf, upto, hintOf, freeOf, List.replicate]
  refine callK_pcall awake_spec rfl rfl ?_
  simp -implicitDefEqProofs [↓gd_tt, ↓gd_ff, ↓gd_tf, ↓gd_ft]
  refine twin_mem false l hl2 fun t cap hp' xs k0 k1 k2 k3 k4 => ?_
  have k5 : hp'[0]? = some (.var [.d (I q.Id), .d (I q.Par), .d (I q.Wt), .d (I q.QC), .d (I q.QM), .d (I q.MC), .d (I q.MM)]) := by
    have := congrArg (·[0]?) k4
    simpa [List.getElem?_take] using this
  have hlen : l.length ≤ cap := by omega
  have hlen2 : cap ≤ l.length + (xs.length + 1) := by omega
  have hx : ∀ d : D, lendL hp' [.ref t 7 0 l.length cap, .d d] = some [encL true l, d] := fun d => by
    have : List.take l.length (l.map encQ ++ encQ ⟨71, 0, 0, 0, 0, 0, 0⟩ :: xs) = l.map encQ := List.take_left' (by simp)
    simp [k1, hlen, hlen2]
  have hx1 : lendL hp' [.ref t 7 0 l.length cap] = some [encL true l] := by
    have : List.take l.length (l.map encQ ++ encQ ⟨71, 0, 0, 0, 0, 0, 0⟩ :: xs) = l.map encQ := List.take_left' (by simp)
    simp [k1, hlen, hlen2]
  simp -implicitDefEqProofs [↓gd_tt, ↓gd_ff, ↓gd_tf, ↓gd_ft, k5]
  refine callK_lend (qadd_spec true l q hl) (hx _) (addP_ok l q).1 (addP_ok l q).2 ?_
  rcases addP_res l q with ⟨ra, la, ea⟩ | ⟨ra, ea⟩
  all_goals
    rw [ea]
    simp -implicitDefEqProofs [↓gd_tt, ↓gd_ff, ↓gd_tf, ↓gd_ft, k5]
    refine callK_pcall (refAdd_spec false l q hl hr) rfl (addP_ok l q).1 ?_
    rw [show addV l q = addP l q from rfl, ea]
    simp -implicitDefEqProofs [↓gd_tt, ↓gd_ff, ↓gd_tf, ↓gd_ft, k5]
    refine callK_lend (qset_spec true l q hl) (hx _) (setP_ok l q).1 (setP_ok l q).2 ?_
    rcases setP_res l q with ⟨rb, lb, eb⟩ | ⟨rb, eb⟩
  all_goals
    rw [eb]
    simp -implicitDefEqProofs [↓gd_tt, ↓gd_ff, ↓gd_tf, ↓gd_ft, k5]
    refine callK_pcall (rset_spec false l q hl hr) rfl (setP_ok l q).1 ?_
    rw [show setV l q = setP l q from rfl, eb]
    simp -implicitDefEqProofs [↓gd_tt, ↓gd_ff, ↓gd_tf, ↓gd_ft, k5]
    refine callK_lend (qdrop_spec true l id hl) (hx _) (dropP_ok l id).1 (dropP_ok l id).2 ?_
    rcases dropP_res l id hl with ⟨rc, lc, ec⟩ | ⟨rc, ec⟩
  all_goals
    rw [ec]
    simp -implicitDefEqProofs [↓gd_tt, ↓gd_ff, ↓gd_tf, ↓gd_ft, k5]
    refine callK_pcall (refDrop_spec false l id hl hr) rfl (dropP_ok l id).1 ?_
    rw [show dropV l id = dropP l id from rfl, ec]
    simp -implicitDefEqProofs [↓gd_tt, ↓gd_ff, ↓gd_tf, ↓gd_ft, k5]
    refine callK_lend (qcheck_spec true l hl) hx1 rfl trivial ?_
    simp -implicitDefEqProofs [↓gd_tt, ↓gd_ff, ↓gd_tf, ↓gd_ft, k5]
    refine callK_pcall (refCheck_spec false l hl) rfl rfl ?_
    simp -implicitDefEqProofs [↓gd_tt, ↓gd_ff, ↓gd_tf, ↓gd_ft, k5]
    first | refine callK_pcall (same_spec false false ra ra la) rfl rfl ?_ | refine callK_pcall (same_spec false false [] [] (Nat.zero_le _)) rfl rfl ?_
    simp -implicitDefEqProofs [↓gd_tt, ↓gd_ff, ↓gd_tf, ↓gd_ft, k5]
    first | refine callK_pcall (same_spec false false rb rb lb) rfl rfl ?_ | refine callK_pcall (same_spec false false [] [] (Nat.zero_le _)) rfl rfl ?_
    simp -implicitDefEqProofs [↓gd_tt, ↓gd_ff, ↓gd_tf, ↓gd_ft, k5]
    first | refine callK_pcall (same_spec false false rc rc lc) rfl rfl ?_ | refine callK_pcall (same_spec false false [] [] (Nat.zero_le _)) rfl rfl ?_
    simp -implicitDefEqProofs [↓gd_tt, ↓gd_ff, ↓gd_tf, ↓gd_ft, k5]
    refine kept_mem false l hl2 k2 (by omega) k1 ?_
    simp -implicitDefEqProofs [↓gd_tt, ↓gd_ff, ↓gd_tf, ↓gd_ft, k5]
end Go.Idl
