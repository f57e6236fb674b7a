/- The statement QueueBack: what it computes. -/
import Derived.Test.YtdhifabhjlbjiaaQX
import Derived.Test.YtdhifabhjlbjiaaMQall
set_option linter.all false
namespace Go.Idl
open Go.Proofs
set_option linter.unusedSimpArgs false
set_option linter.unusedVariables false
set_option maxRecDepth 8000

theorem addP_cases (l : List Q) (q : Q) : (addE l q = 0 ∧ check (ins l q) = 0 ∧ addP l q = .tup [.d (encL false (ins l q)), .d (I 0)]) ∨ ∃ e, e ≠ 0 ∧ addP l q = .tup [.nil 7, .d (I e)] := by
  unfold addP doneP
  by_cases h : addE l q = 0
  · by_cases h2 : check (ins l q) = 0
    · exact .inl ⟨h, h2, by simp [h, h2]⟩
    · exact .inr ⟨_, h2, by simp [h, h2]⟩
  · exact .inr ⟨_, h, by simp [h]⟩
theorem setP_cases (l : List Q) (q : Q) : (setE l q = 0 ∧ check (setL l q) = 0 ∧ setP l q = .tup [.d (encL false (setL l q)), .d (I 0)]) ∨ ∃ e, e ≠ 0 ∧ setP l q = .tup [.nil 7, .d (I e)] := by
  unfold setP doneP
  by_cases h : setE l q = 0
  · by_cases h2 : check (setL l q) = 0
    · exact .inl ⟨h, h2, by simp [h, h2]⟩
    · exact .inr ⟨_, h2, by simp [h, h2]⟩
  · exact .inr ⟨_, h, by simp [h]⟩
set_option maxHeartbeats 4000000 in
theorem back_spec (l : List Q) (q : Q) (hl : l.length ≤ maxLen) (hr : l.length * 56 ≤ reachBytes) : PCall Try.prog 7 [encL false l, encQ q] (.d (.bool true)) := by
  refine pcallS (fn := Try.f7) [] [] mixed (bodyOf Try.f7) [.tmp 4] Try.func7 rfl rfl (by decide) 103 rfl (by kernel_rfl) ?_
  simp -implicitDefEqProofs [↓gd_tt, ↓gd_ff, ↓gd_tf, ↓gd_ft, bodyOf, Try.f7, stripC, stripL, stripM, onsOf, upto, hintOf, freeOf, List.replicate]
  refine callK_pcall awake_spec rfl rfl ?_
  simp -implicitDefEqProofs [↓gd_tt, ↓gd_ff, ↓gd_tf, ↓gd_ft]
  refine callK_pcall (qadd_spec false l q hl) rfl (addP_ok l q).1 ?_
  have hw : IntKind.i64.wrap ((l.length : Int) + 1) = (l.length : Int) + 1 := by
    have : reachBytes = 140737488351232 := rfl
    rw [wrap_i64 (by omega) (by omega)]
  rcases addP_cases l q with ⟨a1, a2, a3⟩ | ⟨e, a1, a3⟩
  · obtain ⟨b1, b2, b3⟩ := back_add a1 a2
    have hm : (ins l q).length ≤ maxLen := check_max a2
    rw [a3]
    simp -implicitDefEqProofs [↓gd_tt, ↓gd_ff, ↓gd_tf, ↓gd_ft]
    refine callK_pcall (qdrop_spec false (ins l q) q.Id hm) rfl (dropP_ok _ _).1 ?_
    rw [show dropP (ins l q) q.Id = .tup [.d (encL false l), .d (I 0)] by simp [dropP, b1, b2]]
    simp -implicitDefEqProofs [↓gd_tt, ↓gd_ff, ↓gd_tf, ↓gd_ft]
    refine callK_pcall (same_spec false false l l hl) rfl rfl ?_
    simp -implicitDefEqProofs [↓gd_tt, ↓gd_ff, ↓gd_tf, ↓gd_ft]
    refine callK_pcall (qcheck_spec false (ins l q) hm) rfl rfl ?_
    simp -implicitDefEqProofs [↓gd_tt, ↓gd_ff, ↓gd_tf, ↓gd_ft, a2, hw, b3]
    refine callK_pcall (qset_spec false l q hl) rfl (setP_ok l q).1 ?_
    rcases setP_cases l q with ⟨c1, c2, c3⟩ | ⟨f, c1, c3⟩
    · rw [c3]
      simp -implicitDefEqProofs [↓gd_tt, ↓gd_ff, ↓gd_tf, ↓gd_ft]
      have hlc : (setL l q).length = l.length := by simp [setL]
      obtain ⟨s1, s2, s3⟩ := setE_zero c1
      have hrs := check_rises s1
      refine loopA mixed [false, false, false, false, true, false, false, false, false, false, true, true, true, false, false, false, false, false, false, false, false, false, false, false, false, false, false, false, false, false, false, false, false, false, false, false, false, false, false, false, false, false, false, false, false, false, false, false, false, false, false, false, false, false, false, false, false, false, false, false, false, false, false, false, true, true, true, true, true, true, true, true, true, true, true, true, true, true, true, true, true, true, true, true, true, true, true, true, true, true, true, true, true, true, true, true, true, true, true, true, true, true, true, true, true] (fun (i : Nat) => [(64, .d (I i))]) (fun (i : Nat) => [.var [.d (I q.Id), .d (I q.Par), .d (I q.Wt), .d (I q.QC), .d (I q.QM), .d (I q.MC), .d (I q.MM)]]) (fun (i : Nat) => i ≤ l.length ∧ ∀ j (h : j < l.length), j < i → l[j].Id ≠ q.Id) (fun (i : Nat) => l.length - i) (0) (⟨Nat.zero_le _, fun j _ h => by omega⟩) (by simp) ?_
      rintro i hx
      obtain ⟨hi, hx⟩ := hx
      rcases Nat.lt_or_eq_of_le hi with h | h
      · simp -implicitDefEqProofs [↓gd_tt, ↓gd_ff, ↓gd_tf, ↓gd_ft, h, wrap1 hl h]
        refine ⟨fun e => ?_, fun e => ⟨⟨by omega, fun j hj hji => ?_⟩, by omega⟩⟩
        · obtain ⟨d1, d2, d3⟩ := back_set c1 c2 h e
          refine callK_pcall (qset_spec false (setL l q) l[i] (by omega)) rfl (setP_ok _ _).1 ?_
          rw [show setP (setL l q) l[i] = .tup [.d (encL false l), .d (I 0)] by simp [setP, doneP, d1, d2, s1]]
          have h' : i < (setL l q).length := by omega
          have e2 : (setL l q)[i] = q := by simp [d3]
          simp -implicitDefEqProofs [↓gd_tt, ↓gd_ff, ↓gd_tf, ↓gd_ft, h]
          refine free_pcall (same_spec false false l l hl) rfl rfl ?_
          simp -implicitDefEqProofs [↓gd_tt, ↓gd_ff, ↓gd_tf, ↓gd_ft, h]
          refine free_pcall (qcheck_spec false (setL l q) (by omega)) rfl rfl ?_
          simp -implicitDefEqProofs [↓gd_tt, ↓gd_ff, ↓gd_tf, ↓gd_ft, h, h', hlc, c2, eqQ, e2]
        · rcases Nat.lt_or_eq_of_le (Nat.le_of_lt_succ hji) with k | rfl
          · exact hx j hj k
          · exact e
      · exfalso
        rw [has_mem] at s2
        obtain ⟨x, hx2, e⟩ := s2
        obtain ⟨j, hj, rfl⟩ := List.getElem_of_mem hx2
        exact hx j hj (by omega) e
    · rw [c3]
      simp -implicitDefEqProofs [↓gd_tt, ↓gd_ff, ↓gd_tf, ↓gd_ft, c1]
  · rw [a3]
    simp -implicitDefEqProofs [↓gd_tt, ↓gd_ff, ↓gd_tf, ↓gd_ft, a1]
    refine callK_pcall (qset_spec false l q hl) rfl (setP_ok l q).1 ?_
    rcases setP_cases l q with ⟨c1, c2, c3⟩ | ⟨f, c1, c3⟩
    · rw [c3]
      simp -implicitDefEqProofs [↓gd_tt, ↓gd_ff, ↓gd_tf, ↓gd_ft]
      have hlc : (setL l q).length = l.length := by simp [setL]
      obtain ⟨s1, s2, s3⟩ := setE_zero c1
      have hrs := check_rises s1
      refine loopA mixed [false, false, false, false, true, false, false, false, false, false, true, true, true, false, false, false, false, false, false, false, false, false, false, false, false, false, false, false, false, false, false, false, false, false, false, false, false, false, false, false, false, false, false, false, false, false, false, false, false, false, false, false, false, false, false, false, false, false, false, false, false, false, false, false, true, true, true, true, true, true, true, true, true, true, true, true, true, true, true, true, true, true, true, true, true, true, true, true, true, true, true, true, true, true, true, true, true, true, true, true, true, true, true, true, true] (fun (i : Nat) => [(64, .d (I i))]) (fun (i : Nat) => [.var [.d (I q.Id), .d (I q.Par), .d (I q.Wt), .d (I q.QC), .d (I q.QM), .d (I q.MC), .d (I q.MM)]]) (fun (i : Nat) => i ≤ l.length ∧ ∀ j (h : j < l.length), j < i → l[j].Id ≠ q.Id) (fun (i : Nat) => l.length - i) (0) (⟨Nat.zero_le _, fun j _ h => by omega⟩) (by simp) ?_
      rintro i hx
      obtain ⟨hi, hx⟩ := hx
      rcases Nat.lt_or_eq_of_le hi with h | h
      · simp -implicitDefEqProofs [↓gd_tt, ↓gd_ff, ↓gd_tf, ↓gd_ft, h, wrap1 hl h]
        refine ⟨fun e => ?_, fun e => ⟨⟨by omega, fun j hj hji => ?_⟩, by omega⟩⟩
        · obtain ⟨d1, d2, d3⟩ := back_set c1 c2 h e
          refine callK_pcall (qset_spec false (setL l q) l[i] (by omega)) rfl (setP_ok _ _).1 ?_
          rw [show setP (setL l q) l[i] = .tup [.d (encL false l), .d (I 0)] by simp [setP, doneP, d1, d2, s1]]
          have h' : i < (setL l q).length := by omega
          have e2 : (setL l q)[i] = q := by simp [d3]
          simp -implicitDefEqProofs [↓gd_tt, ↓gd_ff, ↓gd_tf, ↓gd_ft, h]
          refine free_pcall (same_spec false false l l hl) rfl rfl ?_
          simp -implicitDefEqProofs [↓gd_tt, ↓gd_ff, ↓gd_tf, ↓gd_ft, h]
          refine free_pcall (qcheck_spec false (setL l q) (by omega)) rfl rfl ?_
          simp -implicitDefEqProofs [↓gd_tt, ↓gd_ff, ↓gd_tf, ↓gd_ft, h, h', hlc, c2, eqQ, e2]
        · rcases Nat.lt_or_eq_of_le (Nat.le_of_lt_succ hji) with k | rfl
          · exact hx j hj k
          · exact e
      · exfalso
        rw [has_mem] at s2
        obtain ⟨x, hx2, e⟩ := s2
        obtain ⟨j, hj, rfl⟩ := List.getElem_of_mem hx2
        exact hx j hj (by omega) e
    · rw [c3]
      simp -implicitDefEqProofs [↓gd_tt, ↓gd_ff, ↓gd_tf, ↓gd_ft, c1]
end Go.Idl
