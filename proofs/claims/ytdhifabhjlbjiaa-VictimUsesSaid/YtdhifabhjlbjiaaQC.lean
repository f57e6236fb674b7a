/- The document's answer for queues: Add. -/
import Derived.Test.YtdhifabhjlbjiaaQB
set_option linter.all false
namespace Go.Idl
open Go.Proofs
set_option linter.unusedSimpArgs false
set_option linter.unusedVariables false
set_option maxRecDepth 8000
set_option maxHeartbeats 1000000
variable (b : Bool)

def addV (l : List Q) (q : Q) : V := if addE l q = 0 then doneV' (ins l q) else .tup [.nil 7, .d (I (addE l q))]
theorem refAdd_spec (l : List Q) (q : Q) (hl : l.length ≤ maxLen) (hl2 : l.length * 56 ≤ reachBytes) : PCall Try.prog 36 [encL b l, encQ q] (addV l q) := by
  refine pcallS (fn := Try.f36) [] [] mixed (bodyOf Try.f36) [.tmp 4, .tmp 5] Try.func36 rfl rfl (by decide) 66 rfl (by kernel_rfl) ?_
  simp -implicitDefEqProofs [↓gd_tt, ↓gd_ff, ↓gd_tf, ↓gd_ft, bodyOf, Try.f36, stripC, stripL, stripM, onsOf, upto, hintOf, freeOf, List.replicate]
  refine callK_pcall (refCheck_spec b l hl) rfl rfl ?_
  simp -implicitDefEqProofs [↓gd_tt, ↓gd_ff, ↓gd_tf, ↓gd_ft]
  by_cases h : check l = 0
  case neg =>
    have hE : addE l q = check l := by simp [addE, h]
    simp -implicitDefEqProofs [↓gd_tt, ↓gd_ff, ↓gd_tf, ↓gd_ft, h, addV, hE]
  have h64 := check_len h
  simp -implicitDefEqProofs [↓gd_tt, ↓gd_ff, ↓gd_tf, ↓gd_ft, h]
  refine callK_pcall (has_spec b l q.Id hl) rfl rfl ?_
  simp -implicitDefEqProofs [↓gd_tt, ↓gd_ff, ↓gd_tf, ↓gd_ft, h]
  refine ⟨fun h2 => by simp [addV, addE, h, h2], fun h2 => ⟨fun h3 => ?_, fun h3 => callK_pcall (has_spec b l q.Par hl) rfl rfl ?_⟩⟩
  · have h6 : 64 ≤ l.length := by omega
    simp [addV, addE, h, h2, h6]
  have h6 : ¬ 64 ≤ l.length := by omega
  simp -implicitDefEqProofs [↓gd_tt, ↓gd_ff, ↓gd_tf, ↓gd_ft, h]
  refine ⟨fun h7 => by simp [addV, addE, h, h2, h6, h7], fun h7 => ?_⟩
  have hE : addE l q = 0 := by simp [addE, h, h2, h6, h7]
  have hfin : addF q l [] false = ins l q := addF_ins h2
  refine loopA mixed [false, false, false, false, false, false, false, true, true, false, true, false, false, false, false, false, false, false, false, false, false, false, false, false, false, false, false, false, false, false, false, false, false, false, false, false, true, true, true, true, true, true, true, true, true, true, true, true, true, true, true, true, true, true, true, true, true, true] (fun (j : Nat × List Q × Bool) => [(7, .own 7 (j.2.1.map encQ)), (8, .d (.bool j.2.2)), (36, .d (I j.1))]) (fun (j : Nat × List Q × Bool) => [.var [.d (I q.Id), .d (I q.Par), .d (I q.Wt), .d (I q.QC), .d (I q.QM), .d (I q.MC), .d (I q.MM)]]) (fun (j : Nat × List Q × Bool) => j.1 ≤ l.length ∧ j.2.1.length ≤ j.1 + (if j.2.2 then 1 else 0) ∧ addF q (l.drop j.1) j.2.1 j.2.2 = ins l q) (fun (j : Nat × List Q × Bool) => l.length - j.1) ((0, [], false)) (⟨Nat.zero_le _, by simp, hfin⟩) (by simp) ?_
  rintro j hx
  obtain ⟨i, m, put⟩ := j
  obtain ⟨hi, hm, hp⟩ := hx
  simp only at hi hm hp ⊢
  rcases Nat.lt_or_eq_of_le hi with k | k
  · rw [List.drop_eq_getElem_cons k, addF] at hp
    have hw1 : IntKind.i64.wrap ((i : Int) + 1) = ((i + 1 : Nat) : Int) := wrap1 hl k
    cases put
    · simp only [Bool.false_eq_true, if_false, Nat.add_zero] at hm
      have hb : (m.length + 1) * 56 ≤ 140737488355328 := Nat.le_trans (Nat.mul_le_mul_right 56 (show m.length + 1 ≤ 66 by clear hp hfin; omega)) (by decide)
      have hb2 : (m.length + 1 + 1) * 56 ≤ 140737488355328 := Nat.le_trans (Nat.mul_le_mul_right 56 (show m.length + 1 + 1 ≤ 66 by clear hp hfin; omega)) (by decide)
      simp -implicitDefEqProofs [↓gd_tt, ↓gd_ff, ↓gd_tf, ↓gd_ft, k, wrap1 hl k]
      refine ⟨fun e => ⟨hb, hb2, i + 1, m ++ [q] ++ [l[i]], ⟨by omega, by simp; omega, by rw [if_pos ⟨rfl, e⟩] at hp; exact hp⟩, by omega, by simp, rfl⟩,
        fun e => ⟨hb, i + 1, m ++ [l[i]], ⟨by omega, by simp; omega, by rw [if_neg (by simp; omega)] at hp; exact hp⟩, by omega, by simp, rfl⟩⟩
    · simp only [if_true] at hm
      have hb : (m.length + 1) * 56 ≤ 140737488355328 := Nat.le_trans (Nat.mul_le_mul_right 56 (show m.length + 1 ≤ 66 by clear hp hfin; omega)) (by decide)
      simp -implicitDefEqProofs [↓gd_tt, ↓gd_ff, ↓gd_tf, ↓gd_ft, k, wrap1 hl k]
      exact ⟨hb, i + 1, m ++ [l[i]], ⟨by omega, by simp; omega, by rw [if_neg (by simp)] at hp; exact hp⟩, by omega, by simp, rfl⟩
  · rw [k, List.drop_length, addF] at hp
    have hmx : 66 ≤ maxLen := by decide
    cases put
    · simp only [Bool.false_eq_true, if_false, Nat.add_zero] at hm
      simp only [if_true] at hp
      simp -implicitDefEqProofs [↓gd_tt, ↓gd_ff, ↓gd_tf, ↓gd_ft, k]
      refine ⟨by omega, callK_pcall (done_spec false (m ++ [q]) (by simp; omega)) (by simp) (doneV_data false (m ++ [q])) ?_⟩
      rw [hp]
      have hv : addV l q = doneV' (ins l q) := by simp [addV, hE]
      rw [hv]
      by_cases hc : check (ins l q) = 0 <;> simp -implicitDefEqProofs [↓gd_tt, ↓gd_ff, ↓gd_tf, ↓gd_ft, doneV, doneV', hc]
    · simp only [if_true] at hm
      simp only [Bool.true_eq_false, if_false] at hp
      simp -implicitDefEqProofs [↓gd_tt, ↓gd_ff, ↓gd_tf, ↓gd_ft, k]
      refine callK_pcall (done_spec false m (by omega)) (by simp) (doneV_data false m) ?_
      rw [hp]
      have hv : addV l q = doneV' (ins l q) := by simp [addV, hE]
      rw [hv]
      by_cases hc : check (ins l q) = 0 <;> simp -implicitDefEqProofs [↓gd_tt, ↓gd_ff, ↓gd_tf, ↓gd_ft, doneV, doneV', hc]
end Go.Idl
