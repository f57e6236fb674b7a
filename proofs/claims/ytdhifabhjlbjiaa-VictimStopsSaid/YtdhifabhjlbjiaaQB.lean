/- The document's answer for queues, further: lists that are made. -/
import Derived.Test.YtdhifabhjlbjiaaQA
import Derived.Test.YtdhifabhjlbjiaaMQall
set_option linter.all false
namespace Go.Idl
open Go.Proofs
set_option linter.unusedSimpArgs false
set_option linter.unusedVariables false
set_option maxRecDepth 8000
set_option maxHeartbeats 4000000
variable (b : Bool)

/-- a queue's sons -/
def childF (id : Int) : List Q → List Int → List Int
  | [], m => m
  | q :: r, m => if q.Par = id then childF id r (m ++ [q.Id]) else childF id r m
theorem childF_eq (id : Int) : ∀ (l : List Q) (m : List Int), childF id l m = m ++ sonIds l id
  | [], m => by simp [childF, sonIds]
  | q :: r, m => by
    unfold childF
    rw [childF_eq id r, childF_eq id r]
    by_cases h : q.Par = id <;> simp [sonIds, h]
theorem rchildren_spec (l : List Q) (id : Int) (hl : l.length ≤ maxLen) (hl2 : l.length * 56 ≤ reachBytes) : PCall Try.prog 116 [encL b l, I id] (.d (encI false (sonIds l id))) := by
  refine pcallS (fn := Try.f116) [] [] mixed (bodyOf Try.f116) [.tmp 4] Try.func116 rfl rfl (by decide) 23 rfl (by kernel_rfl) ?_
  simp -implicitDefEqProofs [↓gd_tt, ↓gd_ff, ↓gd_tf, ↓gd_ft, bodyOf, Try.f116, stripC, stripL, stripM, onsOf, upto, hintOf, freeOf, List.replicate]
  refine loopA mixed [false, false, false, false, false, true, false, true, false, false, true, true, true, true, true, true, true, true, true, true, true, true, true, true] (fun (j : Nat × List Int) => [(5, .own 1 (j.2.map I)), (10, .d (I j.1))]) (fun (j : Nat × List Int) => []) (fun (j : Nat × List Int) => j.1 ≤ l.length ∧ j.2.length ≤ j.1 ∧ childF id (l.drop j.1) j.2 = sonIds l id) (fun (j : Nat × List Int) => l.length - j.1) ((0, [])) (⟨Nat.zero_le _, Nat.le_refl _, by rw [childF_eq]; simp⟩) (by simp) ?_
  rintro j hx
  obtain ⟨i, m⟩ := j
  obtain ⟨hi, hm, hp⟩ := hx
  simp only at hi hm hp ⊢
  rcases Nat.lt_or_eq_of_le hi with h | h
  · rw [List.drop_eq_getElem_cons h, childF] at hp
    simp -implicitDefEqProofs [↓gd_tt, ↓gd_ff, ↓gd_tf, ↓gd_ft, h, wrap1 hl h]
    have hb : (m.length + 1) * 8 ≤ 140737488355328 := by have : reachBytes = 140737488351232 := rfl; omega
    refine ⟨fun e => ⟨hb, i + 1, m ++ [l[i].Id], ⟨by omega, by simp; omega, by rw [if_pos e] at hp; exact hp⟩, by omega, by simp, rfl⟩, fun e => ⟨i + 1, m, ⟨by omega, by omega, by rw [if_neg e] at hp; exact hp⟩, by omega, rfl, rfl⟩⟩
  · simp -implicitDefEqProofs [↓gd_tt, ↓gd_ff, ↓gd_tf, ↓gd_ft, h]
    rw [h, List.drop_length, childF] at hp; rw [hp]

theorem rleaf_spec (l : List Q) (id : Int) (hl : l.length ≤ maxLen) (hl2 : l.length * 56 ≤ reachBytes) : PCall Try.prog 125 [encL b l, I id] (.d (.bool (has l id && decide (sonIds l id = [])))) := by
  refine pcallS (fn := Try.f125) [] [] mixed (bodyOf Try.f125) [.tmp 4] Try.func125 rfl rfl (by decide) 13 rfl (by kernel_rfl) ?_
  simp -implicitDefEqProofs [↓gd_tt, ↓gd_ff, ↓gd_tf, ↓gd_ft, bodyOf, Try.f125, stripC, stripL, stripM, onsOf, upto, hintOf, freeOf, List.replicate]
  refine callK_pcall (has_spec b l id hl) rfl rfl ?_
  simp -implicitDefEqProofs [↓gd_tt, ↓gd_ff, ↓gd_tf, ↓gd_ft]
  refine ⟨fun h => callK_pcall (rchildren_spec b l id hl hl2) rfl rfl ?_, fun h => by simp [h]⟩
  simp -implicitDefEqProofs [↓gd_tt, ↓gd_ff, ↓gd_tf, ↓gd_ft, h]

def there (l : List Q) (id : Int) : Int := if check l = 0 ∧ has l id = false then 8 else check l
def leafB (l : List Q) (id : Int) : Bool := has l id && decide (sonIds l id = [])
def leaves (l : List Q) : List Int := (l.filter fun q => decide (check l = 0) && leafB l q.Id).map (·.Id)
end Go.Idl
