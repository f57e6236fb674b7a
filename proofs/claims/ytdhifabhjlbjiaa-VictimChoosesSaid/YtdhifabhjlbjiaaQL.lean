/- What the statements on queues themselves compute: same, Ints, Has. -/
import Derived.Test.YtdhifabhjlbjiaaQC
set_option linter.all false
namespace Go.Idl
open Go.Proofs
set_option linter.unusedSimpArgs false
set_option linter.unusedVariables false
set_option maxRecDepth 8000
set_option maxHeartbeats 1000000
variable (b c : Bool)

theorem take_one {α : Type} {l m : List α} {i : Nat} (h : i < l.length) (h' : i < m.length) (hp : l.take i = m.take i) (e : l[i] = m[i]) : l.take (i + 1) = m.take (i + 1) := by
  rw [List.take_add_one, List.take_add_one, hp, List.getElem?_eq_getElem h, List.getElem?_eq_getElem h', e]
theorem ints_spec (l m : List Int) (hl : l.length ≤ maxLen) : PCall Try.prog 40 [encI b l, encI c m] (.d (.bool (decide (l = m)))) := by
  refine pcallS (fn := Try.f40) [] [] mixed (bodyOf Try.f40) [.tmp 4] Try.func40 rfl rfl (by decide) 24 rfl (by kernel_rfl) ?_
  simp -implicitDefEqProofs [↓gd_tt, ↓gd_ff, ↓gd_tf, ↓gd_ft, bodyOf, Try.f40, stripC, stripL, stripM, onsOf, upto, hintOf, freeOf, List.replicate]
  refine ⟨fun h => by rintro rfl; exact h rfl, fun h => ?_⟩
  have hlm : l.length = m.length := by omega
  refine loopA mixed [false, false, false, false, true, true, false, false, false, false, false, false, false, true, true, true, true, true, true, true, true, true, true, true, true, true] (fun (i : Nat) => [(13, .d (I i))]) (fun (i : Nat) => []) (fun (i : Nat) => i ≤ l.length ∧ l.take i = m.take i) (fun (i : Nat) => l.length - i) (0) (⟨Nat.zero_le _, rfl⟩) (by simp) ?_
  rintro i hx
  obtain ⟨hi, hp⟩ := hx
  rcases Nat.lt_or_eq_of_le hi with h | h
  · have h' : i < m.length := by omega
    simp -implicitDefEqProofs [↓gd_tt, ↓gd_ff, ↓gd_tf, ↓gd_ft, h, h', wrap1 hl h]
    refine ⟨fun e => by rintro rfl; exact e rfl, fun e => ⟨⟨by omega, take_one h h' hp e⟩, by omega⟩⟩
  · simp -implicitDefEqProofs [↓gd_tt, ↓gd_ff, ↓gd_tf, ↓gd_ft, h]
    rw [h, List.take_length, hlm, List.take_length] at hp
    exact hp

end Go.Idl
