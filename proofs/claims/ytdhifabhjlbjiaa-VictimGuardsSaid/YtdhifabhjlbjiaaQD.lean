/- The document's answer for queues: ways to the root, what is below. -/
import Derived.Test.YtdhifabhjlbjiaaQB
import Derived.Test.YtdhifabhjlbjiaaMQall
set_option linter.all false
namespace Go.Idl
open Go.Proofs
set_option linter.unusedSimpArgs false
set_option linter.unusedVariables false
set_option maxRecDepth 8000
set_option maxHeartbeats 1000000
variable (b : Bool)

theorem nhas_spec (l : List Int) (n : Int) (hl : l.length ≤ maxLen) : PCall Try.prog 52 [encI b l, I n] (.d (.bool (decide (n ∈ l)))) := by
  refine pcallS (fn := Try.f52) [] [] mixed (bodyOf Try.f52) [.tmp 4] Try.func52 rfl rfl (by decide) 15 rfl (by kernel_rfl) ?_
  simp -implicitDefEqProofs [↓gd_tt, ↓gd_ff, ↓gd_tf, ↓gd_ft, bodyOf, Try.f52, stripC, stripL, stripM, onsOf, upto, hintOf, freeOf, List.replicate]
  refine loopA mixed [false, false, false, false, true, false, true, false, false, true, true, true, true, true, true, true, true] (fun (i : Nat) => [(9, .d (I i))]) (fun (i : Nat) => []) (fun (i : Nat) => i ≤ l.length ∧ ∀ j (h : j < l.length), j < i → l[j] ≠ n) (fun (i : Nat) => l.length - i) (0) (⟨Nat.zero_le _, fun j _ h => by omega⟩) (by simp) ?_
  rintro i hx
  obtain ⟨hi, hx⟩ := hx
  rcases Nat.lt_or_eq_of_le hi with h | h
  · simp -implicitDefEqProofs [↓gd_tt, ↓gd_ff, ↓gd_tf, ↓gd_ft, h, wrap1 hl h]
    refine ⟨fun e => by rw [← e]; exact List.getElem_mem h, fun e => ⟨⟨by omega, fun j hj hji => ?_⟩, by omega⟩⟩
    rcases Nat.lt_or_eq_of_le (Nat.le_of_lt_succ hji) with k | rfl
    · exact hx j hj k
    · exact e
  · simp -implicitDefEqProofs [↓gd_tt, ↓gd_ff, ↓gd_tf, ↓gd_ft, h]
    intro hm
    obtain ⟨j, hj, e⟩ := List.getElem_of_mem hm
    exact hx j hj (by omega) e

end Go.Idl
