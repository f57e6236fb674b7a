/- The document's answer for queues, what it computes: contracts of the packages furlongref05, furlongref02, furlongref01. -/
import Derived.Test.YtdhifabhjlbjiaaQF
import Derived.Test.YtdhifabhjlbjiaaMQall
set_option linter.all false
namespace Go.Idl
open Go.Proofs
set_option linter.unusedSimpArgs false
set_option linter.unusedVariables false
set_option maxRecDepth 8000

variable (b : Bool)
theorem place_spec (l : List Q) (id : Int) (hl : l.length ≤ maxLen) : PCall Try.prog 113 [encL b l, I id] (.d (I (place l id))) := by
  refine pcallS (fn := Try.f113) [] [] mixed (bodyOf Try.f113) [.tmp 4] Try.func113 rfl rfl (by decide) 18 rfl (by kernel_rfl) ?_
  simp -implicitDefEqProofs [↓gd_tt, ↓gd_ff, ↓gd_tf, ↓gd_ft, bodyOf, Try.f113, stripC, stripL, stripM, onsOf, upto, hintOf, freeOf, List.replicate]
  refine loopA mixed [false, false, false, false, true, true, true, false, false, true, true, true, true, true, true, true, true, true, true, true] (fun (i : Nat) => [(9, .d (I i))]) (fun (i : Nat) => []) (fun (i : Nat) => i ≤ l.length ∧ placeF id (l.drop i) i = place l id) (fun (i : Nat) => l.length - i) (0) (⟨Nat.zero_le _, rfl⟩) (by simp) ?_
  rintro i hx
  obtain ⟨hi, hp⟩ := hx
  rcases Nat.lt_or_eq_of_le hi with h | h
  · rw [List.drop_eq_getElem_cons h, placeF] at hp
    simp -implicitDefEqProofs [↓gd_tt, ↓gd_ff, ↓gd_tf, ↓gd_ft, h, encQ, wrap1 hl h]
    refine ⟨fun e => by rw [if_pos e] at hp; exact hp, fun e => ⟨⟨by omega, by rw [if_neg e] at hp; exact hp⟩, by omega⟩⟩
  · simp -implicitDefEqProofs [↓gd_tt, ↓gd_ff, ↓gd_tf, ↓gd_ft, h]
    rw [h, List.drop_length, placeF] at hp; exact hp

end Go.Idl
