/- The program's queues: what is wrong with a list. -/
import Derived.Test.YtdhifabhjlbjiaaQP
set_option linter.all false
namespace Go.Idl
open Go.Proofs
set_option linter.unusedSimpArgs false
set_option linter.unusedVariables false
set_option maxRecDepth 8000
variable (b : Bool)

theorem check1_spec (q : Q) : PCall Try.prog 117 [encQ q] (.d (.bool (!okQ q))) := by
  refine pcallS (fn := Try.f117) [] [] mixed (bodyOf Try.f117) [.tmp 2] Try.func117 rfl rfl (by decide) 22 rfl (by kernel_rfl) ?_
  simp -implicitDefEqProofs [↓gd_tt, ↓gd_ff, ↓gd_tf, ↓gd_ft, bodyOf, Try.f117, stripC, stripL, stripM, onsOf, upto, hintOf, freeOf, List.replicate]
  refine ⟨fun e1 => ⟨fun e2 => callK_pcall (vgood_spec _ _) rfl rfl ?_, fun e2 => by simp [okQ]; omega⟩, fun e1 => by simp [okQ]; omega⟩
  simp -implicitDefEqProofs [↓gd_tt, ↓gd_ff, ↓gd_tf, ↓gd_ft]
  refine ⟨fun e3 => callK_pcall (vgood_spec _ _) rfl rfl ?_, fun e3 => by simp [okQ, e3]⟩
  simp -implicitDefEqProofs [↓gd_tt, ↓gd_ff, ↓gd_tf, ↓gd_ft, okQ, e1, e2, e3]

theorem index_spec (g : FuncId) (l : List Q) (c : Q → Bool) (hb : hasBody Try.prog g = true) (hl : l.length ≤ maxLen) (hc : ∀ q ∈ l, PCall Try.prog g [encQ q] (.d (.bool (c q)))) :
    FCall Try.prog 187 [.d (encL b l), .fn (.func g) []] (.d (I (match l.findIdx? c with | some i => (i : Int) | none => -1))) := by
  refine fcallS (fn := Try.f187) [] [] mixed (bodyOf Try.f187) [.tmp 4] Try.func187 rfl rfl (by decide) 17 rfl (by kernel_rfl) ?_
  simp -implicitDefEqProofs [↓gd_tt, ↓gd_ff, ↓gd_tf, ↓gd_ft, bodyOf, Try.f187, stripC, stripL, stripM, onsOf, upto, hintOf, freeOf, List.replicate]
  refine loopA mixed [false, false, false, false, true, true, false, false, true, true, true, true, true, true, true, true, true, true, true] (fun (i : Nat) => [(8, .d (I i))]) (fun (i : Nat) => []) (fun (i : Nat) => i ≤ l.length ∧ ∀ j, j < i → ∀ h : j < l.length, c l[j] = false) (fun (i : Nat) => l.length - i) (0) (⟨Nat.zero_le _, by simp⟩) (by simp) ?_
  rintro i hx
  obtain ⟨hi, hp⟩ := hx
  rcases Nat.lt_or_eq_of_le hi with h | h
  · simp -implicitDefEqProofs [↓gd_tt, ↓gd_ff, ↓gd_tf, ↓gd_ft, h, hb]
    refine callK_pcall (hc l[i] (List.getElem_mem h)) rfl rfl ?_
    simp -implicitDefEqProofs [↓gd_tt, ↓gd_ff, ↓gd_tf, ↓gd_ft, wrap1 hl h]
    refine ⟨fun e => ?_, fun e => ⟨⟨by omega, fun j hj hjl => ?_⟩, by omega⟩⟩
    · have : l.findIdx? c = some i := List.findIdx?_eq_some_iff_getElem.2 ⟨h, e, fun j hj => by simp [hp j hj (by omega)]⟩
      rw [this]
    · rcases Nat.lt_or_eq_of_le (Nat.le_of_lt_succ hj) with k | rfl
      · exact hp j k hjl
      · exact e
  · simp -implicitDefEqProofs [↓gd_tt, ↓gd_ff, ↓gd_tf, ↓gd_ft, h]
    have : l.findIdx? c = none := List.findIdx?_eq_none_iff.2 fun x hx => by
      obtain ⟨j, hj, rfl⟩ := List.getElem_of_mem hx
      exact hp j (by omega) hj
    rw [this]

theorem contains_spec (g : FuncId) (l : List Q) (c : Q → Bool) (hb : hasBody Try.prog g = true) (hl : l.length ≤ maxLen) (hc : ∀ q ∈ l, PCall Try.prog g [encQ q] (.d (.bool (c q)))) :
    FCall Try.prog 120 [.d (encL b l), .fn (.func g) []] (.d (.bool (l.any c))) := by
  refine fcallS (fn := Try.f120) [] [] mixed (bodyOf Try.f120) [.tmp 4] Try.func120 rfl rfl (by decide) 7 rfl (by kernel_rfl) ?_
  simp -implicitDefEqProofs [↓gd_tt, ↓gd_ff, ↓gd_tf, ↓gd_ft, bodyOf, Try.f120, stripC, stripL, stripM, onsOf, upto, hintOf, freeOf, List.replicate]
  refine callK_fcall (index_spec b g l c hb hl hc) (by simp) (by simp) (by simp) (by simp) rfl ?_
  simp -implicitDefEqProofs [↓gd_tt, ↓gd_ff, ↓gd_tf, ↓gd_ft]
  cases e : l.findIdx? c with
  | some i =>
    simp
    obtain ⟨h, h1, _⟩ := List.findIdx?_eq_some_iff_getElem.1 e
    exact ⟨_, List.getElem_mem h, h1⟩
  | none => simp; exact List.findIdx?_eq_none_iff.1 e

theorem any_args (l : List Q) : l.any (fun q => !okQ q) = !argsF l := by
  induction l with
  | nil => rfl
  | cons q r ih => simp [argsF, ih]

theorem qcheck_spec (l : List Q) (hl : l.length ≤ maxLen) : PCall Try.prog 43 [encL b l] (.d (I (check l))) := by
  refine pcallS (fn := Try.f43) [] [] mixed (bodyOf Try.f43) [.tmp 2] Try.func43 rfl rfl (by decide) 19 rfl (by kernel_rfl) ?_
  simp -implicitDefEqProofs [↓gd_tt, ↓gd_ff, ↓gd_tf, ↓gd_ft, bodyOf, Try.f43, stripC, stripL, stripM, onsOf, upto, hintOf, freeOf, List.replicate]
  refine ⟨fun h => ?_, fun h => ?_⟩
  · have : 64 < l.length := by omega
    simp [check, this]
  have h64 : ¬ 64 < l.length := by omega
  refine callK_pcall (qform_spec b l (by omega)) rfl rfl ?_
  simp -implicitDefEqProofs [↓gd_tt, ↓gd_ff, ↓gd_tf, ↓gd_ft]
  refine ⟨fun hf => ?_, fun hf => ?_⟩
  · simp [check, h64, hf]
  refine callK_fcall (contains_spec b 117 l (fun q => !okQ q) (by simp) hl fun q _ => check1_spec q) (by simp) (by simp) (by simp) (by simp) rfl ?_
  rw [any_args]
  simp -implicitDefEqProofs [↓gd_tt, ↓gd_ff, ↓gd_tf, ↓gd_ft]
  refine ⟨fun ha => ?_, fun ha => callK_pcall (qmins_spec b l hl) rfl rfl ?_⟩
  · simp [check, h64, hf, ha]
  simp -implicitDefEqProofs [↓gd_tt, ↓gd_ff, ↓gd_tf, ↓gd_ft]
  simp [check, h64, hf, ha]
end Go.Idl
