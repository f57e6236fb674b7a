/- The document's answer for queues: ways to the root, what is below. -/
import Derived.Test.YtdhifabhjlbjiaaQB
import Derived.Test.YtdhifabhjlbjiaaMQall
set_option linter.all false
namespace Go.Idl
open Go.Proofs
set_option linter.unusedSimpArgs false
set_option linter.unusedVariables false
set_option maxRecDepth 8000
set_option maxHeartbeats 1000000
variable (b : Bool)

theorem nhas_spec (l : List Int) (n : Int) (hl : l.length ≤ maxLen) : PCall Try.prog 52 [encI b l, I n] (.d (.bool (decide (n ∈ l)))) := by
  refine pcallS (fn := Try.f52) [] [] mixed (bodyOf Try.f52) [.tmp 4] Try.func52 rfl rfl (by decide) 15 rfl (by kernel_rfl) ?_
  simp -implicitDefEqProofs [↓gd_tt, ↓gd_ff, ↓gd_tf, ↓gd_ft, bodyOf, Try.f52, stripC, stripL, stripM, onsOf, upto, hintOf, freeOf, List.replicate]
  refine loopA mixed [false, false, false, false, true, false, true, false, false, true, true, true, true, true, true, true, true] (fun (i : Nat) => [(9, .d (I i))]) (fun (i : Nat) => []) (fun (i : Nat) => i ≤ l.length ∧ ∀ j (h : j < l.length), j < i → l[j] ≠ n) (fun (i : Nat) => l.length - i) (0) (⟨Nat.zero_le _, fun j _ h => by omega⟩) (by simp) ?_
  rintro i hx
  obtain ⟨hi, hx⟩ := hx
  rcases Nat.lt_or_eq_of_le hi with h | h
  · simp -implicitDefEqProofs [↓gd_tt, ↓gd_ff, ↓gd_tf, ↓gd_ft, h, wrap1 hl h]
    refine ⟨fun e => by rw [← e]; exact List.getElem_mem h, fun e => ⟨⟨by omega, fun j hj hji => ?_⟩, by omega⟩⟩
    rcases Nat.lt_or_eq_of_le (Nat.le_of_lt_succ hji) with k | rfl
    · exact hx j hj k
    · exact e
  · simp -implicitDefEqProofs [↓gd_tt, ↓gd_ff, ↓gd_tf, ↓gd_ft, h]
    intro hm
    obtain ⟨j, hj, e⟩ := List.getElem_of_mem hm
    exact hx j hj (by omega) e

theorem max64 {n : Nat} (h : n ≤ 64) : n ≤ maxLen := by
  have : 64 ≤ maxLen := by decide
  omega
theorem find_mem {l : List Q} {id : Int} (hr : Rises l) (hh : has l id = true) : find l id ∈ l := by
  obtain ⟨_, h2, _⟩ := place_pos hr hh
  rw [find_pos hr hh h2]; exact List.getElem_mem h2
theorem path_spec (l : List Q) (id : Int) (hc : check l = 0) (hh : has l id = true) : PCall Try.prog 128 [encL b l, I id] (.d (encI false (path l id))) := by
  have hf := check_form hc
  have hr := check_rises hc
  have h64 := check_len hc
  have hl := max64 h64.2
  have hpl := path_len l id
  refine pcallS (fn := Try.f128) [] [] mixed (bodyOf Try.f128) [.tmp 4] Try.func128 rfl rfl (by decide) 15 rfl (by kernel_rfl) ?_
  simp -implicitDefEqProofs [↓gd_tt, ↓gd_ff, ↓gd_tf, ↓gd_ft, bodyOf, Try.f128, stripC, stripL, stripM, onsOf, upto, hintOf, freeOf, List.replicate]
  refine loopA mixed [false, true, false, false, false, true, true, true, true, true, true, true, true, true, true, true] (fun (p : Nat × Int) => [(1, .d (I p.2)), (5, .own 1 (((path l id).take p.1).map I))]) (fun (p : Nat × Int) => []) (fun (p : Nat × Int) => p.1 ≤ (path l id).length ∧ path l p.2 = (path l id).drop p.1 ∧ (has l p.2 = true ∨ p.2 = -1)) (fun (p : Nat × Int) => rank l p.2) ((0, id)) (⟨Nat.zero_le _, by simp, .inl hh⟩) (by simp) ?_
  rintro p hx
  obtain ⟨k, x⟩ := p
  obtain ⟨hk, hp, hd⟩ := hx
  simp only at hk hp hd ⊢
  by_cases hx0 : 0 ≤ x
  · have hxh : has l x = true := by
      rcases hd with h | h
      · exact h
      · omega
    have e := path_eq hf x
    rw [if_pos hxh, hp] at e
    have hk2 : k < (path l id).length := by
      have := congrArg List.length e; simp at this; omega
    rw [List.drop_eq_getElem_cons hk2, List.cons.injEq] at e
    obtain ⟨e1, e2⟩ := e
    have hlen : ((path l id).take k).length = k := by simp; omega
    simp -implicitDefEqProofs [↓gd_tt, ↓gd_ff, ↓gd_tf, ↓gd_ft, hx0]
    refine ⟨by omega, callK_pcall (find_spec b l x hl) rfl rfl ?_⟩
    simp -implicitDefEqProofs [↓gd_tt, ↓gd_ff, ↓gd_tf, ↓gd_ft]
    refine ⟨k + 1, (find l x).Par, ⟨by omega, e2.symm, ?_⟩, rank_par hf hxh, ?_⟩
    · rcases par_has hf (find_mem hr hxh) with h | h
      · exact .inr h
      · exact .inl h
    · refine ⟨rfl, ?_⟩
      rw [List.take_add_one]; simp [hk2, e1]
  · have hxh : has l x = false := by
      cases e : has l x with
      | false => rfl
      | true => have := has_nonneg hf e; omega
    rw [path_eq hf, if_neg (by simp [hxh])] at hp
    have hk2 : k = (path l id).length := by
      have := congrArg List.length hp; simp at this; omega
    simp -implicitDefEqProofs [↓gd_tt, ↓gd_ff, ↓gd_tf, ↓gd_ft, hx0, hk2]

end Go.Idl
