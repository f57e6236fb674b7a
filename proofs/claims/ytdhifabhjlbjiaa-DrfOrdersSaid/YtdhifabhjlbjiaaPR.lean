/- The statement DrfOrders: what it computes. -/
import Derived.Test.YtdhifabhjlbjiaaQO2
import Derived.Test.YtdhifabhjlbjiaaPW
set_option linter.all false
namespace Go.Idl
open Go.Proofs
set_option linter.unusedSimpArgs false
set_option linter.unusedVariables false
set_option maxRecDepth 8000
set_option maxHeartbeats 4000000

theorem order_perm (l : List Q) (sums : List (Int × Int)) (t : Int × Int) (n : Nat) (cnt : List Int) : (turns l sums t n cnt).1.length = n := (turns_len l sums t cnt n).1
theorem drfOrders_spec (l : List Q) (uses : List U) (want : List Int) (t : Int × Int) (hl : l.length ≤ maxLen) (hr : l.length * 56 ≤ reachBytes) (hu : uses.length ≤ maxLen) (hur : uses.length * 24 ≤ reachBytes) (hw : want.length ≤ maxLen) (hw2 : want.length * 8 ≤ reachBytes) : PCall Try.prog 11 [encL false l, encUs false uses, encI false want, encV t] (.d (.bool true)) := by
  obtain ⟨x, y⟩ := t
  have hrb : reachBytes = 140737488351232 := rfl
  refine pcallS (fn := Try.f11) [(16, 1)] [] mixed (bodyOf Try.f11) [.tmp 8] Try.func11 rfl rfl (by decide) 61 rfl (by kernel_rfl) ?_
  simp -implicitDefEqProofs [↓gd_tt, ↓gd_ff, ↓gd_tf, ↓gd_ft, bodyOf, Try.f11, stripC, stripL, stripM, onsOf, upto, hintOf, freeOf, List.replicate]
  refine callK_pcall awake6_spec rfl rfl ?_
  have hdo := dorder_spec false false true l uses want (x, y) hl hu hw hw2
  have hro := rorder_spec false false false l uses want (x, y) hl hu hw hw2
  have hv : ∃ (a : List Int) (v : V) (e : Int), orderV l uses want (x, y) = .tup [v, .d (I e)] ∧ ((v = .d (encI false a)) ∨ v = .nil 1 ∧ a = []) ∧ a.length ≤ want.length := by
    unfold orderV
    split
    · exact ⟨_, _, _, rfl, .inl rfl, by rw [order_perm]; exact Nat.le_refl _⟩
    · exact ⟨[], _, _, rfl, .inr ⟨rfl, rfl⟩, Nat.zero_le _⟩
  obtain ⟨a, v, e, hv, hva, hal⟩ := hv
  rw [hv] at hdo hro
  have hvd : (V.tup [v, .d (I e)]).data = true := by rcases hva with rfl | ⟨rfl, rfl⟩ <;> rfl
  have hvp : (V.tup [v, .d (I e)]).permP := by
    rcases hva with rfl | ⟨rfl, rfl⟩
    · intro w hw'
      simp only [List.mem_cons, List.not_mem_nil, or_false] at hw'
      rcases hw' with rfl | rfl
      · have := permL_map (f := fun n : Int => I n) (l := a) fun _ _ => trivial
        exact ⟨rfl, this⟩
      · trivial
    · intro w hw'
      simp only [List.mem_cons, List.not_mem_nil, or_false] at hw'
      rcases hw' with rfl | rfl <;> trivial
  have hii : PCall Try.prog 40 [encI false a, encI false a] (.d (.bool true)) := by
    have := ints_spec false false a a (by omega)
    simpa using this
  have hvi : allD [v, v] = some [encI false a, encI false a] := by rcases hva with rfl | ⟨rfl, rfl⟩ <;> rfl
  have htk : List.take want.length (want.map I) = want.map I := List.take_of_length_le (by simp)
  have hw1 : IntKind.i64.wrap ((want.length : Int) + 1) = ((want.length + 1 : Nat) : Int) := by rw [wrap_i64 (by omega) (by omega)]; omega
  simp -implicitDefEqProofs [↓gd_tt, ↓gd_ff, ↓gd_tf, ↓gd_ft]
  refine ⟨by omega, fun hn => ⟨hn, by omega, fun cap' h1 => ⟨by omega, ?_⟩⟩, fun hn cap' h1 => ⟨h1, by omega, by omega, fun h2 => ⟨by omega, ?_⟩, fun h2 cap' h3 => ⟨by omega, ?_⟩⟩⟩
  · rcases hva with rfl | ⟨rfl, rfl⟩
    · have hca : want.length ≤ cap' := by omega
      have hcb : cap' ≤ want.length + (cap' - (want.length + 1) + 1) := by omega
      have hcc : cap' ≤ want.length + (cap' - want.length) := by omega
      refine callK_lend hdo (by simp [htk, hca, hcb, hcc]) hvd hvp ?_
      simp -implicitDefEqProofs [↓gd_tt, ↓gd_ff, ↓gd_tf, ↓gd_ft]
      refine callK_pcall hro rfl hvd ?_
      simp -implicitDefEqProofs [↓gd_tt, ↓gd_ff, ↓gd_tf, ↓gd_ft]
      refine callK_pcall hii hvi rfl ?_
      simp -implicitDefEqProofs [↓gd_tt, ↓gd_ff, ↓gd_tf, ↓gd_ft, hw1]
      refine callK_lend (ints_spec true false want want hw) (by simp [htk, hca, hcb, hcc]) rfl trivial ?_
      simp -implicitDefEqProofs [↓gd_tt, ↓gd_ff, ↓gd_tf, ↓gd_ft, hw1]
      omega
    · have hca : want.length ≤ cap' := by omega
      have hcb : cap' ≤ want.length + (cap' - (want.length + 1) + 1) := by omega
      have hcc : cap' ≤ want.length + (cap' - want.length) := by omega
      refine callK_lend hdo (by simp [htk, hca, hcb, hcc]) hvd hvp ?_
      simp -implicitDefEqProofs [↓gd_tt, ↓gd_ff, ↓gd_tf, ↓gd_ft]
      refine callK_pcall hro rfl hvd ?_
      simp -implicitDefEqProofs [↓gd_tt, ↓gd_ff, ↓gd_tf, ↓gd_ft]
      refine callK_pcall hii hvi rfl ?_
      simp -implicitDefEqProofs [↓gd_tt, ↓gd_ff, ↓gd_tf, ↓gd_ft, hw1]
      refine callK_lend (ints_spec true false want want hw) (by simp [htk, hca, hcb, hcc]) rfl trivial ?_
      simp -implicitDefEqProofs [↓gd_tt, ↓gd_ff, ↓gd_tf, ↓gd_ft, hw1]
      omega
  · rcases hva with rfl | ⟨rfl, rfl⟩
    · have hca : want.length ≤ cap' := by omega
      have hcb : cap' ≤ want.length + (cap' - (want.length + 1) + 1) := by omega
      have hcc : cap' ≤ want.length + (cap' - want.length) := by omega
      refine callK_lend hdo (by simp [htk, hca, hcb, hcc]) hvd hvp ?_
      simp -implicitDefEqProofs [↓gd_tt, ↓gd_ff, ↓gd_tf, ↓gd_ft]
      refine callK_pcall hro rfl hvd ?_
      simp -implicitDefEqProofs [↓gd_tt, ↓gd_ff, ↓gd_tf, ↓gd_ft]
      refine callK_pcall hii hvi rfl ?_
      simp -implicitDefEqProofs [↓gd_tt, ↓gd_ff, ↓gd_tf, ↓gd_ft, hw1]
      refine callK_lend (ints_spec true false want want hw) (by simp [htk, hca, hcb, hcc]) rfl trivial ?_
      simp -implicitDefEqProofs [↓gd_tt, ↓gd_ff, ↓gd_tf, ↓gd_ft, hw1]
      omega
    · have hca : want.length ≤ cap' := by omega
      have hcb : cap' ≤ want.length + (cap' - (want.length + 1) + 1) := by omega
      have hcc : cap' ≤ want.length + (cap' - want.length) := by omega
      refine callK_lend hdo (by simp [htk, hca, hcb, hcc]) hvd hvp ?_
      simp -implicitDefEqProofs [↓gd_tt, ↓gd_ff, ↓gd_tf, ↓gd_ft]
      refine callK_pcall hro rfl hvd ?_
      simp -implicitDefEqProofs [↓gd_tt, ↓gd_ff, ↓gd_tf, ↓gd_ft]
      refine callK_pcall hii hvi rfl ?_
      simp -implicitDefEqProofs [↓gd_tt, ↓gd_ff, ↓gd_tf, ↓gd_ft, hw1]
      refine callK_lend (ints_spec true false want want hw) (by simp [htk, hca, hcb, hcc]) rfl trivial ?_
      simp -implicitDefEqProofs [↓gd_tt, ↓gd_ff, ↓gd_tf, ↓gd_ft, hw1]
      omega
  · rcases hva with rfl | ⟨rfl, rfl⟩
    · have hca : want.length ≤ cap' := by omega
      have hcb : cap' ≤ want.length + (cap' - (want.length + 1) + 1) := by omega
      have hcc : cap' ≤ want.length + (cap' - want.length) := by omega
      refine callK_lend hdo (by simp [htk, hca, hcb, hcc]) hvd hvp ?_
      simp -implicitDefEqProofs [↓gd_tt, ↓gd_ff, ↓gd_tf, ↓gd_ft]
      refine callK_pcall hro rfl hvd ?_
      simp -implicitDefEqProofs [↓gd_tt, ↓gd_ff, ↓gd_tf, ↓gd_ft]
      refine callK_pcall hii hvi rfl ?_
      simp -implicitDefEqProofs [↓gd_tt, ↓gd_ff, ↓gd_tf, ↓gd_ft, hw1]
      refine callK_lend (ints_spec true false want want hw) (by simp [htk, hca, hcb, hcc]) rfl trivial ?_
      simp -implicitDefEqProofs [↓gd_tt, ↓gd_ff, ↓gd_tf, ↓gd_ft, hw1]
      omega
    · have hca : want.length ≤ cap' := by omega
      have hcb : cap' ≤ want.length + (cap' - (want.length + 1) + 1) := by omega
      have hcc : cap' ≤ want.length + (cap' - want.length) := by omega
      refine callK_lend hdo (by simp [htk, hca, hcb, hcc]) hvd hvp ?_
      simp -implicitDefEqProofs [↓gd_tt, ↓gd_ff, ↓gd_tf, ↓gd_ft]
      refine callK_pcall hro rfl hvd ?_
      simp -implicitDefEqProofs [↓gd_tt, ↓gd_ff, ↓gd_tf, ↓gd_ft]
      refine callK_pcall hii hvi rfl ?_
      simp -implicitDefEqProofs [↓gd_tt, ↓gd_ff, ↓gd_tf, ↓gd_ft, hw1]
      refine callK_lend (ints_spec true false want want hw) (by simp [htk, hca, hcb, hcc]) rfl trivial ?_
      simp -implicitDefEqProofs [↓gd_tt, ↓gd_ff, ↓gd_tf, ↓gd_ft, hw1]
      omega
end Go.Idl
