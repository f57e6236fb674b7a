/- What DrfLeast asks besides: vec.Less, At, wished. -/
import Derived.Test.YtdhifabhjlbjiaaPW
import Derived.Test.YtdhifabhjlbjiaaMD4
import Derived.Test.YtdhifabhjlbjiaaPI
import Derived.Test.YtdhifabhjlbjiaaQA
set_option linter.all false
namespace Go.Idl
open Go.Proofs
set_option linter.unusedSimpArgs false
set_option linter.unusedVariables false
set_option maxRecDepth 8000
set_option maxHeartbeats 2000000
variable (b c : Bool)

theorem at_spec (l : List Q) (id : Int) (hl : l.length ≤ maxLen) : PCall Try.prog 63 [encL b l, I id] (.d (I (place l id))) := by
  refine pcallS (fn := Try.f63) [] [] mixed (bodyOf Try.f63) [.tmp 4] Try.func63 rfl rfl (by decide) 6 rfl (by kernel_rfl) ?_
  simp -implicitDefEqProofs [↓gd_tt, ↓gd_ff, ↓gd_tf, ↓gd_ft, bodyOf, Try.f63, stripC, stripL, stripM, onsOf, upto, hintOf, freeOf, List.replicate]
  refine callK_pcall (place_spec b l id hl) rfl rfl ?_
  simp -implicitDefEqProofs [↓gd_tt, ↓gd_ff, ↓gd_tf, ↓gd_ft]
def wishedB (l : List Q) (id : Int) (want : List Int) : Bool := want.any fun w => decide (w ∈ below l id)
theorem wished_spec (l : List Q) (id : Int) (want : List Int) (hc : check l = 0) (hh : has l id = true) (hw : want.length ≤ maxLen) : PCall Try.prog 64 [encL b l, I id, encI c want] (.d (.bool (wishedB l id want))) := by
  have h64 := check_len hc
  have hl := max64 h64.2
  have hthere : there l id = 0 := there_zero.2 ⟨hc, hh⟩
  have eB : belowV l id = .tup [.d (encI false (below l id)), .d (I 0)] := by simp [belowV, hthere]
  have hbl : (below l id).length ≤ maxLen := by
    have : (below l id).length ≤ l.length := by
      unfold below; rw [List.length_map]; exact List.length_filter_le _ _
    omega
  refine pcallS (fn := Try.f64) [] [] mixed (bodyOf Try.f64) [.tmp 6] Try.func64 rfl rfl (by decide) 24 rfl (by kernel_rfl) ?_
  simp -implicitDefEqProofs [↓gd_tt, ↓gd_ff, ↓gd_tf, ↓gd_ft, bodyOf, Try.f64, stripC, stripL, stripM, onsOf, upto, hintOf, freeOf, List.replicate]
  refine callK_pcall (qbelow_spec b l id hl) rfl (by rw [eB]; rfl) ?_
  rw [eB]
  simp -implicitDefEqProofs [↓gd_tt, ↓gd_ff, ↓gd_tf, ↓gd_ft]
  refine loopA mixed [false, false, false, false, false, false, true, false, false, false, true, false, false, false, false, false, false, false, false, true, true, true, true, true, true, true, true] (fun (i : Nat) => [(19, .d (I i))]) (fun (i : Nat) => []) (fun (i : Nat) => i ≤ want.length ∧ ∀ j (h : j < want.length), j < i → want[j] ∉ below l id) (fun (i : Nat) => want.length - i) (0) (⟨Nat.zero_le _, fun j _ h => by omega⟩) (by simp) ?_
  rintro i hx
  obtain ⟨hi, hx⟩ := hx
  rcases Nat.lt_or_eq_of_le hi with h | h
  · simp -implicitDefEqProofs [↓gd_tt, ↓gd_ff, ↓gd_tf, ↓gd_ft, h]
    refine callK_pcall (nhas_spec false (below l id) want[i] hbl) rfl rfl ?_
    simp -implicitDefEqProofs [↓gd_tt, ↓gd_ff, ↓gd_tf, ↓gd_ft, wrap1 hw h]
    refine ⟨fun e => ?_, fun e => ⟨⟨by omega, fun j hj hji => ?_⟩, by omega⟩⟩
    · unfold wishedB
      rw [List.any_eq_true]
      exact ⟨want[i], List.getElem_mem h, by simpa using e⟩
    · rcases Nat.lt_or_eq_of_le (Nat.le_of_lt_succ hji) with k | rfl
      · exact hx j hj k
      · exact e
  · simp -implicitDefEqProofs [↓gd_tt, ↓gd_ff, ↓gd_tf, ↓gd_ft, h]
    unfold wishedB
    rw [List.any_eq_false]
    intro w hwm
    obtain ⟨j, hj, rfl⟩ := List.getElem_of_mem hwm
    simpa using hx j hj (by omega)
theorem less_spec (a bb t : Int × Int) (wa wb : Int) (ha : good a.1 a.2 = true) (hb : good bb.1 bb.2 = true) (ht : good t.1 t.2 = true) (hwa : 1 ≤ wa ∧ wa ≤ 1048576) (hwb : 1 ≤ wb ∧ wb ≤ 1048576) :
    PCall Try.prog 65 [.agg [I a.1, I a.2], I wa, .agg [I bb.1, I bb.2], I wb, .agg [I t.1, I t.2]] (.tup [.d (I (ordZ a wa bb wb t)), .d (I 0)]) := by
  have n1 : ¬ wa < 1 := by omega
  have n2 : ¬ 1048576 < wa := by omega
  have n3 : ¬ wb < 1 := by omega
  have n4 : ¬ 1048576 < wb := by omega
  refine pcallS (fn := Try.f65) [] [] mixed (bodyOf Try.f65) [.tmp 10, .tmp 11] Try.func65 rfl rfl (by decide) 42 rfl (by kernel_rfl) ?_
  simp -implicitDefEqProofs [↓gd_tt, ↓gd_ff, ↓gd_tf, ↓gd_ft, bodyOf, Try.f65, stripC, stripL, stripM, onsOf, upto, hintOf, freeOf, List.replicate]
  refine callK_pcall (vgood_spec a.1 a.2) rfl rfl ?_
  simp -implicitDefEqProofs [↓gd_tt, ↓gd_ff, ↓gd_tf, ↓gd_ft, ha]
  refine callK_pcall (vgood_spec bb.1 bb.2) rfl rfl ?_
  simp -implicitDefEqProofs [↓gd_tt, ↓gd_ff, ↓gd_tf, ↓gd_ft, hb]
  refine callK_pcall (vgood_spec t.1 t.2) rfl rfl ?_
  simp -implicitDefEqProofs [↓gd_tt, ↓gd_ff, ↓gd_tf, ↓gd_ft, ht, n1, n2, n3, n4]
  refine callK_pcall (order_spec a bb t wa wb ha hb ht hwa hwb) rfl rfl ?_
  simp -implicitDefEqProofs [↓gd_tt, ↓gd_ff, ↓gd_tf, ↓gd_ft]
end Go.Idl
