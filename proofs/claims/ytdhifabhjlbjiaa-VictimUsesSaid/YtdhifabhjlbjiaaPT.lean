/- The program's queues: Room. -/
import Derived.Test.YtdhifabhjlbjiaaPS
set_option linter.all false
namespace Go.Idl
open Go.Proofs
set_option linter.unusedSimpArgs false
set_option linter.unusedVariables false
set_option maxRecDepth 8000
set_option maxHeartbeats 2000000
variable (b c : Bool)

theorem qroom_spec (l : List Q) (uses : List U) (id x y : Int) (hl : l.length ≤ maxLen) (hu : uses.length ≤ maxLen) : PCall Try.prog 60 [encL b l, encUs c uses, I id, .agg [I x, I y]] (.d (I (roomE l uses id x y))) := by
  refine pcallS (fn := Try.f60) [] [] mixed (bodyOf Try.f60) [.cell 8 45] Try.func60 rfl rfl (by decide) 53 rfl (by kernel_rfl) ?_
  simp -implicitDefEqProofs [↓gd_tt, ↓gd_ff, ↓gd_tf, ↓gd_ft, bodyOf, Try.f60, stripC, stripL, stripM, onsOf, upto, hintOf, freeOf, List.replicate]
  by_cases hs : sumsE l uses = 0
  case neg =>
    have hv : sumsV l uses = .tup [.nil 2, .d (I (sumsE l uses))] := by simp [sumsV, hs]
    refine callK_pcall (qsums_spec b c l uses hl hu) rfl (by rw [hv]; rfl) ?_
    rw [hv]
    simp -implicitDefEqProofs [↓gd_tt, ↓gd_ff, ↓gd_tf, ↓gd_ft, hs, roomE]
  have hv : sumsV l uses = .tup [.d (encVs false (sumsL l uses)), .d (I 0)] := by simp [sumsV, hs]
  obtain ⟨hc, hu0, ho⟩ := sumsE_zero.1 hs
  have hf := check_form hc
  have hr := check_rises hc
  have h64 := check_len hc
  refine callK_pcall (qsums_spec b c l uses hl hu) rfl (by rw [hv]; rfl) ?_
  rw [hv]
  simp -implicitDefEqProofs [↓gd_tt, ↓gd_ff, ↓gd_tf, ↓gd_ft, hs]
  refine callK_pcall (qleafE_spec b l id hc) rfl rfl ?_
  by_cases h1 : has l id = false
  · simp -implicitDefEqProofs [↓gd_tt, ↓gd_ff, ↓gd_tf, ↓gd_ft, h1, hs, roomE]
  have h1' : has l id = true := by simpa using h1
  by_cases h2 : sonIds l id = []
  case neg => simp -implicitDefEqProofs [↓gd_tt, ↓gd_ff, ↓gd_tf, ↓gd_ft, h1', h2, hs, roomE]
  simp -implicitDefEqProofs [↓gd_tt, ↓gd_ff, ↓gd_tf, ↓gd_ft, h1', h2]
  refine callK_pcall (vcheck_spec x y) rfl rfl ?_
  by_cases h3 : good x y = true
  case neg => simp -implicitDefEqProofs [↓gd_tt, ↓gd_ff, ↓gd_tf, ↓gd_ft, h1', h2, h3, hs, roomE]
  simp -implicitDefEqProofs [↓gd_tt, ↓gd_ff, ↓gd_tf, ↓gd_ft, h3]
  refine up_spec b l id _ _ ?_
  have hgx := good_iff.1 h3
  have hroom : roomE l uses id x y = if (up l id).all (fun p => fitsAt l uses x y p.2) = true then 0 else 11 := by simp [roomE, hs, h1', h2, h3]
  simp -implicitDefEqProofs [↓gd_tt, ↓gd_ff, ↓gd_tf, ↓gd_ft]
  refine rangeYS mixed (up_yields b l id 4 3 (small h64.2) hf (by decide)) (by simp) (by simp) (by simp) (by simp) (by simp) (by intro y hy; obtain ⟨p, _, rfl⟩ := List.mem_map.1 hy; simp [yQ]) (fun k hp => hp = [.var [.d (I x), .d (I y)], .var [.d (I 0)], .var [.d (encVs false (sumsL l uses))], .var [.d (encL b l)], .var [.d (I (upx l id (k - 1)))]] ∧ k ≤ (up l id).length ∧ ∀ j (h : j < (up l id).length), j < k → fitsAt l uses x y (up l id)[j].2 = true) ⟨rfl, Nat.zero_le _, fun j _ h => by omega⟩ (by rintro k hp ⟨rfl, _⟩; simp) ?_ ?_
  · rintro k hp ⟨rfl, hk, hx⟩ hi L0 L1
    have hk' : k < (up l id).length := by simpa using hi
    obtain ⟨u1, u2⟩ := up_mem hf (List.getElem_mem hk')
    have hlt : (up l id)[k].1 < (sumsL l uses).length := by simpa [sumsL] using u1
    have hlt2 : (up l id)[k].1 < l.length := u1
    have hval : (sumsL l uses)[(up l id)[k].1] = tot l uses (up l id)[k].2.Id := by simp [sumsL, u2]
    have htg := overs_iff.1 ho _ (List.getElem_mem u1)
    rw [← u2] at htg
    have htg := good_iff.1 htg
    have w1 : IntKind.i64.wrap ((tot l uses (up l id)[k].2.Id).1 + x) = (tot l uses (up l id)[k].2.Id).1 + x := wr (by omega) (by omega)
    have w2 : IntKind.i64.wrap ((tot l uses (up l id)[k].2.Id).2 + y) = (tot l uses (up l id)[k].2.Id).2 + y := wr (by omega) (by omega)
    simp -implicitDefEqProofs [↓gd_tt, ↓gd_ff, ↓gd_tf, ↓gd_ft, yQ, hlt, hval, w1, w2]
    refine free_pcall (vfits_spec _ _ _ _) rfl rfl ?_
    simp -implicitDefEqProofs [↓gd_tt, ↓gd_ff, ↓gd_tf, ↓gd_ft]
    refine ⟨fun e => ?_, fun e => ⟨by omega, fun j hj hji => ?_⟩⟩
    · rw [hroom, if_neg]
      intro hall
      have := List.all_eq_true.1 hall _ (List.getElem_mem hk')
      simp only [fitsAt] at this
      rw [e] at this; cases this
    · rcases Nat.lt_or_eq_of_le (Nat.le_of_lt_succ hji) with k | rfl
      · exact hx j hj k
      · exact e
  · rintro hp' ⟨rfl, hk, hx⟩
    simp -implicitDefEqProofs [↓gd_tt, ↓gd_ff, ↓gd_tf, ↓gd_ft]
    rw [hroom, if_pos]
    rw [List.all_eq_true]
    intro p hp
    obtain ⟨j, hj, rfl⟩ := List.getElem_of_mem hp
    exact hx j hj (by simpa using hj)
end Go.Idl
