/- The program's amounts and sums: vec.Add, queue.Sums. -/
import Derived.Test.YtdhifabhjlbjiaaPGs
import Derived.Test.YtdhifabhjlbjiaaQS
import Derived.Test.YtdhifabhjlbjiaaIdlAny
set_option linter.all false
namespace Go.Idl
open Go.Proofs
set_option linter.unusedSimpArgs false
set_option linter.unusedVariables false
set_option maxRecDepth 8000
set_option maxHeartbeats 2000000
variable (b c : Bool)

theorem vdone_spec (x y z w p q : Int) (h1 : good x y = true) (h2 : good z w = true) : PCall Try.prog 192 [.agg [I x, I y], .agg [I z, I w], .agg [I p, I q]] (if good p q = true then .tup [.d (.agg [I p, I q]), .d (I 0)] else .tup [.d (.agg [I 0, I 0]), .d (I 2)]) := by
  refine pcallS (fn := Try.f192) [] [] mixed (bodyOf Try.f192) [.cell 6 41, .tmp 7] Try.func192 rfl rfl (by decide) 21 rfl (by kernel_rfl) ?_
  simp -implicitDefEqProofs [↓gd_tt, ↓gd_ff, ↓gd_tf, ↓gd_ft, bodyOf, Try.f192, stripC, stripL, stripM, onsOf, upto, hintOf, freeOf, List.replicate]
  refine callK_pcall (vgood_spec x y) rfl rfl ?_
  simp -implicitDefEqProofs [↓gd_tt, ↓gd_ff, ↓gd_tf, ↓gd_ft, h1]
  refine callK_pcall (vgood_spec z w) rfl rfl ?_
  simp -implicitDefEqProofs [↓gd_tt, ↓gd_ff, ↓gd_tf, ↓gd_ft, h2]
  refine callK_pcall (vgood_spec p q) rfl rfl ?_
  by_cases h : good p q = true <;> simp -implicitDefEqProofs [↓gd_tt, ↓gd_ff, ↓gd_tf, ↓gd_ft, h]
theorem vadd_spec (x y z w : Int) (h1 : good x y = true) (h2 : good z w = true) : PCall Try.prog 136 [.agg [I x, I y], .agg [I z, I w]] (if good (x + z) (y + w) = true then .tup [.d (.agg [I (x + z), I (y + w)]), .d (I 0)] else .tup [.d (.agg [I 0, I 0]), .d (I 2)]) := by
  have g1 := good_iff.1 h1
  have g2 := good_iff.1 h2
  have w1 : IntKind.i64.wrap (x + z) = x + z := wr (by omega) (by omega)
  have w2 : IntKind.i64.wrap (y + w) = y + w := wr (by omega) (by omega)
  refine pcallS (fn := Try.f136) [] [] mixed (bodyOf Try.f136) [.cell 4 41, .tmp 5] Try.func136 rfl rfl (by decide) 20 rfl (by kernel_rfl) ?_
  simp -implicitDefEqProofs [↓gd_tt, ↓gd_ff, ↓gd_tf, ↓gd_ft, bodyOf, Try.f136, stripC, stripL, stripM, onsOf, upto, hintOf, freeOf, List.replicate]
  simp -implicitDefEqProofs [↓gd_tt, ↓gd_ff, ↓gd_tf, ↓gd_ft, w1, w2]
  refine callK_pcall (vdone_spec x y z w (x + z) (y + w) h1 h2) rfl (by split <;> rfl) ?_
  by_cases h : good (x + z) (y + w) = true <;> simp -implicitDefEqProofs [↓gd_tt, ↓gd_ff, ↓gd_tf, ↓gd_ft, h]

theorem qsums_spec (l : List Q) (uses : List U) (hl : l.length ≤ maxLen) (hu : uses.length ≤ maxLen) : PCall Try.prog 58 [encL b l, encUs c uses] (sumsV l uses) := by
  refine pcallS (fn := Try.f58) [] [(20, 1013)] mixed (bodyOf Try.f58) [.tmp 4, .tmp 5] Try.func58 rfl rfl (by decide) 72 rfl (by kernel_rfl) ?_
  simp -implicitDefEqProofs [↓gd_tt, ↓gd_ff, ↓gd_tf, ↓gd_ft, bodyOf, Try.f58, stripC, stripL, stripM, onsOf, upto, hintOf, freeOf, List.replicate]
  refine callK_pcall (qcheck_spec b l hl) rfl rfl ?_
  simp -implicitDefEqProofs [↓gd_tt, ↓gd_ff, ↓gd_tf, ↓gd_ft]
  refine ⟨fun hc => by simp [sumsV, sumsE, hc], fun hc => ?_⟩
  have hr := check_rises hc
  have h64 := check_len hc
  have hf := check_form hc
  refine loopA mixed [false, false, false, false, true, true, false, false, true, true, false, false, false, false, false, false, false, false, false, false, false, false, false, false, true, true, true, true, true, true, true, true, true, true, true, true, true, true, true, true] (fun (i : Nat) => [(24, .d (I i))]) (fun (i : Nat) => []) (fun (i : Nat) => i ≤ uses.length ∧ usesE l (uses.drop i) = usesE l uses) (fun (i : Nat) => uses.length - i) (0) (⟨Nat.zero_le _, rfl⟩) (by simp) ?_
  rintro i hx
  obtain ⟨hi, hx⟩ := hx
  rcases Nat.lt_or_eq_of_le hi with h | h
  · rw [List.drop_eq_getElem_cons h, usesE] at hx
    simp -implicitDefEqProofs [↓gd_tt, ↓gd_ff, ↓gd_tf, ↓gd_ft, h]
    refine callK_pcall (qleafE_spec b l uses[i].q hc) rfl rfl ?_
    by_cases h1 : has l uses[i].q = false
    · have e1 : useE l uses[i] = 8 := by simp [useE, h1]
      rw [e1] at hx; simp at hx
      simp -implicitDefEqProofs [↓gd_tt, ↓gd_ff, ↓gd_tf, ↓gd_ft, h1]
      simp [sumsV, sums_use hc (by rw [← hx]; decide), ← hx]
    · by_cases h2 : sonIds l uses[i].q = []
      · simp -implicitDefEqProofs [↓gd_tt, ↓gd_ff, ↓gd_tf, ↓gd_ft, h1, h2]
        refine callK_pcall (vgood_spec uses[i].c uses[i].m) rfl rfl ?_
        simp -implicitDefEqProofs [↓gd_tt, ↓gd_ff, ↓gd_tf, ↓gd_ft, wrap1 hu h]
        refine ⟨fun h3 => ?_, fun h3 => ⟨⟨by omega, ?_⟩, by omega⟩⟩
        · have e1 : useE l uses[i] = 1 := by simp [useE, h1, h2, h3]
          rw [e1] at hx; simp at hx
          simp [sumsV, sums_use hc (by rw [← hx]; decide), ← hx]
        · have e1 : useE l uses[i] = 0 := by simp [useE, h1, h2, h3]
          rw [e1] at hx; simpa using hx
      · have e1 : useE l uses[i] = 14 := by simp [useE, h1, h2]
        rw [e1] at hx; simp at hx
        simp -implicitDefEqProofs [↓gd_tt, ↓gd_ff, ↓gd_tf, ↓gd_ft, h1, h2]
        simp [sumsV, sums_use hc (by rw [← hx]; decide), ← hx]
  rw [h, List.drop_length] at hx
  have hu0 : usesE l uses = 0 := hx.symm
  have hg := goods_of hu0
  have hrep : List.replicate l.length (D.agg [I 0, I 0]) = (List.replicate l.length ((0 : Int), (0 : Int))).map encV := by simp
  simp -implicitDefEqProofs [↓gd_tt, ↓gd_ff, ↓gd_tf, ↓gd_ft, h]
  refine ⟨by omega, by omega, ?_⟩
  refine loopA mixed [false, false, false, false, false, false, false, false, false, false, false, false, false, true, false, false, false, false, false, false, false, false, false, false, false, false, false, false, false, false, false, false, false, false, false, false, false, false, false, false, false, false, false, false, false, true, true, true, true, true, true, true, true, false, false, false, false, false, false, false, false, false, false, false, false, false, false, false, false, false, false, true] (fun (p : Nat × List (Int × Int) × Bool) => [(45, .d (I p.1))]) (fun (p : Nat × List (Int × Int) × Bool) => [.arr 2 (p.2.1.map encV), .var [.ref 0 2 0 l.length l.length], .var [.d (.bool p.2.2)]]) (fun (p : Nat × List (Int × Int) × Bool) => p.1 ≤ uses.length ∧ SInv l uses p.1 p.2.1 p.2.2) (fun (p : Nat × List (Int × Int) × Bool) => uses.length - p.1) ((0, List.replicate l.length (0, 0), false)) (⟨Nat.zero_le _, sinv_zero l uses⟩) (by simp) ?_
  rintro p hx
  obtain ⟨i, m, ov⟩ := p
  obtain ⟨hi, hs⟩ := hx
  simp only at hi hs ⊢
  rcases Nat.lt_or_eq_of_le hi with h | h
  · have hgu := hg _ (List.getElem_mem h)
    simp -implicitDefEqProofs [↓gd_tt, ↓gd_ff, ↓gd_tf, ↓gd_ft, h]
    refine up_spec b l uses[i].q _ _ ?_
    simp -implicitDefEqProofs [↓gd_tt, ↓gd_ff, ↓gd_tf, ↓gd_ft, h]
    refine rangeYS mixed (up_yields b l uses[i].q 5 4 (small h64.2) hf (by decide)) (by simp) (by simp) (by simp) (by simp) (by simp) (by intro y hy; obtain ⟨p, _, rfl⟩ := List.mem_map.1 hy; simp [yQ]) (fun k hp => ∃ m', hp = [.arr 2 (m'.map encV), .var [.ref 0 2 0 l.length l.length], .var [.d (.bool ov)], .var [.d (I uses[i].q), .d (I uses[i].c), .d (I uses[i].m)], .var [.d (encL b l)], .var [.d (I (upx l uses[i].q (k - 1)))]] ∧ k ≤ (up l uses[i].q).length ∧ Upd l uses[i] k m m' ∧ ∀ j (h : j < m'.length), goodP m'[j] = true) ⟨m, rfl, Nat.zero_le _, upd_zero _ _ _, hs.good⟩ (by rintro k hp ⟨m', rfl, _⟩; simp) ?_ ?_
    · rintro k hp ⟨m', rfl, hk, hu', hgd⟩ hik L0 L1
      have hk' : k < (up l uses[i].q).length := by simpa using hik
      obtain ⟨u1, u2⟩ := up_mem hf (List.getElem_mem hk')
      have hml : m'.length = l.length := hu'.1.trans hs.len
      have h1 : (up l uses[i].q)[k].1 < m'.length := by rw [hml]; exact u1
      have hgp : good m'[(up l uses[i].q)[k].1].1 m'[(up l uses[i].q)[k].1].2 = true := hgd _ h1
      simp -implicitDefEqProofs [↓gd_tt, ↓gd_ff, ↓gd_tf, ↓gd_ft, yQ, u1, h1, hml]
      have hadd := vadd_spec m'[(up l uses[i].q)[k].1].1 m'[(up l uses[i].q)[k].1].2 uses[i].c uses[i].m hgp hgu
      by_cases hnew : good (m'[(up l uses[i].q)[k].1].1 + uses[i].c) (m'[(up l uses[i].q)[k].1].2 + uses[i].m) = true
      · rw [if_pos hnew] at hadd
        refine any_end ?e (fun K0 hK0 => ?_) ?_
        case refine_1 =>
          simp (maxSteps := 10000000) -implicitDefEqProofs [ag_zero, ag_succ, al_nil, al_cons, u1, h1, hml, List.replicate]
          refine ⟨callK_pcall hadd rfl rfl ?_, callK_pcall hadd rfl rfl ?_⟩
          all_goals
            simp (maxSteps := 10000000) -implicitDefEqProofs [ag_zero, ag_succ, al_nil, al_cons, u1, h1, hml, List.replicate]
            exact hK0
        simp -implicitDefEqProofs [↓gd_tt, ↓gd_ff, ↓gd_tf, ↓gd_ft, u1, h1, hml]
        refine ⟨m'.set (up l uses[i].q)[k].1 (m'[(up l uses[i].q)[k].1].1 + uses[i].c, m'[(up l uses[i].q)[k].1].2 + uses[i].m), by simp [List.map_set], by omega, upd_step hf hu' hk' h1, fun j hj => ?_⟩
        rw [List.getElem_set]
        split
        · exact hnew
        · exact hgd j (by simpa using hj)
      · rw [if_neg hnew] at hadd
        refine any_end ?e2 (fun K0 hK0 => ?_) ?_
        case refine_1 =>
          simp (maxSteps := 10000000) -implicitDefEqProofs [ag_zero, ag_succ, al_nil, al_cons, u1, h1, hml, List.replicate]
          refine ⟨callK_pcall hadd rfl rfl ?_, callK_pcall hadd rfl rfl ?_⟩
          all_goals
            simp (maxSteps := 10000000) -implicitDefEqProofs [ag_zero, ag_succ, al_nil, al_cons, u1, h1, hml, List.replicate]
            exact hK0
        simp -implicitDefEqProofs [↓gd_tt, ↓gd_ff, ↓gd_tf, ↓gd_ft, u1, h1, hml, wrap1 hu h]
        exact ⟨i + 1, m', ⟨by omega, sinv_over hf hg hs h hu' hgd hk' h1 (by simpa using hnew)⟩, by omega, rfl, rfl⟩
    · rintro hp' ⟨m', rfl, hk, hu', hgd⟩
      have hfull := sinv_full hf hg hs h (by simpa using hu') hgd
      simp -implicitDefEqProofs [↓gd_tt, ↓gd_ff, ↓gd_tf, ↓gd_ft, wrap1 hu h]
      cases ov
      · exact ⟨i + 1, m', .inl ⟨⟨by omega, hfull⟩, by omega, rfl, rfl, rfl⟩⟩
      · exact ⟨i + 1, m', .inr ⟨⟨by omega, hfull⟩, by omega, rfl, rfl, rfl⟩⟩
  · have hsl : l.length ≤ m.length := by rw [hs.len]; exact Nat.le_refl _
    have htk : uses.take i = uses := by rw [h]; exact List.take_length
    simp -implicitDefEqProofs [↓gd_tt, ↓gd_ff, ↓gd_tf, ↓gd_ft, h, hsl]
    refine ⟨fun e => ?_, fun e => ?_⟩
    · have ho := hs.yes e
      simp [sumsV, sumsE, hc, hu0, ho]
    · have hm := hs.no e
      rw [htk] at hm
      have ho : overs l uses = false := overs_iff.2 fun q hq => by
        obtain ⟨j, hj, rfl⟩ := List.getElem_of_mem hq
        have := hs.good j (by omega)
        simpa [hm, sumsL] using this
      have hv : sumsV l uses = .tup [.d (encVs false (sumsL l uses)), .d (I 0)] := by simp [sumsV, sumsE, hc, hu0, ho]
      rw [hv, List.take_of_length_le (by simp [hs.len]), hm]
      simp -implicitDefEqProofs [↓gd_tt, ↓gd_ff, ↓gd_tf, ↓gd_ft]
end Go.Idl
