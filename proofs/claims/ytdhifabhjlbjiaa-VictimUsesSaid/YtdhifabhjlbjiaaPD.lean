/- The program's turns: marks. -/
import Derived.Test.YtdhifabhjlbjiaaPI
import Derived.Test.YtdhifabhjlbjiaaMD
import Derived.Test.YtdhifabhjlbjiaaIdlSc
set_option linter.all false
namespace Go.Idl
open Go.Proofs
set_option linter.unusedSimpArgs false
set_option linter.unusedVariables false
set_option maxRecDepth 8000
set_option maxHeartbeats 2000000
variable (b c : Bool)

theorem is_spec (l : List Q) (id : Int) (hc : check l = 0) : PCall Try.prog 155 [encL b l, I id] (.d (I (if has l id = false then 8 else if sonIds l id = [] then 0 else 14))) := by
  refine pcallS (fn := Try.f155) [] [] mixed (bodyOf Try.f155) [.tmp 4] Try.func155 rfl rfl (by decide) 6 rfl (by kernel_rfl) ?_
  simp -implicitDefEqProofs [↓gd_tt, ↓gd_ff, ↓gd_tf, ↓gd_ft, bodyOf, Try.f155, stripC, stripL, stripM, onsOf, upto, hintOf, freeOf, List.replicate]
  refine callK_pcall (qleafE_spec b l id hc) rfl rfl ?_
  simp -implicitDefEqProofs [↓gd_tt, ↓gd_ff, ↓gd_tf, ↓gd_ft]
theorem upw_spec (l : List Q) (id : Int) (hp : List IObj) (K : V → List IObj → Prop) (hk : K (.fn (.func 189) [.ptr (hp.length + 1) 0, .ptr hp.length 0]) (hp ++ [.var [.d (encL b l)], .var [.d (I id)]])) : CallK Try.prog 133 [.d (encL b l), .d (I id)] hp K := by
  refine callS (fn := Try.f133) [] [] mixed (bodyOf Try.f133) [.tmp 4] Try.func133 rfl rfl (by decide) 6 rfl (by kernel_rfl) ?_
  simp -implicitDefEqProofs [↓gd_tt, ↓gd_ff, ↓gd_tf, ↓gd_ft, bodyOf, Try.f133, stripC, stripL, stripM, onsOf, upto, hintOf, freeOf, List.replicate]
  refine up_spec b l id _ _ ?_
  simpa using hk
theorem sonsw_spec (l : List Q) (id : Int) (hp : List IObj) (K : V → List IObj → Prop) (hk : K (.fn (.func 188) [.ptr hp.length 0, .ptr (hp.length + 1) 0]) (hp ++ [.var [.d (encL b l)], .var [.d (I id)]])) : CallK Try.prog 190 [.d (encL b l), .d (I id)] hp K := by
  refine callS (fn := Try.f190) [] [] mixed (bodyOf Try.f190) [.tmp 4] Try.func190 rfl rfl (by decide) 6 rfl (by kernel_rfl) ?_
  simp -implicitDefEqProofs [↓gd_tt, ↓gd_ff, ↓gd_tf, ↓gd_ft, bodyOf, Try.f190, stripC, stripL, stripM, onsOf, upto, hintOf, freeOf, List.replicate]
  refine children_spec b l id _ _ ?_
  simpa using hk
/-- is one of the first wishes no leaf? -/
def leafTo (l : List Q) (want : List Int) (i : Nat) : Int := if (want.take i).any (fun w => !decide (sonIds l w = [])) then 14 else 0
theorem leafTo_val (l : List Q) (want : List Int) (i : Nat) : leafTo l want i = 0 ∨ leafTo l want i = 14 := by
  unfold leafTo; split
  · exact .inr rfl
  · exact .inl rfl
theorem leafTo_succ {l : List Q} {want : List Int} {i : Nat} (h : i < want.length) : leafTo l want (i + 1) = if sonIds l want[i] = [] then leafTo l want i else 14 := by
  unfold leafTo
  rw [List.take_add_one, List.getElem?_eq_getElem h, Option.toList_some, List.any_append]
  by_cases e : sonIds l want[i] = [] <;> simp [e]
/-- marks, where the total lies in memory ahead of it -/
theorem marks_mem (l : List Q) (want : List Int) (x y : Int) (hc : check l = 0) (hw : want.length ≤ maxLen) {K : V → List IObj → Prop}
    (h0 : marksE l want x y ≠ 0 → ∀ v hp', (v = .nil 1 ∨ v = .ref 2 1 0 l.length l.length) → K (.tup [v, .d (I (marksE l want x y))]) hp') (h1 : marksE l want x y = 0 → K (.tup [.ref 2 1 0 l.length l.length, .d (I 0)]) [.var [.d (I x), .d (I y)], .var [.d (I x), .d (I y)], .arr 1 ((cnts l want).map I), .var [.ref 2 1 0 l.length l.length]]) :
    CallK Try.prog 129 [.d (encL b l), .d (encI c want), .d (.agg [I x, I y])] [.var [.d (I x), .d (I y)]] K := by
  have hf := check_form hc
  have h64 := check_len hc
  refine callS (fn := Try.f129) [] [] mixed (bodyOf Try.f129) [.tmp 6, .tmp 7] Try.func129 rfl rfl (by decide) 66 rfl (by kernel_rfl) ?_
  simp -implicitDefEqProofs [↓gd_tt, ↓gd_ff, ↓gd_tf, ↓gd_ft, bodyOf, Try.f129, stripC, stripL, stripM, onsOf, upto, hintOf, freeOf, List.replicate]
  refine callK_pcall (vgood_spec x y) rfl rfl ?_
  by_cases hg : good x y = true
  case neg =>
    have hE : marksE l want x y = 1 := by simp [marksE, hg]
    simp -implicitDefEqProofs [↓gd_tt, ↓gd_ff, ↓gd_tf, ↓gd_ft, hg]
    have := h0 (by rw [hE]; decide)
    rw [hE] at this
    first | exact this _ _ (.inl rfl) | exact this _ _ (.inr rfl)
  simp -implicitDefEqProofs [↓gd_tt, ↓gd_ff, ↓gd_tf, ↓gd_ft, hg]
  refine loopA mixed [false, false, false, false, false, false, true, true, true, false, false, false, false, false, false, false, false, false, true, true, true, true, true, true, true, true, true, true, true, true, true, true, true, true] (fun (i : Nat) => [(8, .d (I i))]) (fun (i : Nat) => [.var [.d (I x), .d (I y)], .var [.d (I x), .d (I y)]]) (fun (i : Nat) => 1 ≤ i ∧ (i ≤ want.length ∨ i = 1) ∧ ∀ j (h : j + 1 < want.length), j + 1 < i → want[j] < want[j + 1]) (fun (i : Nat) => want.length - i) (1) (⟨Nat.le_refl _, .inr rfl, fun j _ h => by omega⟩) (by simp) ?_
  rintro i hx
  obtain ⟨hi1, hi2, hx⟩ := hx
  by_cases h : i < want.length
  · have hm1 : i - 1 < want.length := by omega
    have hwm := wrapm1 hw h hi1
    simp -implicitDefEqProofs [↓gd_tt, ↓gd_ff, ↓gd_tf, ↓gd_ft, h, hm1, hwm, wrap1 hw h]
    refine ⟨fun e => ?_, fun e => ⟨⟨.inl (by omega), fun j hj hji => ?_⟩, by omega⟩⟩
    · have hnR : ¬ Rising want := fun hR => by
        have := hR (i - 1) (by omega)
        have e2 : i - 1 + 1 = i := by omega
        simp only [e2] at this
        omega
      have hE : marksE l want x y = 4 := by simp [marksE, hg, hnR]
      have := h0 (by rw [hE]; decide)
      rw [hE] at this
      first | exact this _ _ (.inl rfl) | exact this _ _ (.inr rfl)
    · by_cases e2 : j + 1 = i
      · subst e2; exact e
      · exact hx j hj (by omega)
  have hR : Rising want := fun j hj => hx j hj (by omega)
  by_cases hn : want = []
  · have hE : marksE l want x y = 8 := by subst hn; simp [marksE, hg, Rising]
    simp -implicitDefEqProofs [↓gd_tt, ↓gd_ff, ↓gd_tf, ↓gd_ft, h, hn]
    have := h0 (by rw [hE]; decide)
    rw [hE] at this
    first | exact this _ _ (.inl rfl) | exact this _ _ (.inr rfl)
  have hE : marksE l want x y = wantsE l want := by simp [marksE, hg, hR, hn]
  rw [hE] at h0 h1
  simp -implicitDefEqProofs [↓gd_tt, ↓gd_ff, ↓gd_tf, ↓gd_ft, h, hn]
  refine ⟨by omega, by omega, ?_⟩
  have hz : List.replicate l.length (D.int .i64 0) = (cnts l (want.take 0)).map I := by rw [cnts_zero]; simp
  refine loopA mixed [false, false, false, false, false, false, true, true, false, false, true, false, true, true, false, false, false, false, false, false, false, false, false, false, false, false, false, false, false, false, false, false, false, false, false, false, false, false, false, false, false, false, true, true, true, true, true, true, true, true, true, true, true, true, true, true, true, true, false, false, false, false, false, false, false, false, true] (fun (i : Nat) => [(10, .d (I (leafTo l want i))), (42, .d (I i))]) (fun (i : Nat) => [.var [.d (I x), .d (I y)], .var [.d (I x), .d (I y)], .arr 1 ((cnts l (want.take i)).map I), .var [.ref 2 1 0 l.length l.length]]) (fun (i : Nat) => i ≤ want.length ∧ ∀ j (h : j < want.length), j < i → has l want[j] = true) (fun (i : Nat) => want.length - i) (0) (⟨Nat.zero_le _, fun j _ h => by omega⟩) (by rw [cnts_zero]; simp [leafTo]) ?_
  rintro i hx
  obtain ⟨hi, hx'⟩ := hx
  rcases Nat.lt_or_eq_of_le hi with h' | h'
  · have hsu := leafTo_succ (l := l) h'
    simp -implicitDefEqProofs [↓gd_tt, ↓gd_ff, ↓gd_tf, ↓gd_ft, h']
    by_cases g1 : has l want[i] = true
    case neg =>
      have hE2 : wantsE l want = 8 := by
        unfold wantsE
        rw [if_pos]
        rw [List.any_eq_true]
        exact ⟨want[i], List.getElem_mem h', by simpa using g1⟩
      refine callK_pcall (is_spec b l want[i] hc) rfl rfl ?_
      simp -implicitDefEqProofs [↓gd_tt, ↓gd_ff, ↓gd_tf, ↓gd_ft, g1]
      have := h0 (by rw [hE2]; decide)
      rw [hE2] at this
      first | exact this _ _ (.inl rfl) | exact this _ _ (.inr rfl)
    obtain ⟨ev, hev⟩ : ∃ ev : Int, ev = if sonIds l want[i] = [] then 0 else 14 := ⟨_, rfl⟩
    have he8 : ¬ ev = 8 := by rw [hev]; split <;> decide
    have his : PCall Try.prog 155 [encL b l, I want[i]] (.d (I ev)) := by
      have := is_spec b l want[i] hc
      rw [if_neg (by simp [g1]), ← hev] at this
      exact this
    have hlast : leafTo l want (i + 1) = if leafTo l want i < ev then ev else leafTo l want i := by
      rw [hsu, hev]
      have := leafTo_val l want i
      rcases this with e | e <;> rw [e] <;> by_cases g2 : sonIds l want[i] = [] <;> simp [g2]
    refine callK_pcall his rfl rfl ?_
    simp -implicitDefEqProofs [↓gd_tt, ↓gd_ff, ↓gd_tf, ↓gd_ft, he8]
    rw [← hlast]
    refine upw_spec b l want[i] _ _ ?_
    simp -implicitDefEqProofs [↓gd_tt, ↓gd_ff, ↓gd_tf, ↓gd_ft]
    refine rangeYS mixed (up_yields b l want[i] 5 4 (small h64.2) hf (by decide)) (by simp) (by simp) (by simp) (by simp) (by simp) (by intro y hy; obtain ⟨p, _, rfl⟩ := List.mem_map.1 hy; simp [yQ]) (fun k hp => ∃ m', hp = [.var [.d (I x), .d (I y)], .var [.d (I x), .d (I y)], .arr 1 (m'.map I), .var [.ref 2 1 0 l.length l.length], .var [.d (encL b l)], .var [.d (I (upx l want[i] (k - 1)))]] ∧ k ≤ (up l want[i]).length ∧ UpdC l want[i] k (cnts l (want.take i)) m') ⟨_, rfl, Nat.zero_le _, updC_zero _ _ _⟩ (by rintro k hp ⟨m', rfl, _⟩; simp) ?_ ?_
    · rintro k hp ⟨m', rfl, hk, hu'⟩ hik L0 L1
      have hk' : k < (up l want[i]).length := by simpa using hik
      obtain ⟨u1, u2⟩ := up_mem hf (List.getElem_mem hk')
      have hcl : (cnts l (want.take i)).length = l.length := by simp [cnts]
      have hml : m'.length = l.length := hu'.1.trans hcl
      have hp1 : (up l want[i])[k].1 < m'.length := by rw [hml]; exact u1
      have hp2 : (up l want[i])[k].1 < (cnts l (want.take i)).length := by rw [hcl]; exact u1
      have hat := updC_at hf hu' hk' hp1 hp2
      have hbd : 0 ≤ m'[(up l want[i])[k].1] ∧ m'[(up l want[i])[k].1] ≤ i := by
        rw [hat]
        have := cntI_bound l l[(up l want[i])[k].1].Id (want.take i)
        simp only [cnts, List.getElem_map]
        simp at this
        omega
      have hmx := maxLen_i64
      have w1 : IntKind.i64.wrap (m'[(up l want[i])[k].1] + 1) = m'[(up l want[i])[k].1] + 1 := wr (by omega) (by omega)
      simp -implicitDefEqProofs [↓gd_tt, ↓gd_ff, ↓gd_tf, ↓gd_ft, yQ, u1, hp1, hml, w1]
      exact ⟨m'.set (up l want[i])[k].1 (m'[(up l want[i])[k].1] + 1), by simp [List.map_set], by omega, updC_step hf hu' hk' hp1⟩
    · rintro hp' ⟨m', rfl, hk, hu'⟩
      have hfull := cnts_full hf h' (by simpa using hu')
      subst hfull
      simp -implicitDefEqProofs [↓gd_tt, ↓gd_ff, ↓gd_tf, ↓gd_ft, wrap1 hw h']
      refine ⟨i + 1, ⟨by omega, fun j hj hji => ?_⟩, by omega, ⟨rfl, rfl⟩, rfl⟩
      rcases Nat.lt_or_eq_of_le (Nat.le_of_lt_succ hji) with k2 | rfl
      · exact hx' j hj k2
      · exact g1
  · have hW : wantsE l want = leafTo l want want.length := by
      unfold wantsE leafTo
      rw [List.take_length, if_neg]
      intro hany
      rw [List.any_eq_true] at hany
      obtain ⟨w, hwm, e⟩ := hany
      obtain ⟨j, hj, rfl⟩ := List.getElem_of_mem hwm
      have := hx' j hj (by omega)
      rw [this] at e; cases e
    simp -implicitDefEqProofs [↓gd_tt, ↓gd_ff, ↓gd_tf, ↓gd_ft, h']
    rcases leafTo_val l want want.length with e | e
    · rw [e]
      exact h1 (by rw [hW, e])
    · have := h0 (by rw [hW, e]; decide)
      rw [hW, e] at this
      rw [e]
      first | exact this _ _ (.inl rfl) | exact this _ _ (.inr rfl)
end Go.Idl
