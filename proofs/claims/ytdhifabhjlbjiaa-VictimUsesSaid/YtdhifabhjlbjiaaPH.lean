/- The program's queues: Leaves, there, leaf. -/
import Derived.Test.YtdhifabhjlbjiaaPG
import Derived.Test.YtdhifabhjlbjiaaQB
set_option linter.all false
namespace Go.Idl
open Go.Proofs
set_option linter.unusedSimpArgs false
set_option linter.unusedVariables false
set_option maxRecDepth 8000
variable (b : Bool)

theorem qthere_spec (l : List Q) (id : Int) (hl : l.length ≤ maxLen) : PCall Try.prog 106 [encL b l, I id] (.d (I (there l id))) := by
  refine pcallS (fn := Try.f106) [] [] mixed (bodyOf Try.f106) [.tmp 4] Try.func106 rfl rfl (by decide) 19 rfl (by kernel_rfl) ?_
  simp -implicitDefEqProofs [↓gd_tt, ↓gd_ff, ↓gd_tf, ↓gd_ft, bodyOf, Try.f106, stripC, stripL, stripM, onsOf, upto, hintOf, freeOf, List.replicate]
  refine callK_pcall (qcheck_spec b l hl) rfl rfl ?_
  simp -implicitDefEqProofs [↓gd_tt, ↓gd_ff, ↓gd_tf, ↓gd_ft]
  refine ⟨fun hc => by simp [there, hc], fun hc => ?_⟩
  have hr := check_rises hc
  have h64 := check_len hc
  refine callK_pcall (qfind_spec b l id (small h64.2) hr) rfl rfl ?_
  simp -implicitDefEqProofs [↓gd_tt, ↓gd_ff, ↓gd_tf, ↓gd_ft, there, hc]

theorem qleafE_spec (l : List Q) (id : Int) (hc : check l = 0) : PCall Try.prog 135 [encL b l, I id] (.d (I (if has l id = false then 8 else if sonIds l id = [] then 0 else 14))) := by
  have hr := check_rises hc
  have h64 := check_len hc
  have hl : l.length ≤ maxLen := by
    have : 64 ≤ maxLen := by decide
    omega
  refine pcallS (fn := Try.f135) [] [] mixed (bodyOf Try.f135) [.tmp 4] Try.func135 rfl rfl (by decide) 19 rfl (by kernel_rfl) ?_
  simp -implicitDefEqProofs [↓gd_tt, ↓gd_ff, ↓gd_tf, ↓gd_ft, bodyOf, Try.f135, stripC, stripL, stripM, onsOf, upto, hintOf, freeOf, List.replicate]
  refine callK_pcall (qfind_spec b l id (small h64.2) hr) rfl rfl ?_
  simp -implicitDefEqProofs [↓gd_tt, ↓gd_ff, ↓gd_tf, ↓gd_ft]
  refine ⟨fun e => by simp [e], fun e => callK_pcall (qleaf_spec b l id hl) rfl rfl ?_⟩
  simp -implicitDefEqProofs [↓gd_tt, ↓gd_ff, ↓gd_tf, ↓gd_ft, e]

theorem downF_len (id : Int) : ∀ (l : List Q) (m : List Int), (downF id l m).length ≤ l.length
  | [], _ => Nat.le_refl _
  | q :: r, m => by
    unfold downF
    split
    · simp; exact downF_len id r _
    · simp; exact Nat.le_succ_of_le (downF_len id r _)
def leafIds (l : List Q) (r : List Int) : List Int := r.filter fun id => decide (sonIds l id = [])
theorem qleaves_spec (l : List Q) (hl : l.length ≤ maxLen) : PCall Try.prog 46 [encL b l] (if check l = 0 then .tup [.d (encI false (leafIds l (down l 0))), .d (I 0)] else .tup [.nil 1, .d (I (check l))]) := by
  refine pcallS (fn := Try.f46) [] [] mixed (bodyOf Try.f46) [.tmp 2, .tmp 3] Try.func46 rfl rfl (by decide) 22 rfl (by kernel_rfl) ?_
  simp -implicitDefEqProofs [↓gd_tt, ↓gd_ff, ↓gd_tf, ↓gd_ft, bodyOf, Try.f46, stripC, stripL, stripM, onsOf, upto, hintOf, freeOf, List.replicate]
  refine callK_pcall (qcheck_spec b l hl) rfl rfl ?_
  simp -implicitDefEqProofs [↓gd_tt, ↓gd_ff, ↓gd_tf, ↓gd_ft]
  refine ⟨fun hc => by simp [hc], fun hc => ?_⟩
  have hr := check_rises hc
  have h64 := check_len hc
  refine down_spec b l 0 _ _ ?_
  simp -implicitDefEqProofs [↓gd_tt, ↓gd_ff, ↓gd_tf, ↓gd_ft]
  refine rangeY mixed (down_yields b l 0 2 3 hl hr) (by simp) (by simp) (by simp) (by simp) (by simp) (by intro y hy; obtain ⟨p, _, rfl⟩ := List.mem_map.1 hy; simp [yI]) (fun k hp => ∃ v, hp = [.var [.d (encL b l)], .var [v], .var [.d (encL b l)], .var [.d (I 0)]] ∧ k ≤ (down l 0).length ∧ (v = .own 1 ((leafIds l ((down l 0).take k)).map I) ∨ (v = .nil 1 ∧ leafIds l ((down l 0).take k) = []))) ⟨_, rfl, Nat.zero_le _, .inr ⟨rfl, rfl⟩⟩ (by rintro k hp ⟨v, rfl, _, h | ⟨h, _⟩⟩ <;> subst h <;> simp) ?_ ?_
  · rintro k hp ⟨v, rfl, hk, hv⟩ hi L0 L1
    have hk' : k < (down l 0).length := by simpa using hi
    have hlen : (leafIds l ((down l 0).take k)).length ≤ 64 := by
      have h1 := downF_len 0 l []
      have h2 : (leafIds l ((down l 0).take k)).length ≤ ((down l 0).take k).length := List.length_filter_le _ _
      simp only [List.length_take, down] at h2
      simp only [down]
      omega
    have hb : ((leafIds l ((down l 0).take k)).length + 1) * 8 ≤ 140737488355328 := by omega
    have hstep : leafIds l ((down l 0).take (k + 1)) = leafIds l ((down l 0).take k) ++ (if sonIds l (down l 0)[k] = [] then [(down l 0)[k]] else []) := by
      rw [List.take_add_one, List.getElem?_eq_getElem hk']
      simp only [leafIds, List.filter_append, Option.toList_some]
      congr 1
      by_cases e : sonIds l (down l 0)[k] = [] <;> simp [e]
    rcases hv with rfl | ⟨rfl, hv⟩
    · simp -implicitDefEqProofs [↓gd_tt, ↓gd_ff, ↓gd_tf, ↓gd_ft, yI, hk']
      refine callK_pcall (qleaf_spec b l (down l 0)[k] hl) rfl rfl ?_
      simp -implicitDefEqProofs [↓gd_tt, ↓gd_ff, ↓gd_tf, ↓gd_ft]
      refine ⟨fun e => ⟨hb, by omega, by rw [hstep]; simp [e]⟩, fun e => ⟨by omega, by rw [hstep]; simp [e]⟩⟩
    · simp -implicitDefEqProofs [↓gd_tt, ↓gd_ff, ↓gd_tf, ↓gd_ft, yI, hk']
      refine callK_pcall (qleaf_spec b l (down l 0)[k] hl) rfl rfl ?_
      simp -implicitDefEqProofs [↓gd_tt, ↓gd_ff, ↓gd_tf, ↓gd_ft]
      refine ⟨fun e => ⟨by omega, by rw [hstep, hv]; simp [e]⟩, fun e => ⟨by omega, by rw [hstep, hv]; simp [e]⟩⟩
  · rintro hp' ⟨v, rfl, hk, hv⟩
    rcases hv with rfl | ⟨rfl, hv⟩
    · simp -implicitDefEqProofs [↓gd_tt, ↓gd_ff, ↓gd_tf, ↓gd_ft, hc]
    · simp -implicitDefEqProofs [↓gd_tt, ↓gd_ff, ↓gd_tf, ↓gd_ft, hc]
      simpa using hv
end Go.Idl
