/- The program's queues: Clone, Insert, Delete of the library, in memory.; The program's queues: Add, Set, Drop.; The program's queues: down, with its map.; The program's queues: Leaves, there, leaf.; The program's queues: up, Path, Children, Below. -/
import Derived.Test.YtdhifabhjlbjiaaPQ
import Derived.Test.YtdhifabhjlbjiaaIdlEx
import Derived.Test.YtdhifabhjlbjiaaMQall
import Derived.Test.YtdhifabhjlbjiaaQB
import Derived.Test.YtdhifabhjlbjiaaQD
set_option linter.all false
section
namespace Go.Idl
open Go.Proofs
set_option linter.unusedSimpArgs false
set_option linter.unusedVariables false
set_option maxRecDepth 8000
variable (b : Bool)

theorem wr {n : Int} (h : -9223372036854775808 ≤ n) (h' : n ≤ 9223372036854775807) : IntKind.i64.wrap n = n := wrap_i64 (by omega) (by omega)

end Go.Idl
end
section
namespace Go.Idl
open Go.Proofs
set_option linter.unusedSimpArgs false
set_option linter.unusedVariables false
set_option maxRecDepth 8000
variable (b : Bool)



theorem small {α : Type} {l : List α} (h : l.length ≤ 64) : l.length ≤ 140737488355328 := by omega
theorem sonsF_ids (id : Int) : ∀ (l : List Q) (i : Nat), (sonsF id l i).map (·.2.Id) = sonIds l id
  | [], _ => rfl
  | q :: r, i => by
    have ih := sonsF_ids id r (i + 1)
    unfold sonIds at ih ⊢
    by_cases h : q.Par = id <;> simp [sonsF, h, ih]
theorem leaf_nil {l : List Q} {id : Int} : (sons l id).length = 0 ↔ sonIds l id = [] := by
  rw [← sonsF_ids id l 0]; simp [sons]

theorem qleaf_spec (l : List Q) (id : Int) (hl : l.length ≤ maxLen) : PCall Try.prog 114 [encL b l, I id] (.d (.bool (decide (sonIds l id = [])))) := by
  refine pcallS (fn := Try.f114) [] [] mixed (bodyOf Try.f114) [.cell 4 4] Try.func114 rfl rfl (by decide) 8 rfl (by kernel_rfl) ?_
  simp -implicitDefEqProofs [↓gd_tt, ↓gd_ff, ↓gd_tf, ↓gd_ft, bodyOf, Try.f114, stripC, stripL, stripM, onsOf, upto, hintOf, freeOf, List.replicate]
  refine children_spec b l id _ _ ?_
  simp -implicitDefEqProofs [↓gd_tt, ↓gd_ff, ↓gd_tf, ↓gd_ft]
  refine rangeY mixed (children_yields b l id 1 2 hl) (by simp) (by simp) (by simp) (by simp) (by simp) (by intro y hy; obtain ⟨p, _, rfl⟩ := List.mem_map.1 hy; simp [yQ]) (fun k hp => hp = [.var [.d (.bool false)], .var [.d (encL b l)], .var [.d (I id)]] ∧ k = 0) ⟨rfl, rfl⟩ (by rintro k hp ⟨rfl, _⟩; simp) ?_ ?_
  · rintro k hp ⟨rfl, rfl⟩ hi L0 L1
    have hk' : 0 < (sons l id).length := by simpa using hi
    have hn : ¬ sonIds l id = [] := fun e => by rw [leaf_nil.2 e] at hk'; omega
    simp -implicitDefEqProofs [↓gd_tt, ↓gd_ff, ↓gd_tf, ↓gd_ft, yQ, hn]
  · rintro hp' ⟨rfl, hk⟩
    have hn : sonIds l id = [] := leaf_nil.1 (by simpa using hk)
    simp -implicitDefEqProofs [↓gd_tt, ↓gd_ff, ↓gd_tf, ↓gd_ft, hn]

end Go.Idl
end
section
namespace Go.Idl
open Go.Proofs
set_option linter.unusedSimpArgs false
set_option linter.unusedVariables false
set_option maxRecDepth 8000
variable (b : Bool)

end Go.Idl
end
section
namespace Go.Idl
open Go.Proofs
set_option linter.unusedSimpArgs false
set_option linter.unusedVariables false
set_option maxRecDepth 8000
variable (b : Bool)

theorem qleafE_spec (l : List Q) (id : Int) (hc : check l = 0) : PCall Try.prog 135 [encL b l, I id] (.d (I (if has l id = false then 8 else if sonIds l id = [] then 0 else 14))) := by
  have hr := check_rises hc
  have h64 := check_len hc
  have hl : l.length ≤ maxLen := by
    have : 64 ≤ maxLen := by decide
    omega
  refine pcallS (fn := Try.f135) [] [] mixed (bodyOf Try.f135) [.tmp 4] Try.func135 rfl rfl (by decide) 19 rfl (by kernel_rfl) ?_
  simp -implicitDefEqProofs [↓gd_tt, ↓gd_ff, ↓gd_tf, ↓gd_ft, bodyOf, Try.f135, stripC, stripL, stripM, onsOf, upto, hintOf, freeOf, List.replicate]
  refine callK_pcall (qfind_spec b l id (small h64.2) hr) rfl rfl ?_
  simp -implicitDefEqProofs [↓gd_tt, ↓gd_ff, ↓gd_tf, ↓gd_ft]
  refine ⟨fun e => by simp [e], fun e => callK_pcall (qleaf_spec b l id hl) rfl rfl ?_⟩
  simp -implicitDefEqProofs [↓gd_tt, ↓gd_ff, ↓gd_tf, ↓gd_ft, e]

end Go.Idl
end
section
namespace Go.Idl
open Go.Proofs
set_option linter.unusedSimpArgs false
set_option linter.unusedVariables false
set_option maxRecDepth 8000
set_option maxHeartbeats 1000000
variable (b : Bool)

theorem ltObjs_set {m : Nat} {A : IObj} : ∀ {os : List IObj} {i : Nat}, ltObjs m os = true → A.lt m = true → ltObjs m (os.set i A) = true
  | [], _, _, _ => rfl
  | o :: os, 0, h, ha => by
    simp only [ltObjs, Bool.and_eq_true] at h
    simp only [List.set_cons_zero, ltObjs, Bool.and_eq_true]
    exact ⟨ha, h.2⟩
  | o :: os, i + 1, h, ha => by
    simp only [ltObjs, Bool.and_eq_true] at h
    simp only [List.set_cons_succ, ltObjs, Bool.and_eq_true]
    exact ⟨h.1, ltObjs_set h.2 ha⟩
/-- the numbers on the way up -/
def upx (l : List Q) (id : Int) : Nat → Int
  | 0 => id
  | k + 1 => (find l (upx l id k)).Par
theorem up_drop {l : List Q} (h : form l = true) (id : Int) : ∀ k, k ≤ (up l id).length → up l (upx l id k) = (up l id).drop k
  | 0, _ => by simp [upx]
  | k + 1, hk => by
    have ih := up_drop h id k (by omega)
    have e := up_eq h (upx l id k)
    rw [ih, List.drop_eq_getElem_cons (by omega)] at e
    split at e
    · have := congrArg List.tail e
      simpa [upx] using this.symm
    · cases e
theorem up_at_k {l : List Q} (h : form l = true) (id : Int) {k : Nat} (hk : k < (up l id).length) : has l (upx l id k) = true ∧ (up l id)[k] = (pos l (upx l id k), find l (upx l id k)) := by
  have ih := up_drop h id k (by omega)
  have e := up_eq h (upx l id k)
  rw [ih, List.drop_eq_getElem_cons hk] at e
  split at e
  · rename_i hh
    exact ⟨hh, (List.cons.inj e).1⟩
  · cases e
theorem up_end {l : List Q} (h : form l = true) (id : Int) : has l (upx l id (up l id).length) = false := by
  have ih := up_drop h id _ (Nat.le_refl _)
  have e := up_eq h (upx l id (up l id).length)
  rw [ih, List.drop_length] at e
  cases hh : has l (upx l id (up l id).length) with
  | false => rfl
  | true => rw [if_pos hh] at e; cases e
theorem up_yields (l : List Q) (id : Int) (ka kb : Nat) (hl : l.length ≤ 140737488355328) (hf : form l = true) (hne : kb ≠ ka) :
    YieldsS Try.prog 189 [.ptr ka 0, .ptr kb 0] (fun i hp => hp[ka]? = some (.var [.d (I (upx l id (i - 1)))]) ∧ hp[kb]? = some (.var [.d (encL b l)])) (fun i hp => hp.set ka (.var [.d (I (upx l id i))])) ((up l id).map yQ) := by
  intro y hp J E hy h0 hJ hround hend
  have hr := form_rises hf
  obtain ⟨g1, g2, g3, g4⟩ := hJ 0 hp h0
  have hka : ka < hp.length := (List.getElem?_eq_some_iff.1 g3).1
  have hkb : kb < hp.length := (List.getElem?_eq_some_iff.1 g4).1
  have hset : hp.set ka (.var [.d (I (upx l id 0))]) = hp := by
    refine List.ext_getElem? fun i => ?_
    rw [List.getElem?_set]
    by_cases e : ka = i
    · subst e; simpa [hka] using g3.symm
    · simp [e]
  refine callS (fn := Try.f189) [] [] mixed (bodyOf Try.f189) [] Try.func189 rfl rfl (by decide) 28 rfl (by kernel_rfl) ?_
  simp -implicitDefEqProofs [↓gd_tt, ↓gd_ff, ↓gd_tf, ↓gd_ft, bodyOf, Try.f189, stripC, stripL, stripM, onsOf, upto, hintOf, freeOf, List.replicate]
  refine loopA mixed [false, false, false, false, true, true, true, true, true, true, true, true, true, true, true, true, true, true, true, true, true, true, true, true, true, true, true, true, true, true, true] (fun (x : Nat × List IObj) => []) (fun (x : Nat × List IObj) => x.2.set ka (.var [.d (I (upx l id x.1))])) (fun (x : Nat × List IObj) => J x.1 x.2 ∧ x.1 ≤ (up l id).length) (fun (x : Nat × List IObj) => (up l id).length - x.1) ((0, hp)) (⟨h0, Nat.zero_le _⟩) (by rw [hset]; simp [hy, hka, hkb, g2]) ?_
  rintro x hx
  obtain ⟨k, hp1⟩ := x
  obtain ⟨hj, hk⟩ := hx
  simp only at hj hk ⊢
  obtain ⟨p1, p2, p3, p4⟩ := hJ k hp1 hj
  have hka1 : ka < hp1.length := by omega
  have hkb1 : kb < hp1.length := by omega
  have s1 : ∀ A : IObj, (hp1.set ka A)[ka]? = some A := fun A => by rw [List.getElem?_set_self hka1]
  have s2 : ∀ A : IObj, (hp1.set ka A)[kb]? = some (.var [.d (encL b l)]) := fun A => by rw [List.getElem?_set_ne (by omega), p4]
  rcases Nat.lt_or_eq_of_le hk with h | h
  · obtain ⟨u1, u2⟩ := up_at_k hf id h
    have u3 := has_nonneg hf u1
    obtain ⟨_, u4, u5⟩ := place_pos hr u1
    have u6 := find_pos hr u1 u4
    simp -implicitDefEqProofs [↓gd_tt, ↓gd_ff, ↓gd_tf, ↓gd_ft, s1, s2, u3]
    refine callK_pcall (qfind_spec b l (upx l id k) hl hr) rfl rfl ?_
    simp -implicitDefEqProofs [↓gd_tt, ↓gd_ff, ↓gd_tf, ↓gd_ft, s1, s2, u1, u4]
    have hr' := hround k hp1 hj (by simpa using h)
    simp only [List.getElem_map, u2, yQ, u6] at hr'
    refine hr'.mono ?_
    rintro r hp2 ⟨b2, rfl, q1, q2, q3, q4⟩
    cases b2
    · simp -implicitDefEqProofs [↓gd_tt, ↓gd_ff, ↓gd_tf, ↓gd_ft]
      exact ⟨by omega, by rw [← q1, List.take_length]; exact q4 rfl⟩
    · obtain ⟨r1, r2, r3, r4⟩ := hJ (k + 1) hp2 (q3 rfl)
      simp -implicitDefEqProofs [↓gd_tt, ↓gd_ff, ↓gd_tf, ↓gd_ft, r3, r4, u4]
      have e1 : upx l id (k + 1) = l[pos l (upx l id k)].Par := by rw [upx, u6]
      refine ⟨k + 1, hp2, ⟨q3 rfl, by omega⟩, by omega, ⟨by omega, by omega, by omega⟩, ?_, by omega, ?_, Nat.le_refl _⟩
      · rw [r1]; exact ltObjs_set r2 rfl
      · rw [e1, List.take_of_length_le (by simp)]
  · have u1 := up_end hf id
    rw [← h] at u1
    have hfin : hp.length ≤ hp1.length ∧ E (List.take hp.length (hp1.set ka (IObj.var [V.d (I (upx l id k))]))) := by
      refine ⟨by omega, ?_⟩
      rw [List.take_of_length_le (by simp; omega)]
      have := hend hp1 (by simpa [← h] using hj)
      simpa [← h] using this
    by_cases hx0 : 0 ≤ upx l id k
    · simp -implicitDefEqProofs [↓gd_tt, ↓gd_ff, ↓gd_tf, ↓gd_ft, s1, s2, hx0]
      refine callK_pcall (qfind_spec b l (upx l id k) hl hr) rfl rfl ?_
      simp -implicitDefEqProofs [↓gd_tt, ↓gd_ff, ↓gd_tf, ↓gd_ft, s1, s2, u1]
      exact hfin
    · simp -implicitDefEqProofs [↓gd_tt, ↓gd_ff, ↓gd_tf, ↓gd_ft, s1, s2, hx0]
      exact hfin
theorem up_spec (l : List Q) (id : Int) (hp : List IObj) (K : V → List IObj → Prop) (hk : K (.fn (.func 189) [.ptr (hp.length + 1) 0, .ptr hp.length 0]) (hp ++ [.var [.d (encL b l)], .var [.d (I id)]])) : CallK Try.prog 127 [.d (encL b l), .d (I id)] hp K := by
  refine callS (fn := Try.f127) [] [] mixed (bodyOf Try.f127) [.tmp 4] Try.func127 rfl rfl (by decide) 4 rfl (by kernel_rfl) ?_
  simp -implicitDefEqProofs [↓gd_tt, ↓gd_ff, ↓gd_tf, ↓gd_ft, bodyOf, Try.f127, stripC, stripL, stripM, onsOf, upto, hintOf, freeOf, List.replicate]
  simpa using hk

end Go.Idl
end
