/- The document's answer for queues, what it computes: contracts of the packages furlongref05, furlongref02, furlongref01. -/
import Derived.Test.YtdhifabhjlbjiaaQF
import Derived.Test.YtdhifabhjlbjiaaMQall
set_option linter.all false
namespace Go.Idl
open Go.Proofs
set_option linter.unusedSimpArgs false
set_option linter.unusedVariables false
set_option maxRecDepth 8000

variable (b : Bool)
theorem place_spec (l : List Q) (id : Int) (hl : l.length ≤ maxLen) : PCall Try.prog 113 [encL b l, I id] (.d (I (place l id))) := by
  refine pcallS (fn := Try.f113) [] [] mixed (bodyOf Try.f113) [.tmp 4] Try.func113 rfl rfl (by decide) 18 rfl (by kernel_rfl) ?_
  simp -implicitDefEqProofs [↓gd_tt, ↓gd_ff, ↓gd_tf, ↓gd_ft, bodyOf, Try.f113, stripC, stripL, stripM, onsOf, upto, hintOf, freeOf, List.replicate]
  refine loopA mixed [false, false, false, false, true, true, true, false, false, true, true, true, true, true, true, true, true, true, true, true] (fun (i : Nat) => [(9, .d (I i))]) (fun (i : Nat) => []) (fun (i : Nat) => i ≤ l.length ∧ placeF id (l.drop i) i = place l id) (fun (i : Nat) => l.length - i) (0) (⟨Nat.zero_le _, rfl⟩) (by simp) ?_
  rintro i hx
  obtain ⟨hi, hp⟩ := hx
  rcases Nat.lt_or_eq_of_le hi with h | h
  · rw [List.drop_eq_getElem_cons h, placeF] at hp
    simp -implicitDefEqProofs [↓gd_tt, ↓gd_ff, ↓gd_tf, ↓gd_ft, h, encQ, wrap1 hl h]
    refine ⟨fun e => by rw [if_pos e] at hp; exact hp, fun e => ⟨⟨by omega, by rw [if_neg e] at hp; exact hp⟩, by omega⟩⟩
  · simp -implicitDefEqProofs [↓gd_tt, ↓gd_ff, ↓gd_tf, ↓gd_ft, h]
    rw [h, List.drop_length, placeF] at hp; exact hp

theorem has_spec (l : List Q) (id : Int) (hl : l.length ≤ maxLen) : PCall Try.prog 109 [encL b l, I id] (.d (.bool (has l id))) := by
  refine pcallS (fn := Try.f109) [] [] mixed (bodyOf Try.f109) [.tmp 4] Try.func109 rfl rfl (by decide) 7 rfl (by kernel_rfl) ?_
  simp -implicitDefEqProofs [↓gd_tt, ↓gd_ff, ↓gd_tf, ↓gd_ft, bodyOf, Try.f109, stripC, stripL, stripM, onsOf, upto, hintOf, freeOf, List.replicate]
  refine callK_pcall (place_spec b l id hl) rfl rfl ?_
  simp -implicitDefEqProofs [↓gd_tt, ↓gd_ff, ↓gd_tf, ↓gd_ft, has]

theorem find_spec (l : List Q) (id : Int) (hl : l.length ≤ maxLen) : PCall Try.prog 140 [encL b l, I id] (.d (encQ (find l id))) := by
  refine pcallS (fn := Try.f140) [] [] mixed (bodyOf Try.f140) [.cell 4 43] Try.func140 rfl rfl (by decide) 14 rfl (by kernel_rfl) ?_
  simp -implicitDefEqProofs [↓gd_tt, ↓gd_ff, ↓gd_tf, ↓gd_ft, bodyOf, Try.f140, stripC, stripL, stripM, onsOf, upto, hintOf, freeOf, List.replicate]
  refine callK_pcall (place_spec b l id hl) rfl rfl ?_
  by_cases h : 0 ≤ place l id
  · obtain ⟨h1, h2⟩ := place_lt h
    have h3 : ¬ place l id < 0 := by omega
    simp -implicitDefEqProofs [↓gd_tt, ↓gd_ff, ↓gd_tf, ↓gd_ft, h, h1, h2, h3, encQ, find]
  · have h3 : place l id < 0 := by omega
    simp -implicitDefEqProofs [↓gd_tt, ↓gd_ff, ↓gd_tf, ↓gd_ft, h, h3, encQ, find, q0]

theorem good_spec (a b : Int) : PCall Try.prog 123 [.agg [I a, I b]] (.d (.bool (good a b))) := by
  refine pcallS (fn := Try.f123) [] [] mixed (bodyOf Try.f123) [.tmp 2] Try.func123 rfl rfl (by decide) 20 rfl (by kernel_rfl) ?_
  simp -implicitDefEqProofs [↓gd_tt, ↓gd_ff, ↓gd_tf, ↓gd_ft, bodyOf, Try.f123, stripC, stripL, stripM, onsOf, upto, hintOf, freeOf, List.replicate]
  simp only [good]
  (repeat' (first | apply And.intro | intro _)) <;> first | omega | (simp_all; done) | (simp_all; omega)

theorem fits_spec (a b c d : Int) : PCall Try.prog 139 [.agg [I a, I b], .agg [I c, I d]] (.d (.bool (fits a b c d))) := by
  refine pcallS (fn := Try.f139) [] [] mixed (bodyOf Try.f139) [.tmp 4] Try.func139 rfl rfl (by decide) 15 rfl (by kernel_rfl) ?_
  simp -implicitDefEqProofs [↓gd_tt, ↓gd_ff, ↓gd_tf, ↓gd_ft, bodyOf, Try.f139, stripC, stripL, stripM, onsOf, upto, hintOf, freeOf, List.replicate]
  simp only [fits]
  (repeat' (first | apply And.intro | intro _)) <;> first | omega | (simp_all; done) | (simp_all; omega)
theorem form_spec (l : List Q) (hl : l.length ≤ maxLen) : PCall Try.prog 122 [encL b l] (.d (.bool (form l))) := by
  refine pcallS (fn := Try.f122) [] [] mixed (bodyOf Try.f122) [.tmp 2] Try.func122 rfl rfl (by decide) 51 rfl (by kernel_rfl) ?_
  simp -implicitDefEqProofs [↓gd_tt, ↓gd_ff, ↓gd_tf, ↓gd_ft, bodyOf, Try.f122, stripC, stripL, stripM, onsOf, upto, hintOf, freeOf, List.replicate]
  refine loopA mixed [false, false, true, true, true, false, false, true, true, true, true, true, true, true, true, true, true, true, true, true, true, true, true, true, true, true, true, true, true, true, true, true, true, true, true, true, true, true, true, true, true, true, true, true, true, true, true, true, true] (fun (i : Nat) => [(7, .d (I i))]) (fun (i : Nat) => []) (fun (i : Nat) => i ≤ l.length ∧ formF l (l.drop i) i = form l) (fun (i : Nat) => l.length - i) (0) (⟨Nat.zero_le _, rfl⟩) (by simp) ?_
  rintro i hx
  obtain ⟨hi, hp⟩ := hx
  rcases Nat.lt_or_eq_of_le hi with h | h
  · rw [List.drop_eq_getElem_cons h, formF] at hp
    rcases Nat.eq_zero_or_pos i with rfl | h0
    · have hw := wrap1 hl h
      simp -implicitDefEqProofs [↓gd_tt, ↓gd_ff, ↓gd_tf, ↓gd_ft, h, encQ] at hw ⊢
      simp [formAt] at hp
      simp -implicitDefEqProofs [↓gd_tt, ↓gd_ff, ↓gd_tf, ↓gd_ft, hw]
      (repeat' (first | apply And.intro | intro _)) <;> first | omega | (simp_all; done) | (simp_all; omega)
    · have h1 : ¬ ((i : Int) = 0) := by omega
      have h2 : i - 1 < l.length := by omega
      have h3 : ¬ (i = 0) := by omega
      have h4 : ((i - 1 : Nat) : Int) < (l.length : Int) := by omega
      simp -implicitDefEqProofs [↓gd_tt, ↓gd_ff, ↓gd_tf, ↓gd_ft, h, h0, h1, h2, h3, wrap1 hl h, wrapm1 hl h h0, h4, encQ]
      have hg : l.getD (i - 1) q0 = l[i - 1] := by simp [h2]
      simp only [formAt, if_neg h3, hg] at hp
      have hps : PCall Try.prog 113 [.sl b 7 ((l.map encQ).take i), I l[i].Par] (.d (I (place (l.take i) l[i].Par))) := by rw [← List.map_take]; exact place_spec b _ _ (by simp; omega)
      refine ⟨fun e1 => ⟨hi, free_pcall hps rfl rfl ?_⟩, fun e1 => by rw [← hp]; simp; omega⟩
      simp -implicitDefEqProofs [↓gd_tt, ↓gd_ff, ↓gd_tf, ↓gd_ft, wrap1 hl h]
      refine ⟨fun e2 => by rw [← hp]; simp; omega, fun e2 => ⟨⟨by omega, ?_⟩, by omega⟩⟩
      rw [← hp]; simp [e1, e2]
  · simp -implicitDefEqProofs [↓gd_tt, ↓gd_ff, ↓gd_tf, ↓gd_ft, h]
    rw [h, List.drop_length, formF] at hp; simpa using hp
theorem mins_spec (l : List Q) (hl : l.length ≤ maxLen) : PCall Try.prog 124 [encL b l] (.d (.bool (mins l))) := by
  refine pcallS (fn := Try.f124) [] [] mixed (bodyOf Try.f124) [.tmp 2] Try.func124 rfl rfl (by decide) 57 rfl (by kernel_rfl) ?_
  simp -implicitDefEqProofs [↓gd_tt, ↓gd_ff, ↓gd_tf, ↓gd_ft, bodyOf, Try.f124, stripC, stripL, stripM, onsOf, upto, hintOf, freeOf, List.replicate]
  refine loopA mixed [false, false, true, false, true, true, true, false, true, false, false, true, true, true, true, true, true, true, true, true, true, true, true, true, true, true, true, true, true, true, true, true, true, true, true, true, true, true, true, true, true, true, true, true, true, true, true, true, true, true, true, true, true, true, true, true, true, true] (fun (i : Nat) => [(11, .d (I i))]) (fun (i : Nat) => []) (fun (i : Nat) => i ≤ l.length ∧ minsF l (l.drop i) = mins l) (fun (i : Nat) => l.length - i) (0) (⟨Nat.zero_le _, rfl⟩) (by simp) ?_
  rintro i hx
  obtain ⟨hi, hp⟩ := hx
  rcases Nat.lt_or_eq_of_le hi with h | h
  · rw [List.drop_eq_getElem_cons h, minsF] at hp
    simp -implicitDefEqProofs [↓gd_tt, ↓gd_ff, ↓gd_tf, ↓gd_ft, h, encQ]
    refine loopA mixed [false, false, false, false, false, true, true, false, true, false, false, false, false, false, false, false, false, true, true, true, true, true, true, true, true, true, true, true, true, true, true, true, true, true, true, true, true] (fun (j : Nat × Int × Int) => [(5, .d (I j.2.1)), (6, .d (I j.2.2)), (17, .d (I j.1))]) (fun (j : Nat × Int × Int) => [.var [.d (I l[i].Id), .d (I l[i].Par), .d (I l[i].Wt), .d (I l[i].QC), .d (I l[i].QM), .d (I l[i].MC), .d (I l[i].MM)]]) (fun (j : Nat × Int × Int) => j.1 ≤ l.length ∧ sumMin l[i].Id (l.drop j.1) j.2.1 j.2.2 = sumMin l[i].Id l 0 0) (fun (j : Nat × Int × Int) => l.length - j.1) ((0, 0, 0)) (⟨Nat.zero_le _, rfl⟩) (by simp) ?_
    rintro j hx
    obtain ⟨j, a, c⟩ := j
    obtain ⟨hj, hq⟩ := hx
    simp only at hj hq ⊢
    rcases Nat.lt_or_eq_of_le hj with k | k
    · rw [List.drop_eq_getElem_cons k, sumMin] at hq
      simp -implicitDefEqProofs [↓gd_tt, ↓gd_ff, ↓gd_tf, ↓gd_ft, k, encQ, wrap1 hl k]
      refine ⟨fun e => ⟨_, _, _, ⟨?_, ?_⟩, ?_, rfl, rfl, rfl⟩, fun e => ⟨_, _, _, ⟨?_, ?_⟩, ?_, rfl, rfl, rfl⟩⟩
      all_goals first | omega | (rw [if_pos e] at hq; exact hq) | (rw [if_neg e] at hq; exact hq)
    · simp -implicitDefEqProofs [↓gd_tt, ↓gd_ff, ↓gd_tf, ↓gd_ft, k]
      refine callK_pcall (fits_spec _ _ _ _) rfl rfl ?_
      rw [k, List.drop_length, sumMin] at hq
      have ha : a = (sumMin l[i].Id l 0 0).1 := by rw [← hq]
      have hb : c = (sumMin l[i].Id l 0 0).2 := by rw [← hq]
      simp only [minsAt, ← ha, ← hb] at hp
      simp -implicitDefEqProofs [↓gd_tt, ↓gd_ff, ↓gd_tf, ↓gd_ft, wrap1 hl h]
      refine ⟨fun e1 => ⟨fun e2 => ⟨fun e3 => ?_, fun e3 => ⟨⟨by omega, ?_⟩, by omega⟩⟩, fun e2 => ?_⟩, fun e1 => ?_⟩
      · rw [← hp]; simp [fits]; omega
      · rw [← hp]; simp only [fits] at e1 ⊢; simp [e1, e2, e3]
      · rw [← hp]; simp [fits]; omega
      · rw [← hp]; simp [e1]
  · simp -implicitDefEqProofs [↓gd_tt, ↓gd_ff, ↓gd_tf, ↓gd_ft, h]
    rw [h, List.drop_length, minsF] at hp; exact hp.symm
theorem refCheck_spec (l : List Q) (hl : l.length ≤ maxLen) : PCall Try.prog 44 [encL b l] (.d (I (check l))) := by
  refine pcallS (fn := Try.f44) [] [] mixed (bodyOf Try.f44) [.tmp 2] Try.func44 rfl rfl (by decide) 42 rfl (by kernel_rfl) ?_
  simp -implicitDefEqProofs [↓gd_tt, ↓gd_ff, ↓gd_tf, ↓gd_ft, bodyOf, Try.f44, stripC, stripL, stripM, onsOf, upto, hintOf, freeOf, List.replicate]
  refine ⟨fun h => ?_, fun h => ?_⟩
  · have : 64 < l.length := by omega
    simp [check, this]
  have h64 : ¬ 64 < l.length := by omega
  refine callK_pcall (form_spec b l hl) rfl rfl ?_
  simp -implicitDefEqProofs [↓gd_tt, ↓gd_ff, ↓gd_tf, ↓gd_ft]
  refine ⟨fun hf => ?_, fun hf => ?_⟩
  · simp [check, h64, hf]
  refine loopA mixed [false, false, true, false, true, false, false, false, false, false, false, false, false, false, false, true, true, true, true, true, true, true, true, true, true, true, true, true, true, true, true, true, true, true, true, true, true, true, true, true] (fun (i : Nat) => [(15, .d (I i))]) (fun (i : Nat) => []) (fun (i : Nat) => i ≤ l.length ∧ argsF (l.drop i) = argsF l) (fun (i : Nat) => l.length - i) (0) (⟨Nat.zero_le _, rfl⟩) (by simp) ?_
  rintro i hx
  obtain ⟨hi, hp⟩ := hx
  rcases Nat.lt_or_eq_of_le hi with h | h
  · rw [List.drop_eq_getElem_cons h, argsF] at hp
    have hbad : okQ l[i] = false → (1 : Int) = check l := fun e => by
      rw [e] at hp; simp at hp
      simp [check, h64, hf, hp]
    simp -implicitDefEqProofs [↓gd_tt, ↓gd_ff, ↓gd_tf, ↓gd_ft, h, encQ]
    refine ⟨fun e1 => ⟨fun e2 => callK_pcall (good_spec _ _) rfl rfl ?_, fun e2 => hbad (by simp [okQ]; omega)⟩, fun e1 => hbad (by simp [okQ]; omega)⟩
    simp -implicitDefEqProofs [↓gd_tt, ↓gd_ff, ↓gd_tf, ↓gd_ft]
    refine ⟨fun e3 => callK_pcall (good_spec _ _) rfl rfl ?_, fun e3 => hbad (by simp [okQ, e3])⟩
    simp -implicitDefEqProofs [↓gd_tt, ↓gd_ff, ↓gd_tf, ↓gd_ft, wrap1 hl h]
    refine ⟨fun e4 => hbad (by simp [okQ, e4]), fun e4 => ⟨⟨by omega, ?_⟩, by omega⟩⟩
    rw [← hp]; simp [okQ, e1, e2, e3, e4]
  · simp -implicitDefEqProofs [↓gd_tt, ↓gd_ff, ↓gd_tf, ↓gd_ft, h]
    rw [h, List.drop_length, argsF] at hp
    refine callK_pcall (mins_spec b l hl) rfl rfl ?_
    simp -implicitDefEqProofs [↓gd_tt, ↓gd_ff, ↓gd_tf, ↓gd_ft]
    simp [check, h64, hf, ← hp]

end Go.Idl
