/- The program's audit, its smaller parts.; The program's audit: what it ranges over.; Lists that grow along the ways to the root. No program here.; The program's audit: the queues that are over their quotas.; Maps as plain lists: what stands at a key, what is put, what is taken out.; The program's audit: nodes whose leases are beyond them.; How much there is in a state that is audited; places in its lists. No program here. -/
import Derived.Test.YtkfpaffcglijeaaPart15
import Derived.Test.YtkfpaffcglijeaaPart14
import Derived.Test.YtkfpaffcglijeaaPart13
import Derived.Test.YtkfpaffcglijeaaPart11
set_option linter.all false
section
namespace Go.Idl
open Go.Proofs
set_option linter.unusedSimpArgs false
set_option linter.unusedVariables false
set_option maxRecDepth 8000
set_option maxHeartbeats 2000000
variable (b : Bool)

open Classical in
theorem risesN_spec (l : List Nd) (hl : l.length ≤ maxLen) : FCall Try.prog 91 [.d (encNs b l), .fn (.func 92) []] (.d (.bool (decide (Rising (l.map (·.id)))))) := by
  have hone : ∀ x : Nd, PCall Try.prog 92 [encNd x] (.d (I x.id)) := fun x => by
    refine pcallS (fn := Try.f92) [] [] mixed (bodyOf Try.f92) [.tmp 2] Try.func92 rfl rfl (by decide) 4 rfl (by kernel_rfl) ?_
    simp -implicitDefEqProofs [↓gd_tt, ↓gd_ff, ↓gd_tf, ↓gd_ft, bodyOf, Try.f92, stripC, stripL, stripM, onsOf, upto, hintOf, freeOf, List.replicate]
  refine fcallS (fn := Try.f91) [] [(4, 14)] mixed (bodyOf Try.f91) [.tmp 4] Try.func91 rfl rfl (by decide) 24 rfl (by kernel_rfl) ?_
  simp -implicitDefEqProofs [↓gd_tt, ↓gd_ff, ↓gd_tf, ↓gd_ft, bodyOf, Try.f91, stripC, stripL, stripM, onsOf, upto, hintOf, freeOf, List.replicate]
  refine loopA mixed [false, false, false, false, true, true, true, true, true, true, true, true, true, true, true, true, true, true, true, true, true, true, true, true, true, true] (fun (i : Nat) => [(5, .d (I i))]) (fun (i : Nat) => []) (fun (i : Nat) => 1 ≤ i ∧ (i ≤ l.length ∨ i = 1) ∧ ∀ j (h : j + 1 < l.length), j + 1 < i → l[j].id < l[j + 1].id) (fun (i : Nat) => l.length - i) (1) (⟨Nat.le_refl _, .inr rfl, fun j _ h => by omega⟩) (by simp) ?_
  rintro i hx
  obtain ⟨h0, hi, hx⟩ := hx
  by_cases h : i < l.length
  · have hm1 : i - 1 < l.length := by omega
    have hwm := wrapm1 hl h (by omega)
    simp -implicitDefEqProofs [↓gd_tt, ↓gd_ff, ↓gd_tf, ↓gd_ft, h, hm1, hwm]
    refine free_pcall (hone l[i - 1]) rfl rfl ?_
    simp -implicitDefEqProofs [↓gd_tt, ↓gd_ff, ↓gd_tf, ↓gd_ft, h, hm1, hwm]
    refine free_pcall (hone l[i]) rfl rfl ?_
    simp -implicitDefEqProofs [↓gd_tt, ↓gd_ff, ↓gd_tf, ↓gd_ft, wrap1 hl h]
    refine ⟨fun e hR => ?_, fun e => ⟨⟨.inl (by omega), fun j hj hji => ?_⟩, by omega⟩⟩
    · have := hR (i - 1) (by simp; omega)
      have e2 : i - 1 + 1 = i := by omega
      simp only [e2, List.getElem_map] at this
      omega
    · by_cases e2 : j + 1 = i
      · subst e2; simpa using e
      · exact hx j hj (by omega)
  · have hR : Rising (l.map (·.id)) := fun j hj => by
      simp only [List.length_map] at hj
      simp only [List.getElem_map]
      exact hx j hj (by omega)
    have hni : ¬ ((i : Int) < l.length) := by omega
    simp -implicitDefEqProofs [↓gd_tt, ↓gd_ff, ↓gd_tf, ↓gd_ft, hni, hR]
theorem risesT_spec (l : List Tk) (hl : l.length ≤ maxLen) : FCall Try.prog 93 [.d (encTs b l), .fn (.func 94) []] (.d (.bool (decide (Rising (l.map (·.id)))))) := by
  have hone : ∀ x : Tk, PCall Try.prog 94 [encTk b x] (.d (I x.id)) := fun x => by
    refine pcallS (fn := Try.f94) [] [] mixed (bodyOf Try.f94) [.tmp 2] Try.func94 rfl rfl (by decide) 4 rfl (by kernel_rfl) ?_
    simp -implicitDefEqProofs [↓gd_tt, ↓gd_ff, ↓gd_tf, ↓gd_ft, bodyOf, Try.f94, stripC, stripL, stripM, onsOf, upto, hintOf, freeOf, List.replicate]
  refine fcallS (fn := Try.f93) [] [(4, 14)] mixed (bodyOf Try.f93) [.tmp 4] Try.func93 rfl rfl (by decide) 24 rfl (by kernel_rfl) ?_
  simp -implicitDefEqProofs [↓gd_tt, ↓gd_ff, ↓gd_tf, ↓gd_ft, bodyOf, Try.f93, stripC, stripL, stripM, onsOf, upto, hintOf, freeOf, List.replicate]
  refine loopA mixed [false, false, false, false, true, true, true, true, true, true, true, true, true, true, true, true, true, true, true, true, true, true, true, true, true, true] (fun (i : Nat) => [(5, .d (I i))]) (fun (i : Nat) => []) (fun (i : Nat) => 1 ≤ i ∧ (i ≤ l.length ∨ i = 1) ∧ ∀ j (h : j + 1 < l.length), j + 1 < i → l[j].id < l[j + 1].id) (fun (i : Nat) => l.length - i) (1) (⟨Nat.le_refl _, .inr rfl, fun j _ h => by omega⟩) (by simp) ?_
  rintro i hx
  obtain ⟨h0, hi, hx⟩ := hx
  by_cases h : i < l.length
  · have hm1 : i - 1 < l.length := by omega
    have hwm := wrapm1 hl h (by omega)
    simp -implicitDefEqProofs [↓gd_tt, ↓gd_ff, ↓gd_tf, ↓gd_ft, h, hm1, hwm]
    refine free_pcall (hone l[i - 1]) rfl rfl ?_
    simp -implicitDefEqProofs [↓gd_tt, ↓gd_ff, ↓gd_tf, ↓gd_ft, h, hm1, hwm]
    refine free_pcall (hone l[i]) rfl rfl ?_
    simp -implicitDefEqProofs [↓gd_tt, ↓gd_ff, ↓gd_tf, ↓gd_ft, wrap1 hl h]
    refine ⟨fun e hR => ?_, fun e => ⟨⟨.inl (by omega), fun j hj hji => ?_⟩, by omega⟩⟩
    · have := hR (i - 1) (by simp; omega)
      have e2 : i - 1 + 1 = i := by omega
      simp only [e2, List.getElem_map] at this
      omega
    · by_cases e2 : j + 1 = i
      · subst e2; simpa using e
      · exact hx j hj (by omega)
  · have hR : Rising (l.map (·.id)) := fun j hj => by
      simp only [List.length_map] at hj
      simp only [List.getElem_map]
      exact hx j hj (by omega)
    have hni : ¬ ((i : Int) < l.length) := by omega
    simp -implicitDefEqProofs [↓gd_tt, ↓gd_ff, ↓gd_tf, ↓gd_ft, hni, hR]
theorem risesL_spec (l : List Le) (hl : l.length ≤ maxLen) : FCall Try.prog 95 [.d (encLfs b l), .fn (.func 96) []] (.d (.bool (decide (Rising (l.map (·.t)))))) := by
  have hone : ∀ x : Le, PCall Try.prog 96 [encLf b x] (.d (I x.t)) := fun x => by
    refine pcallS (fn := Try.f96) [] [] mixed (bodyOf Try.f96) [.tmp 2] Try.func96 rfl rfl (by decide) 4 rfl (by kernel_rfl) ?_
    simp -implicitDefEqProofs [↓gd_tt, ↓gd_ff, ↓gd_tf, ↓gd_ft, bodyOf, Try.f96, stripC, stripL, stripM, onsOf, upto, hintOf, freeOf, List.replicate]
  refine fcallS (fn := Try.f95) [] [(4, 14)] mixed (bodyOf Try.f95) [.tmp 4] Try.func95 rfl rfl (by decide) 24 rfl (by kernel_rfl) ?_
  simp -implicitDefEqProofs [↓gd_tt, ↓gd_ff, ↓gd_tf, ↓gd_ft, bodyOf, Try.f95, stripC, stripL, stripM, onsOf, upto, hintOf, freeOf, List.replicate]
  refine loopA mixed [false, false, false, false, true, true, true, true, true, true, true, true, true, true, true, true, true, true, true, true, true, true, true, true, true, true] (fun (i : Nat) => [(5, .d (I i))]) (fun (i : Nat) => []) (fun (i : Nat) => 1 ≤ i ∧ (i ≤ l.length ∨ i = 1) ∧ ∀ j (h : j + 1 < l.length), j + 1 < i → l[j].t < l[j + 1].t) (fun (i : Nat) => l.length - i) (1) (⟨Nat.le_refl _, .inr rfl, fun j _ h => by omega⟩) (by simp) ?_
  rintro i hx
  obtain ⟨h0, hi, hx⟩ := hx
  by_cases h : i < l.length
  · have hm1 : i - 1 < l.length := by omega
    have hwm := wrapm1 hl h (by omega)
    simp -implicitDefEqProofs [↓gd_tt, ↓gd_ff, ↓gd_tf, ↓gd_ft, h, hm1, hwm]
    refine free_pcall (hone l[i - 1]) rfl rfl ?_
    simp -implicitDefEqProofs [↓gd_tt, ↓gd_ff, ↓gd_tf, ↓gd_ft, h, hm1, hwm]
    refine free_pcall (hone l[i]) rfl rfl ?_
    simp -implicitDefEqProofs [↓gd_tt, ↓gd_ff, ↓gd_tf, ↓gd_ft, wrap1 hl h]
    refine ⟨fun e hR => ?_, fun e => ⟨⟨.inl (by omega), fun j hj hji => ?_⟩, by omega⟩⟩
    · have := hR (i - 1) (by simp; omega)
      have e2 : i - 1 + 1 = i := by omega
      simp only [e2, List.getElem_map] at this
      omega
    · by_cases e2 : j + 1 = i
      · subst e2; simpa using e
      · exact hx j hj (by omega)
  · have hR : Rising (l.map (·.t)) := fun j hj => by
      simp only [List.length_map] at hj
      simp only [List.getElem_map]
      exact hx j hj (by omega)
    have hni : ¬ ((i : Int) < l.length) := by omega
    simp -implicitDefEqProofs [↓gd_tt, ↓gd_ff, ↓gd_tf, ↓gd_ft, hni, hR]
theorem risesH_spec (l : List Hu) (hl : l.length ≤ maxLen) : FCall Try.prog 97 [.d (encHs b l), .fn (.func 98) []] (.d (.bool (decide (Rising (l.map (·.q)))))) := by
  have hone : ∀ x : Hu, PCall Try.prog 98 [encHu x] (.d (I x.q)) := fun x => by
    refine pcallS (fn := Try.f98) [] [] mixed (bodyOf Try.f98) [.tmp 2] Try.func98 rfl rfl (by decide) 4 rfl (by kernel_rfl) ?_
    simp -implicitDefEqProofs [↓gd_tt, ↓gd_ff, ↓gd_tf, ↓gd_ft, bodyOf, Try.f98, stripC, stripL, stripM, onsOf, upto, hintOf, freeOf, List.replicate]
  refine fcallS (fn := Try.f97) [] [(4, 14)] mixed (bodyOf Try.f97) [.tmp 4] Try.func97 rfl rfl (by decide) 24 rfl (by kernel_rfl) ?_
  simp -implicitDefEqProofs [↓gd_tt, ↓gd_ff, ↓gd_tf, ↓gd_ft, bodyOf, Try.f97, stripC, stripL, stripM, onsOf, upto, hintOf, freeOf, List.replicate]
  refine loopA mixed [false, false, false, false, true, true, true, true, true, true, true, true, true, true, true, true, true, true, true, true, true, true, true, true, true, true] (fun (i : Nat) => [(5, .d (I i))]) (fun (i : Nat) => []) (fun (i : Nat) => 1 ≤ i ∧ (i ≤ l.length ∨ i = 1) ∧ ∀ j (h : j + 1 < l.length), j + 1 < i → l[j].q < l[j + 1].q) (fun (i : Nat) => l.length - i) (1) (⟨Nat.le_refl _, .inr rfl, fun j _ h => by omega⟩) (by simp) ?_
  rintro i hx
  obtain ⟨h0, hi, hx⟩ := hx
  by_cases h : i < l.length
  · have hm1 : i - 1 < l.length := by omega
    have hwm := wrapm1 hl h (by omega)
    simp -implicitDefEqProofs [↓gd_tt, ↓gd_ff, ↓gd_tf, ↓gd_ft, h, hm1, hwm]
    refine free_pcall (hone l[i - 1]) rfl rfl ?_
    simp -implicitDefEqProofs [↓gd_tt, ↓gd_ff, ↓gd_tf, ↓gd_ft, h, hm1, hwm]
    refine free_pcall (hone l[i]) rfl rfl ?_
    simp -implicitDefEqProofs [↓gd_tt, ↓gd_ff, ↓gd_tf, ↓gd_ft, wrap1 hl h]
    refine ⟨fun e hR => ?_, fun e => ⟨⟨.inl (by omega), fun j hj hji => ?_⟩, by omega⟩⟩
    · have := hR (i - 1) (by simp; omega)
      have e2 : i - 1 + 1 = i := by omega
      simp only [e2, List.getElem_map] at this
      omega
    · by_cases e2 : j + 1 = i
      · subst e2; simpa using e
      · exact hx j hj (by omega)
  · have hR : Rising (l.map (·.q)) := fun j hj => by
      simp only [List.length_map] at hj
      simp only [List.getElem_map]
      exact hx j hj (by omega)
    have hni : ¬ ((i : Int) < l.length) := by omega
    simp -implicitDefEqProofs [↓gd_tt, ↓gd_ff, ↓gd_tf, ↓gd_ft, hni, hR]
open Classical in
theorem formA_spec (s : Sta) (hq : s.qs.length ≤ maxLen) (hn : s.ns.length ≤ maxLen) (ht : s.ts.length ≤ maxLen) (hl : s.ls.length ≤ maxLen) (hh : s.hs.length ≤ maxLen) : PCall Try.prog 42 [encSt b s] (.d (.bool (decide (formA s)))) := by
  have e : decide (formA s) = (decide (check s.qs = 0) && (decide (Rising (s.ns.map (·.id))) && (decide (Rising (s.ts.map (·.id))) && (decide (Rising (s.ls.map (·.t))) && decide (Rising (s.hs.map (·.q))))))) := by
    unfold formA; simp only [Bool.decide_and]
  rw [e]
  have r1 := risesN_spec b s.ns hn
  have r2 := risesT_spec b s.ts ht
  have r3 := risesL_spec b s.ls hl
  have r4 := risesH_spec b s.hs hh
  refine pcallS (fn := Try.f42) [] [] mixed (bodyOf Try.f42) [.tmp 2] Try.func42 rfl rfl (by decide) 26 rfl (by kernel_rfl) ?_
  simp -implicitDefEqProofs [↓gd_tt, ↓gd_ff, ↓gd_tf, ↓gd_ft, bodyOf, Try.f42, stripC, stripL, stripM, onsOf, upto, hintOf, freeOf, List.replicate]
  refine callK_pcall (qcheck_spec b s.qs hq) rfl rfl ?_
  by_cases hc : check s.qs = 0
  case neg => simp -implicitDefEqProofs [↓gd_tt, ↓gd_ff, ↓gd_tf, ↓gd_ft, hc]
  simp -implicitDefEqProofs [↓gd_tt, ↓gd_ff, ↓gd_tf, ↓gd_ft, hc]
  refine callK_fcall r1 (by simp) (by simp) (by simp) (by simp) rfl ?_
  by_cases h1 : Rising (s.ns.map (·.id))
  case neg => simp -implicitDefEqProofs [↓gd_tt, ↓gd_ff, ↓gd_tf, ↓gd_ft, h1]
  simp -implicitDefEqProofs [↓gd_tt, ↓gd_ff, ↓gd_tf, ↓gd_ft, h1]
  refine callK_fcall r2 (by simp) (by simp) (by simp) (by simp) rfl ?_
  by_cases h2 : Rising (s.ts.map (·.id))
  case neg => simp -implicitDefEqProofs [↓gd_tt, ↓gd_ff, ↓gd_tf, ↓gd_ft, h2]
  simp -implicitDefEqProofs [↓gd_tt, ↓gd_ff, ↓gd_tf, ↓gd_ft, h2]
  refine callK_fcall r3 (by simp) (by simp) (by simp) (by simp) rfl ?_
  by_cases h3 : Rising (s.ls.map (·.t))
  case neg => simp -implicitDefEqProofs [↓gd_tt, ↓gd_ff, ↓gd_tf, ↓gd_ft, h3]
  simp -implicitDefEqProofs [↓gd_tt, ↓gd_ff, ↓gd_tf, ↓gd_ft, h3]
  refine callK_fcall r4 (by simp) (by simp) (by simp) (by simp) rfl ?_
  simp -implicitDefEqProofs [↓gd_tt, ↓gd_ff, ↓gd_tf, ↓gd_ft]
theorem beyond_spec (l : List Int) (most : Int) (hl : l.length ≤ maxLen) (hw : ∀ x ∈ l, In64 x) : PCall Try.prog 102 [encI b l, I most] (.d (.bool (bey l.sum most))) := by
  have hs := sum64_spec b l hl hw
  unfold sumV64 at hs
  refine pcallS (fn := Try.f102) [] [] mixed (bodyOf Try.f102) [.tmp 4] Try.func102 rfl rfl (by decide) 17 rfl (by kernel_rfl) ?_
  simp -implicitDefEqProofs [↓gd_tt, ↓gd_ff, ↓gd_tf, ↓gd_ft, bodyOf, Try.f102, stripC, stripL, stripM, onsOf, upto, hintOf, freeOf, List.replicate]
  by_cases hr : -9223372036854775808 ≤ l.sum ∧ l.sum ≤ 9223372036854775807
  · rw [if_pos hr] at hs
    refine callK_pcall hs rfl rfl ?_
    have e : bey l.sum most = decide (most < l.sum) := by
      unfold bey
      rw [show decide (l.sum < -9223372036854775808) = false by simp; omega, show decide (9223372036854775807 < l.sum) = false by simp; omega]; simp
    rw [e]
    simp -implicitDefEqProofs [↓gd_tt, ↓gd_ff, ↓gd_tf, ↓gd_ft]
  · rw [if_neg hr] at hs
    refine callK_pcall hs rfl rfl ?_
    have e : bey l.sum most = true := by
      unfold bey
      by_cases h1 : l.sum < -9223372036854775808
      · simp [h1]
      · simp [show 9223372036854775807 < l.sum by omega]
    rw [e]
    simp -implicitDefEqProofs [↓gd_tt, ↓gd_ff, ↓gd_tf, ↓gd_ft]
theorem lateA_spec (s : Sta) (x : Le) (h1 : s.now < x.u) (hn : In64 s.now) (hu : In64 x.u) (hlg : In64 s.long) : PCall Try.prog 44 [encSt b s, encLf b x] (.d (.bool (decide (s.long < x.u - s.now)))) := by
  obtain ⟨n1, n2⟩ := hn
  obtain ⟨u1, u2⟩ := hu
  obtain ⟨l1, l2⟩ := hlg
  refine pcallS (fn := Try.f44) [] [] mixed (bodyOf Try.f44) [.tmp 4] Try.func44 rfl rfl (by decide) 25 rfl (by kernel_rfl) ?_
  simp -implicitDefEqProofs [↓gd_tt, ↓gd_ff, ↓gd_tf, ↓gd_ft, bodyOf, Try.f44, stripC, stripL, stripM, onsOf, upto, hintOf, freeOf, List.replicate]
  refine sub64_call (by rw [u64w]; omega) (by rw [u64w]; omega) (by rw [u64w]; omega) (by rw [u64w]; omega) ?_
  simp -implicitDefEqProofs [↓gd_tt, ↓gd_ff, ↓gd_tf, ↓gd_ft]
  rw [u64w, u64w, u64w]
  constructor
  · intro h; constructor <;> intro h' <;> omega
  · intro h; omega
/-- a state in a variable -/
abbrev stC (b : Bool) (s : Sta) : IObj := .var [.d (.int .i64 s.long), .d (.int .i64 s.pat), .d (.int .i64 s.now), .d (.sl b 7 (s.qs.map encQ)), .d (.sl b 5 (s.ns.map encNd)), .d (.sl b 7 (s.ts.map (encTk b))), .d (.sl b 8 (s.ls.map (encLf b))), .d (.sl b 2 (s.hs.map encHu))]
theorem timeless_spec (s : Sta) (x : Le) (hn : In64 s.now) (hu : In64 x.u) (hlg : In64 s.long) {hp : List IObj} {id : Nat} (h : hp[id]? = some (stC b s)) (hlo : ltObjs hp.length hp = true) {K : V → List IObj → Prop} (hk : K (.d (.bool (timelessB s.now s.long x))) hp) : CallK Try.prog 43 [.d (encLf b x), .ptr id 0] hp K := by
  have hid : id < hp.length := (List.getElem?_eq_some_iff.1 h).1
  refine callK_cut ?_
  refine callS (fn := Try.f43) [] [] mixed (bodyOf Try.f43) [.tmp 3] Try.func43 rfl rfl (by decide) 19 rfl (by kernel_rfl) ?_
  simp -implicitDefEqProofs [↓gd_tt, ↓gd_ff, ↓gd_tf, ↓gd_ft, bodyOf, Try.f43, stripC, stripL, stripM, onsOf, upto, hintOf, freeOf, List.replicate]
  by_cases h1 : s.now < x.u
  · have hl := lateA_spec b s x h1 hn hu hlg
    simp -implicitDefEqProofs [↓gd_tt, ↓gd_ff, ↓gd_tf, ↓gd_ft, h, List.getElem?_append_left hid, h1, show ¬ x.u ≤ s.now by omega]
    refine callK_pcall hl (by simp) rfl ?_
    by_cases h2 : s.long < x.u - s.now
    · have e : timelessB s.now s.long x = true := by simp [timelessB, h2]
      rw [e] at hk
      simp -implicitDefEqProofs [↓gd_tt, ↓gd_ff, ↓gd_tf, ↓gd_ft, h, List.getElem?_append_left hid, h2, hlo, hk]
    · have e : timelessB s.now s.long x = decide (s.now < x.s) := by simp [timelessB, h2]; omega
      rw [e] at hk
      simp -implicitDefEqProofs [↓gd_tt, ↓gd_ff, ↓gd_tf, ↓gd_ft, h, List.getElem?_append_left hid, h2, hlo, hk]
  · have e : timelessB s.now s.long x = true := by simp [timelessB]; omega
    rw [e] at hk
    simp -implicitDefEqProofs [↓gd_tt, ↓gd_ff, ↓gd_tf, ↓gd_ft, h, List.getElem?_append_left hid, h1, show x.u ≤ s.now by omega, hlo, hk]
end Go.Idl
end
section
namespace Go.Idl
open Go.Proofs
set_option linter.unusedSimpArgs false
set_option linter.unusedVariables false
set_option maxRecDepth 8000
set_option maxHeartbeats 2000000
variable (b : Bool)

theorem filter_drop {α : Type} {p : α → Bool} {l : List α} {i : Nat} (h : i < l.length) : (l.drop i).filter p = (if p l[i] = true then [l[i]] else []) ++ (l.drop (i + 1)).filter p := by
  rw [List.drop_eq_getElem_cons h, List.filter_cons]
  split <;> simp_all
/-- one that is taken is the next one of those that are -/
theorem filter_at {α : Type} {p : α → Bool} {l : List α} {i k : Nat} (h : i < l.length) (hq : (l.drop i).filter p = (l.filter p).drop k) (hp : p l[i] = true) : ∃ hk : k < (l.filter p).length, (l.filter p)[k] = l[i] ∧ (l.drop (i + 1)).filter p = (l.filter p).drop (k + 1) := by
  rw [filter_drop h, if_pos hp] at hq
  have hk : k < (l.filter p).length := by
    have := congrArg List.length hq
    simp at this; omega
  refine ⟨hk, ?_, ?_⟩
  · have := congrArg (·[0]?) hq
    simp [hk] at this; exact this.symm
  · have := congrArg List.tail hq
    simpa using this
theorem filter_past {α : Type} {p : α → Bool} {l : List α} {i k : Nat} (h : i < l.length) (hq : (l.drop i).filter p = (l.filter p).drop k) (hp : p l[i] = false) : (l.drop (i + 1)).filter p = (l.filter p).drop k := by
  rw [filter_drop h, if_neg (by simp [hp])] at hq
  simpa using hq
theorem on_yields (s : Sta) (id : Int) (ka kb : Nat) (hl : s.ls.length ≤ maxLen) :
    Yields Try.prog 142 [.ptr ka 0, .ptr kb 0] (fun hp => hp[ka]? = some (stC b s) ∧ hp[kb]? = some (.var [.d (I id)])) ((onN id s.ls).map fun x => [.d (encLf b x)]) := by
  unfold onN
  intro y hp J E hy h0 hJ hround hend
  obtain ⟨g1, g2, g3, g4⟩ := hJ 0 hp h0
  have hka : ka < hp.length := (List.getElem?_eq_some_iff.1 g3).1
  have hkb : kb < hp.length := (List.getElem?_eq_some_iff.1 g4).1
  refine callS (fn := Try.f142) [] [] mixed (bodyOf Try.f142) [] Try.func142 rfl rfl (by decide) 21 rfl (by kernel_rfl) ?_
  simp -implicitDefEqProofs [↓gd_tt, ↓gd_ff, ↓gd_tf, ↓gd_ft, bodyOf, Try.f142, stripC, stripL, stripM, onsOf, upto, hintOf, freeOf, List.replicate, g3]
  refine loopA mixed [false, false, false, false, false, true, false, false, false, true, true, true, true, true, true, true, true, true, true, true, true, true, true, true] (fun (x : Nat × Nat × List IObj) => [(9, .d (I x.1))]) (fun (x : Nat × Nat × List IObj) => x.2.2) (fun (x : Nat × Nat × List IObj) => x.1 ≤ s.ls.length ∧ J x.2.1 x.2.2 ∧ x.2.1 ≤ (s.ls.filter fun x => decide (x.n = id)).length ∧ (s.ls.drop x.1).filter (fun x => decide (x.n = id)) = (s.ls.filter fun x => decide (x.n = id)).drop x.2.1) (fun (x : Nat × Nat × List IObj) => s.ls.length - x.1) ((0, 0, hp)) (⟨Nat.zero_le _, h0, Nat.zero_le _, rfl⟩) (by simp [hy, hka, hkb, g2]) ?_
  rintro x hx
  obtain ⟨i, k, hp1⟩ := x
  obtain ⟨hi, hj, hk, hq⟩ := hx
  simp only at hi hj hk hq ⊢
  obtain ⟨p1, p2, p3, p4⟩ := hJ k hp1 hj
  have hka1 : ka < hp1.length := (List.getElem?_eq_some_iff.1 p3).1
  have hkb1 : kb < hp1.length := (List.getElem?_eq_some_iff.1 p4).1
  rcases Nat.lt_or_eq_of_le hi with h | h
  · have hwi := wrap1 hl h
    simp -implicitDefEqProofs [↓gd_tt, ↓gd_ff, ↓gd_tf, ↓gd_ft, h, p3, p4, hwi, List.getElem?_append_left hka1, List.getElem?_append_left hkb1]
    refine ⟨fun e => ?_, fun e => ?_⟩
    · obtain ⟨hk3, hat, hq2⟩ := filter_at h hq (by simpa using e)
      have hr := hround k hp1 hj (by simpa using hk3)
      simp only [List.getElem_map, hat] at hr
      refine yieldA hr p1 p2 hy (by simp) (by simp) fun b2 hp2 q1 q2 q3 q4 => ?_
      simp -implicitDefEqProofs [↓gd_tt, ↓gd_ff, ↓gd_tf, ↓gd_ft, hwi]
      refine ⟨fun e2 => ⟨by omega, by rw [← q1, List.take_left]; exact q4 e2⟩, fun e2 => ?_⟩
      exact ⟨i + 1, k + 1, hp2, ⟨by omega, q3 e2, hk3, hq2⟩, by omega, rfl, by (repeat' apply And.intro) <;> omega, by rw [q1]; exact (hJ _ _ (q3 e2)).2.1, by omega, by simp, by first | omega | simp⟩
    · have hq2 := filter_past h hq (by simpa using e)
      exact ⟨i + 1, k, hp1, ⟨by omega, hj, hk, hq2⟩, by omega, rfl, by (repeat' apply And.intro) <;> omega, by rw [p1]; exact p2, by omega, by simp, by first | omega | simp⟩
  · rw [h, List.drop_length, List.filter_nil] at hq
    simp -implicitDefEqProofs [↓gd_tt, ↓gd_ff, ↓gd_tf, ↓gd_ft, h]
    have hk2 : k = (s.ls.filter fun x => decide (x.n = id)).length := by
      have := congrArg List.length hq; simp at this; omega
    subst hk2
    exact ⟨by omega, by rw [← p1, List.take_length]; exact hend hp1 (by simpa using hj)⟩
theorem leases_yields (s : Sta) (what : Int) (f : FuncId) (caps : List V) (p : Le → Bool) (Pre : List IObj → Prop) (ka ki kw : Nat) (hl : s.ls.length ≤ maxLen) (hb : hasBody Try.prog f = true) (hcb : caps.all V.bare = true) (hPre : ∀ hp o, Pre hp → Pre (hp ++ [o])) (hlt : ∀ hp, Pre hp → V.ltL hp.length caps = true)
    (hIs : ∀ x ∈ s.ls, ∀ hp (K : V → List IObj → Prop), Pre hp → ltObjs hp.length hp = true → K (.d (.bool (p x))) hp → CallK Try.prog f (.d (encLf b x) :: caps) hp K) :
    Yields Try.prog 105 [.ptr ka 0, .ptr ki 0, .ptr kw 0] (fun hp => hp[ka]? = some (stC b s) ∧ hp[ki]? = some (.var [.fn (.func f) caps]) ∧ hp[kw]? = some (.var [.d (I what)]) ∧ Pre hp) ((s.ls.filter p).map fun x => [.d (encV (what, x.t))]) := by
  intro y hp J E hy h0 hJ hround hend
  obtain ⟨g1, g2, g3, g4, g5, g6⟩ := hJ 0 hp h0
  have hka : ka < hp.length ∧ ki < hp.length ∧ kw < hp.length := ⟨(List.getElem?_eq_some_iff.1 g3).1, (List.getElem?_eq_some_iff.1 g4).1, (List.getElem?_eq_some_iff.1 g5).1⟩
  refine callS (fn := Try.f105) [] [(99, 1)] mixed (bodyOf Try.f105) [] Try.func105 rfl rfl (by decide) 23 rfl (by kernel_rfl) ?_
  simp -implicitDefEqProofs [↓gd_tt, ↓gd_ff, ↓gd_tf, ↓gd_ft, bodyOf, Try.f105, stripC, stripL, stripM, onsOf, upto, hintOf, freeOf, List.replicate, g3]
  refine loopA mixed [false, false, false, false, false, false, true, false, false, false, true, true, true, true, true, true, true, true, true, true, true, true, true, true, true, true, true] (fun (x : Nat × Nat × List IObj) => [(10, .d (I x.1))]) (fun (x : Nat × Nat × List IObj) => x.2.2) (fun (x : Nat × Nat × List IObj) => x.1 ≤ s.ls.length ∧ J x.2.1 x.2.2 ∧ x.2.1 ≤ (s.ls.filter p).length ∧ (s.ls.drop x.1).filter p = (s.ls.filter p).drop x.2.1) (fun (x : Nat × Nat × List IObj) => s.ls.length - x.1) ((0, 0, hp)) (⟨Nat.zero_le _, h0, Nat.zero_le _, rfl⟩) (by simp; (repeat' apply And.intro) <;> first | omega | assumption) ?_
  rintro x hx
  obtain ⟨i, k, hp1⟩ := x
  obtain ⟨hi, hj, hk, hq⟩ := hx
  simp only at hi hj hk hq ⊢
  obtain ⟨p1, p2, p3, p4, p5, p6⟩ := hJ k hp1 hj
  have ha1 : ka < hp1.length := by omega
  have ha2 : ki < hp1.length := by omega
  have ha3 : kw < hp1.length := by omega
  rcases Nat.lt_or_eq_of_le hi with h | h
  · have hwi := wrap1 hl h
    have hlt1 := hlt hp1 p6
    simp -implicitDefEqProofs [↓gd_tt, ↓gd_ff, ↓gd_tf, ↓gd_ft, h, p3, p4, p5, hwi, List.getElem?_append_left ha1, List.getElem?_append_left ha2, List.getElem?_append_left ha3, hcb, hb]
    refine hIs s.ls[i] (List.getElem_mem h) _ _ (hPre _ _ p6) ?_ ?_
    · rw [ltObjs_append, Bool.and_eq_true]
      exact ⟨ltObjs_mono (m := hp1.length) (by simp) (by rw [p1]; exact p2), by simp [ltObjs, IObj.lt, V.ltL, V.lt]⟩
    simp -implicitDefEqProofs [↓gd_tt, ↓gd_ff, ↓gd_tf, ↓gd_ft, h, p3, p4, p5, hwi, List.getElem?_append_left ha1, List.getElem?_append_left ha2, List.getElem?_append_left ha3]
    refine ⟨fun e => ?_, fun e => ?_⟩
    · obtain ⟨hk3, hat, hq2⟩ := filter_at h hq e
      have hr := hround k hp1 hj (by simpa using hk3)
      simp only [List.getElem_map, hat] at hr
      refine yieldA hr p1 p2 hy (by simp) (by simp) fun b2 hp2 q1 q2 q3 q4 => ?_
      simp -implicitDefEqProofs [↓gd_tt, ↓gd_ff, ↓gd_tf, ↓gd_ft, hwi]
      refine ⟨fun e2 => ⟨by omega, by rw [← q1, List.take_left]; exact q4 e2⟩, fun e2 => ?_⟩
      exact ⟨i + 1, k + 1, hp2, ⟨by omega, q3 e2, hk3, hq2⟩, by omega, rfl, by (repeat' apply And.intro) <;> omega, by rw [q1]; exact (hJ _ _ (q3 e2)).2.1, by omega, by simp, by first | omega | simp⟩
    · have hq2 := filter_past h hq e
      exact ⟨i + 1, k, hp1, ⟨by omega, hj, hk, hq2⟩, by omega, rfl, by (repeat' apply And.intro) <;> omega, by rw [p1]; exact p2, by omega, by simp, by first | omega | simp⟩
  · rw [h, List.drop_length, List.filter_nil] at hq
    simp -implicitDefEqProofs [↓gd_tt, ↓gd_ff, ↓gd_tf, ↓gd_ft, h]
    have hk2 : k = (s.ls.filter p).length := by
      have := congrArg List.length hq; simp at this; omega
    subst hk2
    exact ⟨by omega, by rw [← p1, List.take_length]; exact hend hp1 (by simpa using hj)⟩
theorem nodes_yields (s : Sta) (what : Int) (f : FuncId) (p : Nd → Bool) (ka ki kw : Nat) (hl : s.ns.length ≤ maxLen) (hb : hasBody Try.prog f = true)
    (hIs : ∀ n ∈ s.ns, PCall Try.prog f [encSt b s, encNd n] (.d (.bool (p n)))) :
    Yields Try.prog 103 [.ptr ka 0, .ptr ki 0, .ptr kw 0] (fun hp => hp[ka]? = some (stC b s) ∧ hp[ki]? = some (.var [.fn (.func f) []]) ∧ hp[kw]? = some (.var [.d (I what)])) ((s.ns.filter p).map fun n => [.d (encV (what, n.id))]) := by
  intro y hp J E hy h0 hJ hround hend
  obtain ⟨g1, g2, g3, g4, g5⟩ := hJ 0 hp h0
  have hka : ka < hp.length ∧ ki < hp.length ∧ kw < hp.length := ⟨(List.getElem?_eq_some_iff.1 g3).1, (List.getElem?_eq_some_iff.1 g4).1, (List.getElem?_eq_some_iff.1 g5).1⟩
  refine callS (fn := Try.f103) [] [(99, 1)] mixed (bodyOf Try.f103) [] Try.func103 rfl rfl (by decide) 24 rfl (by kernel_rfl) ?_
  simp -implicitDefEqProofs [↓gd_tt, ↓gd_ff, ↓gd_tf, ↓gd_ft, bodyOf, Try.f103, stripC, stripL, stripM, onsOf, upto, hintOf, freeOf, List.replicate, g3]
  refine loopA mixed [false, false, false, false, false, false, true, false, false, false, true, true, true, true, true, true, true, true, true, true, true, true, true, true, true, true, true, true] (fun (x : Nat × Nat × List IObj) => [(10, .d (I x.1))]) (fun (x : Nat × Nat × List IObj) => x.2.2) (fun (x : Nat × Nat × List IObj) => x.1 ≤ s.ns.length ∧ J x.2.1 x.2.2 ∧ x.2.1 ≤ (s.ns.filter p).length ∧ (s.ns.drop x.1).filter p = (s.ns.filter p).drop x.2.1) (fun (x : Nat × Nat × List IObj) => s.ns.length - x.1) ((0, 0, hp)) (⟨Nat.zero_le _, h0, Nat.zero_le _, rfl⟩) (by simp; (repeat' apply And.intro) <;> first | omega | assumption) ?_
  rintro x hx
  obtain ⟨i, k, hp1⟩ := x
  obtain ⟨hi, hj, hk, hq⟩ := hx
  simp only at hi hj hk hq ⊢
  obtain ⟨p1, p2, p3, p4, p5⟩ := hJ k hp1 hj
  have ha1 : ka < hp1.length := by omega
  have ha2 : ki < hp1.length := by omega
  have ha3 : kw < hp1.length := by omega
  rcases Nat.lt_or_eq_of_le hi with h | h
  · have hwi := wrap1 hl h
    simp -implicitDefEqProofs [↓gd_tt, ↓gd_ff, ↓gd_tf, ↓gd_ft, h, p3, p4, p5, hwi, List.getElem?_append_left ha1, List.getElem?_append_left ha2, List.getElem?_append_left ha3, hb]
    refine callK_pcall (hIs s.ns[i] (List.getElem_mem h)) (by simp) rfl ?_
    simp -implicitDefEqProofs [↓gd_tt, ↓gd_ff, ↓gd_tf, ↓gd_ft, h, p3, p4, p5, hwi, List.getElem?_append_left ha1, List.getElem?_append_left ha2, List.getElem?_append_left ha3]
    refine ⟨fun e => ?_, fun e => ?_⟩
    · obtain ⟨hk3, hat, hq2⟩ := filter_at h hq e
      have hr := hround k hp1 hj (by simpa using hk3)
      simp only [List.getElem_map, hat] at hr
      refine yieldA hr p1 p2 hy (by simp) (by simp) fun b2 hp2 q1 q2 q3 q4 => ?_
      simp -implicitDefEqProofs [↓gd_tt, ↓gd_ff, ↓gd_tf, ↓gd_ft, hwi]
      refine ⟨fun e2 => ⟨by omega, by rw [← q1, List.take_left]; exact q4 e2⟩, fun e2 => ?_⟩
      exact ⟨i + 1, k + 1, hp2, ⟨by omega, q3 e2, hk3, hq2⟩, by omega, rfl, by (repeat' apply And.intro) <;> omega, by rw [q1]; exact (hJ _ _ (q3 e2)).2.1, by omega, by simp, by first | omega | simp⟩
    · have hq2 := filter_past h hq e
      exact ⟨i + 1, k, hp1, ⟨by omega, hj, hk, hq2⟩, by omega, rfl, by (repeat' apply And.intro) <;> omega, by rw [p1]; exact p2, by omega, by simp, by first | omega | simp⟩
  · rw [h, List.drop_length, List.filter_nil] at hq
    simp -implicitDefEqProofs [↓gd_tt, ↓gd_ff, ↓gd_tf, ↓gd_ft, h]
    have hk2 : k = (s.ns.filter p).length := by
      have := congrArg List.length hq; simp at this; omega
    subst hk2
    exact ⟨by omega, by rw [← p1, List.take_length]; exact hend hp1 (by simpa using hj)⟩
theorem keyOKI (n : Int) : keyOK Try.prog 3 (.int .i64 n) = true := by simp [keyOK]
/-- numbers that are marked in a map -/
def mark1 (ids : List Int) (es : List (Nat × D × V)) : Prop := ∀ q : Int, ∃ kt et, mapTy Try.prog 173 = some (kt, et) ∧ ((q ∈ ids ∧ ∃ i, mfind Try.prog kt (I q) es 0 = some (some (i, .d (I 1)))) ∨ (q ∉ ids ∧ mfind Try.prog kt (I q) es 0 = some none))
theorem bare_yields (s : Sta) (ka kb m c : Nat) (es : List (Nat × D × V)) (hl : s.ts.length ≤ maxLen) (hm : mark1 (s.ls.map (·.t)) es) :
    Yields Try.prog 107 [.ptr ka 0, .ptr kb 0] (fun hp => hp[ka]? = some (stC b s) ∧ hp[kb]? = some (.var [.map m]) ∧ hp[m]? = some (.map c es)) ((s.ts.filter (bareB s.ls)).map fun t => [.d (encV (6, t.id))]) := by
  intro y hp J E hy h0 hJ hround hend
  obtain ⟨g1, g2, g3, g4, g5⟩ := hJ 0 hp h0
  have hka : ka < hp.length ∧ kb < hp.length ∧ m < hp.length := ⟨(List.getElem?_eq_some_iff.1 g3).1, (List.getElem?_eq_some_iff.1 g4).1, (List.getElem?_eq_some_iff.1 g5).1⟩
  refine callS (fn := Try.f107) [] [(99, 1)] mixed (bodyOf Try.f107) [] Try.func107 rfl rfl (by decide) 29 rfl (by kernel_rfl) ?_
  simp -implicitDefEqProofs [↓gd_tt, ↓gd_ff, ↓gd_tf, ↓gd_ft, bodyOf, Try.f107, stripC, stripL, stripM, onsOf, upto, hintOf, freeOf, List.replicate, g3]
  refine loopA mixed [false, false, false, false, false, true, false, false, false, true, true, true, true, true, true, true, true, true, true, true, true, true, true, true, true, true, true, true, true, true, true, true] (fun (x : Nat × Nat × List IObj) => [(9, .d (I x.1))]) (fun (x : Nat × Nat × List IObj) => x.2.2) (fun (x : Nat × Nat × List IObj) => x.1 ≤ s.ts.length ∧ J x.2.1 x.2.2 ∧ x.2.1 ≤ (s.ts.filter (bareB s.ls)).length ∧ (s.ts.drop x.1).filter (bareB s.ls) = (s.ts.filter (bareB s.ls)).drop x.2.1) (fun (x : Nat × Nat × List IObj) => s.ts.length - x.1) ((0, 0, hp)) (⟨Nat.zero_le _, h0, Nat.zero_le _, rfl⟩) (by simp; (repeat' apply And.intro) <;> first | omega | assumption) ?_
  rintro x hx
  obtain ⟨i, k, hp1⟩ := x
  obtain ⟨hi, hj, hk, hq⟩ := hx
  simp only at hi hj hk hq ⊢
  obtain ⟨p1, p2, p3, p4, p5⟩ := hJ k hp1 hj
  have ha1 : ka < hp1.length := by omega
  have ha2 : kb < hp1.length := by omega
  have ha3 : m < hp1.length := by omega
  rcases Nat.lt_or_eq_of_le hi with h | h
  · have hwi := wrap1 hl h
    by_cases hst : s.ts[i].st = 2
    case neg =>
      have hq2 := filter_past h hq (by simp [bareB, hst])
      simp -implicitDefEqProofs [↓gd_tt, ↓gd_ff, ↓gd_tf, ↓gd_ft, h, p3, p4, p5, hwi, List.getElem?_append_left ha1, List.getElem?_append_left ha2, List.getElem?_append_left ha3, hst]
      exact ⟨i + 1, k, hp1, ⟨by omega, hj, hk, hq2⟩, by omega, rfl, by (repeat' apply And.intro) <;> omega, by rw [p1]; exact p2, by omega, by simp, by first | omega | simp⟩
    obtain ⟨kt, et, ht, hf⟩ := hm s.ts[i].id
    have hmm : (mapTy Try.prog 173) = some (3, 3) := by kernel_rfl
    rw [hmm] at ht
    injection ht with ht; injection ht with h1 h2; subst h1; subst h2
    rcases hf with ⟨hin, j, hf⟩ | ⟨hin, hf⟩
    · have hq2 := filter_past h hq (by
        have : s.ls.any (fun x => decide (x.t = s.ts[i].id)) = true := by
          obtain ⟨x, hx, e⟩ := List.mem_map.1 hin
          exact List.any_eq_true.2 ⟨x, hx, by simpa using e⟩
        simp only [bareB, this]; simp)
      simp -implicitDefEqProofs [↓gd_tt, ↓gd_ff, ↓gd_tf, ↓gd_ft, h, p3, p4, p5, hwi, List.getElem?_append_left ha1, List.getElem?_append_left ha2, List.getElem?_append_left ha3, hst, hf, keyOKI]
      exact ⟨i + 1, k, hp1, ⟨by omega, hj, hk, hq2⟩, by omega, rfl, by (repeat' apply And.intro) <;> omega, by rw [p1]; exact p2, by omega, by simp, by first | omega | simp⟩
    · obtain ⟨hk3, hat, hq2⟩ := filter_at h hq (by
        have : s.ls.any (fun x => decide (x.t = s.ts[i].id)) = false := List.any_eq_false.2 fun x hx => by
          simp only [decide_eq_true_eq]
          exact fun e => hin (List.mem_map.2 ⟨x, hx, e⟩)
        simp only [bareB, this, hst]; decide)
      simp -implicitDefEqProofs [↓gd_tt, ↓gd_ff, ↓gd_tf, ↓gd_ft, h, p3, p4, p5, hwi, List.getElem?_append_left ha1, List.getElem?_append_left ha2, List.getElem?_append_left ha3, hst, hf, keyOKI]
      have hr := hround k hp1 hj (by simpa using hk3)
      simp only [List.getElem_map, hat] at hr
      refine yieldA hr p1 p2 hy (by simp) (by simp) fun b2 hp2 q1 q2 q3 q4 => ?_
      simp -implicitDefEqProofs [↓gd_tt, ↓gd_ff, ↓gd_tf, ↓gd_ft, hwi]
      refine ⟨fun e2 => ⟨by omega, by rw [← q1, List.take_left]; exact q4 e2⟩, fun e2 => ?_⟩
      exact ⟨i + 1, k + 1, hp2, ⟨by omega, q3 e2, hk3, hq2⟩, by omega, rfl, by (repeat' apply And.intro) <;> omega, by rw [q1]; exact (hJ _ _ (q3 e2)).2.1, by omega, by simp, by first | omega | simp⟩
  · rw [h, List.drop_length, List.filter_nil] at hq
    simp -implicitDefEqProofs [↓gd_tt, ↓gd_ff, ↓gd_tf, ↓gd_ft, h]
    have hk2 : k = (s.ts.filter (bareB s.ls)).length := by
      have := congrArg List.length hq; simp at this; omega
    subst hk2
    exact ⟨by omega, by rw [← p1, List.take_length]; exact hend hp1 (by simpa using hj)⟩
end Go.Idl
end
section
namespace Go.Idl
set_option linter.unusedSimpArgs false
set_option linter.unusedVariables false

def addAt (C : List (List Int)) (ids : List Nat) (v : Int) : List (List Int) := ids.foldl (fun c j => c.modify j (· ++ [v])) C
theorem addAt_len (v : Int) : ∀ (ids : List Nat) (C : List (List Int)), (addAt C ids v).length = C.length
  | [], _ => rfl
  | j :: ids, C => by
    show (addAt (C.modify j (· ++ [v])) ids v).length = _
    rw [addAt_len v ids]; simp
theorem addAt_step (C : List (List Int)) {ids : List Nat} {k : Nat} (h : k < ids.length) (v : Int) : addAt C (ids.take (k + 1)) v = (addAt C (ids.take k) v).modify ids[k] (· ++ [v]) := by
  unfold addAt
  rw [List.take_add_one, List.getElem?_eq_getElem h, Option.toList_some, List.foldl_append]; rfl
theorem addAt_get (v : Int) : ∀ (ids : List Nat) (C : List (List Int)), ids.Nodup → ∀ j, (addAt C ids v)[j]? = (C[j]?).map fun xs => xs ++ (if j ∈ ids then [v] else [])
  | [], C, _, j => by simp [addAt]
  | i :: ids, C, hn, j => by
    rw [List.nodup_cons] at hn
    show (addAt (C.modify i (· ++ [v])) ids v)[j]? = _
    rw [addAt_get v ids _ hn.2, List.getElem?_modify]
    by_cases e : i = j
    · subst e
      cases C[i]? with
      | none => rfl
      | some xs => simp [hn.1]
    · have e' : ¬ j = i := fun h => e h.symm
      cases C[j]? with
      | none => simp [e]
      | some xs => simp [e, e']
theorem addAt_short (v : Int) (ids : List Nat) (C : List (List Int)) (hn : ids.Nodup) {n : Nat} (h : ∀ xs ∈ C, xs.length ≤ n) : ∀ xs ∈ addAt C ids v, xs.length ≤ n + 1 := fun xs hx => by
  obtain ⟨j, hj, rfl⟩ := List.getElem_of_mem hx
  have := addAt_get v ids C hn j
  rw [List.getElem?_eq_getElem hj] at this
  cases e : C[j]? with
  | none => rw [e] at this; cases this
  | some ys =>
    rw [e] at this
    simp only [Option.map_some, Option.some.injEq] at this
    rw [this, List.length_append]
    have := h ys (List.mem_of_getElem? e)
    split <;> simp <;> omega
def cpuL (s : Sta) (k : Nat) : List (List Int) := s.qs.map fun q => cpuAt s.qs q.Id (s.ls.take k)
def memL (s : Sta) (k : Nat) : List (List Int) := s.qs.map fun q => memAt s.qs q.Id (s.ls.take k)
theorem cpuAt_take (l : List Q) (id : Int) {ls : List Le} {i : Nat} (h : i < ls.length) : cpuAt l id (ls.take (i + 1)) = cpuAt l id (ls.take i) ++ if id ∈ path l ls[i].q then [(ls[i].cs.length : Int)] else [] := by
  unfold cpuAt
  rw [filtmap_take h]
  simp
theorem memAt_take (l : List Q) (id : Int) {ls : List Le} {i : Nat} (h : i < ls.length) : memAt l id (ls.take (i + 1)) = memAt l id (ls.take i) ++ if id ∈ path l ls[i].q then [ls[i].m] else [] := by
  unfold memAt
  rw [filtmap_take h]
  simp
theorem upIds_nodup {l : List Q} (h : form l = true) (id : Int) : ((up l id).map (·.1)).Nodup := by
  have := up_sorted h _ id (Nat.le_refl _)
  exact this.imp fun h => by omega
theorem cpuL_step {s : Sta} (h : form s.qs = true) {i : Nat} (hi : i < s.ls.length) : addAt (cpuL s i) ((up s.qs s.ls[i].q).map (·.1)) s.ls[i].cs.length = cpuL s (i + 1) := by
  refine List.ext_getElem? fun j => ?_
  rw [addAt_get _ _ _ (upIds_nodup h _)]
  unfold cpuL
  rw [List.getElem?_map, List.getElem?_map]
  by_cases hj : j < s.qs.length
  · rw [List.getElem?_eq_getElem hj]
    simp only [Option.map_some, Option.some.injEq]
    rw [cpuAt_take _ _ hi]
    congr 1
    have := up_path_iff h s.ls[i].q hj
    by_cases e : s.qs[j].Id ∈ path s.qs s.ls[i].q
    · rw [if_pos e, if_pos (this.2 e)]
    · rw [if_neg e, if_neg fun k => e (this.1 k)]
  · rw [List.getElem?_eq_none (by omega)]; rfl
theorem memL_step {s : Sta} (h : form s.qs = true) {i : Nat} (hi : i < s.ls.length) : addAt (memL s i) ((up s.qs s.ls[i].q).map (·.1)) s.ls[i].m = memL s (i + 1) := by
  refine List.ext_getElem? fun j => ?_
  rw [addAt_get _ _ _ (upIds_nodup h _)]
  unfold memL
  rw [List.getElem?_map, List.getElem?_map]
  by_cases hj : j < s.qs.length
  · rw [List.getElem?_eq_getElem hj]
    simp only [Option.map_some, Option.some.injEq]
    rw [memAt_take _ _ hi]
    congr 1
    have := up_path_iff h s.ls[i].q hj
    by_cases e : s.qs[j].Id ∈ path s.qs s.ls[i].q
    · rw [if_pos e, if_pos (this.2 e)]
    · rw [if_neg e, if_neg fun k => e (this.1 k)]
  · rw [List.getElem?_eq_none (by omega)]; rfl
end Go.Idl
end
section
namespace Go.Idl
open Go.Proofs
set_option linter.unusedSimpArgs false
set_option linter.unusedVariables false
set_option maxRecDepth 8000
set_option maxHeartbeats 2000000
variable (b : Bool)

/-- a list that grows, in a variable -/
def lv (xs : List Int) : V := if xs = [] then .nil 1 else .own 1 (xs.map fun n => .int .i64 n)
theorem lv_tup (xs : List Int) : (lv xs).isTup = false := by unfold lv; split <;> rfl
theorem lv_lt (n : Nat) (xs : List Int) : V.lt n (lv xs) = true := by unfold lv; split <;> rfl
theorem lv_allD (xs : List Int) (m : Int) : allD [(lv xs).cp, .d (I m)] = some [encI false xs, I m] := by
  unfold lv
  split
  · rename_i h; subst h; rfl
  · rfl
theorem lv_bare (xs : List Int) : V.bare (lv xs).cp = true := by
  unfold lv
  split <;> rfl
theorem lv_cpcp (xs : List Int) : (lv xs).cp.cp = (lv xs).cp := by
  unfold lv
  split <;> rfl
def cpuC (s : Sta) : List V := s.qs.map fun q => lv (cpuAt s.qs q.Id s.ls)
def memC (s : Sta) : List V := s.qs.map fun q => lv (memAt s.qs q.Id s.ls)
theorem cpu_wf (l : List Q) (id : Int) (ls : List Le) (hw : ∀ x ∈ ls, x.cs.length ≤ maxLen) : ∀ n ∈ cpuAt l id ls, In64 n := fun n hn => by
  obtain ⟨x, hx, rfl⟩ := List.mem_map.1 hn
  have := hw x (List.mem_filter.1 hx).1
  have hml : maxLen = 9223372036854775807 := rfl
  exact ⟨by omega, by omega⟩
theorem mem_wf (l : List Q) (id : Int) (ls : List Le) (hw : ∀ x ∈ ls, In64 x.m) : ∀ n ∈ memAt l id ls, In64 n := fun n hn => by
  obtain ⟨x, hx, rfl⟩ := List.mem_map.1 hn
  exact hw x (List.mem_filter.1 hx).1
theorem cpu_len (l : List Q) (id : Int) (ls : List Le) : (cpuAt l id ls).length ≤ ls.length := by
  unfold cpuAt; rw [List.length_map]; exact List.length_filter_le _ _
theorem mem_len (l : List Q) (id : Int) (ls : List Le) : (memAt l id ls).length ≤ ls.length := by
  unfold memAt; rw [List.length_map]; exact List.length_filter_le _ _
theorem queues_yields (s : Sta) (ka kc km ja jb : Nat) (hl : s.qs.length ≤ maxLen) (hll : s.ls.length ≤ maxLen) (hw1 : ∀ x ∈ s.ls, x.cs.length ≤ maxLen) (hw2 : ∀ x ∈ s.ls, In64 x.m) :
    Yields Try.prog 101 [.ptr ka 0, .ptr kc 0, .ptr km 0] (fun hp => hp[ka]? = some (stC b s) ∧ hp[kc]? = some (.var [.ref ja 1 0 s.qs.length s.qs.length]) ∧ hp[km]? = some (.var [.ref jb 1 0 s.qs.length s.qs.length]) ∧ hp[ja]? = some (.var (cpuC s)) ∧ hp[jb]? = some (.var (memC s))) ((s.qs.filter (overQ s.qs s.ls)).map fun q => [.d (encV (2, q.Id))]) := by
  intro y hp J E hy h0 hJ hround hend
  obtain ⟨g1, g2, g3, g4, g5, g6, g7⟩ := hJ 0 hp h0
  have hka : ka < hp.length ∧ kc < hp.length ∧ km < hp.length ∧ ja < hp.length ∧ jb < hp.length := ⟨(List.getElem?_eq_some_iff.1 g3).1, (List.getElem?_eq_some_iff.1 g4).1, (List.getElem?_eq_some_iff.1 g5).1, (List.getElem?_eq_some_iff.1 g6).1, (List.getElem?_eq_some_iff.1 g7).1⟩
  refine callS (fn := Try.f101) [] [(3, 23)] mixed (bodyOf Try.f101) [] Try.func101 rfl rfl (by decide) 38 rfl (by kernel_rfl) ?_
  simp -implicitDefEqProofs [↓gd_tt, ↓gd_ff, ↓gd_tf, ↓gd_ft, bodyOf, Try.f101, stripC, stripL, stripM, onsOf, upto, hintOf, freeOf, List.replicate, g3]
  refine loopA mixed [false, false, false, false, false, true, true, false, false, false, true, true, true, true, true, true, true, true, true, true, true, true, true, true, true, true, true, true, true, true, true, true, true, true, true, true, true, true, true, true, true, true] (fun (x : Nat × Nat × List IObj) => [(10, .d (I x.1))]) (fun (x : Nat × Nat × List IObj) => x.2.2) (fun (x : Nat × Nat × List IObj) => x.1 ≤ s.qs.length ∧ J x.2.1 x.2.2 ∧ x.2.1 ≤ (s.qs.filter (overQ s.qs s.ls)).length ∧ (s.qs.drop x.1).filter (overQ s.qs s.ls) = (s.qs.filter (overQ s.qs s.ls)).drop x.2.1) (fun (x : Nat × Nat × List IObj) => s.qs.length - x.1) ((0, 0, hp)) (⟨Nat.zero_le _, h0, Nat.zero_le _, rfl⟩) (by simp; (repeat' apply And.intro) <;> first | omega | assumption) ?_
  rintro x hx
  obtain ⟨i, k, hp1⟩ := x
  obtain ⟨hi, hj, hk, hq⟩ := hx
  simp only at hi hj hk hq ⊢
  obtain ⟨p1, p2, p3, p4, p5, p6, p7⟩ := hJ k hp1 hj
  have ha1 : ka < hp1.length := by omega
  have ha2 : kc < hp1.length := by omega
  have ha3 : km < hp1.length := by omega
  have ha4 : ja < hp1.length := by omega
  have ha5 : jb < hp1.length := by omega
  rcases Nat.lt_or_eq_of_le hi with h | h
  · have hwi := wrap1 hl h
    have hc : (cpuC s)[i]? = some (lv (cpuAt s.qs s.qs[i].Id s.ls)) := by unfold cpuC; rw [List.getElem?_map, List.getElem?_eq_getElem h]; rfl
    have hm : (memC s)[i]? = some (lv (memAt s.qs s.qs[i].Id s.ls)) := by unfold memC; rw [List.getElem?_map, List.getElem?_eq_getElem h]; rfl
    have hb1 := beyond_spec false (cpuAt s.qs s.qs[i].Id s.ls) s.qs[i].QC (Nat.le_trans (cpu_len _ _ _) hll) (cpu_wf _ _ _ hw1)
    have hb2 := beyond_spec false (memAt s.qs s.qs[i].Id s.ls) s.qs[i].QM (Nat.le_trans (mem_len _ _ _) hll) (mem_wf _ _ _ hw2)
    simp -implicitDefEqProofs [↓gd_tt, ↓gd_ff, ↓gd_tf, ↓gd_ft, h, p3, p4, p5, p6, p7, hwi, List.getElem?_append_left ha1, List.getElem?_append_left ha2, List.getElem?_append_left ha3, List.getElem?_append_left ha4, List.getElem?_append_left ha5, hc, hm, lv_tup, lv_bare, lv_cpcp]
    refine ⟨by omega, by omega, free_pcall hb1 (lv_allD _ _) rfl ?_⟩
    simp -implicitDefEqProofs [↓gd_tt, ↓gd_ff, ↓gd_tf, ↓gd_ft, h, p3, p4, p5, p6, p7, hwi, List.getElem?_append_left ha1, List.getElem?_append_left ha2, List.getElem?_append_left ha3, List.getElem?_append_left ha4, List.getElem?_append_left ha5, hc, hm, lv_tup, lv_bare, lv_cpcp]
    refine ⟨fun e => ?_, fun e => ?_⟩
    · refine ⟨by omega, by omega, free_pcall hb2 (lv_allD _ _) rfl ?_⟩
      simp -implicitDefEqProofs [↓gd_tt, ↓gd_ff, ↓gd_tf, ↓gd_ft, h, p3, p4, p5, p6, p7, hwi, List.getElem?_append_left ha1, List.getElem?_append_left ha2, List.getElem?_append_left ha3, List.getElem?_append_left ha4, List.getElem?_append_left ha5, hc, hm, lv_tup, lv_bare, lv_cpcp]
      refine ⟨fun e2 => ?_, fun e2 => ?_⟩
      · obtain ⟨hk3, hat, hq2⟩ := filter_at h hq (by simp [overQ, e2])
        have hr := hround k hp1 hj (by simpa using hk3)
        simp only [List.getElem_map, hat] at hr
        refine yieldA hr p1 p2 hy (by simp) (by simp) fun b2 hp2 q1 q2 q3 q4 => ?_
        simp -implicitDefEqProofs [↓gd_tt, ↓gd_ff, ↓gd_tf, ↓gd_ft, hwi]
        refine ⟨fun e2 => ⟨by omega, by rw [← q1, List.take_left]; exact q4 e2⟩, fun e2 => ?_⟩
        exact ⟨i + 1, k + 1, hp2, ⟨by omega, q3 e2, hk3, hq2⟩, by omega, rfl, by (repeat' apply And.intro) <;> omega, by rw [q1]; exact (hJ _ _ (q3 e2)).2.1, by omega, by simp, by first | omega | simp⟩
      · have hq2 := filter_past h hq (by simp [overQ, e, e2])
        exact ⟨i + 1, k, hp1, ⟨by omega, hj, hk, hq2⟩, by omega, rfl, by (repeat' apply And.intro) <;> omega, by rw [p1]; exact p2, by omega, by simp, by first | omega | simp⟩
    · obtain ⟨hk3, hat, hq2⟩ := filter_at h hq (by simp [overQ, e])
      have hr := hround k hp1 hj (by simpa using hk3)
      simp only [List.getElem_map, hat] at hr
      refine yieldA hr p1 p2 hy (by simp) (by simp) fun b2 hp2 q1 q2 q3 q4 => ?_
      simp -implicitDefEqProofs [↓gd_tt, ↓gd_ff, ↓gd_tf, ↓gd_ft, hwi]
      refine ⟨fun e2 => ⟨by omega, by rw [← q1, List.take_left]; exact q4 e2⟩, fun e2 => ?_⟩
      exact ⟨i + 1, k + 1, hp2, ⟨by omega, q3 e2, hk3, hq2⟩, by omega, rfl, by (repeat' apply And.intro) <;> omega, by rw [q1]; exact (hJ _ _ (q3 e2)).2.1, by omega, by simp, by first | omega | simp⟩
  · rw [h, List.drop_length, List.filter_nil] at hq
    simp -implicitDefEqProofs [↓gd_tt, ↓gd_ff, ↓gd_tf, ↓gd_ft, h]
    have hk2 : k = (s.qs.filter (overQ s.qs s.ls)).length := by
      have := congrArg List.length hq; simp at this; omega
    subst hk2
    exact ⟨by omega, by rw [← p1, List.take_length]; exact hend hp1 (by simpa using hj)⟩
theorem renL_rep (ρ : List Nat) (n z : Nat) : V.renL ρ (List.replicate n (.nil z)) = List.replicate n (.nil z) := by
  induction n with
  | zero => rfl
  | succ n ih => simp [List.replicate_succ, V.renL, V.ren, ih]
theorem lv_cases (xs : List Int) : (xs = [] ∧ lv xs = .nil 1) ∨ lv xs = .own 1 (xs.map fun n => .int .i64 n) := by
  unfold lv
  split
  · rename_i h; exact .inl ⟨h, rfl⟩
  · exact .inr rfl
theorem lv_modify {C : List (List Int)} {j : Nat} {v : Int} (h : j < C.length) : (C.modify j (· ++ [v])).map lv = (C.map lv).set j (.own 1 (C[j].map (fun n => .int .i64 n) ++ [.int .i64 v])) := by
  refine List.ext_getElem? fun i => ?_
  rw [List.getElem?_map, List.getElem?_modify, List.getElem?_set, List.getElem?_map]
  by_cases e : j = i
  · subst e
    rw [List.getElem?_eq_getElem h]
    simp [lv, h]
  · cases C[i]? <;> simp [e]
theorem cpuL_zero (s : Sta) : (cpuL s 0).map lv = List.replicate s.qs.length (.nil 1) := by
  unfold cpuL
  rw [List.map_map]
  exact List.eq_replicate_iff.2 ⟨by simp, fun x hx => by
    obtain ⟨q, _, rfl⟩ := List.mem_map.1 hx
    simp [cpuAt, lv]⟩
theorem memL_zero (s : Sta) : (memL s 0).map lv = List.replicate s.qs.length (.nil 1) := by
  unfold memL
  rw [List.map_map]
  exact List.eq_replicate_iff.2 ⟨by simp, fun x hx => by
    obtain ⟨q, _, rfl⟩ := List.mem_map.1 hx
    simp [memAt, lv]⟩
theorem cpuL_full (s : Sta) : (cpuL s s.ls.length).map lv = cpuC s := by
  unfold cpuL cpuC
  rw [List.take_length, List.map_map]; rfl
theorem memL_full (s : Sta) : (memL s s.ls.length).map lv = memC s := by
  unfold memL memC
  rw [List.take_length, List.map_map]; rfl
theorem constV_nilf {P : Program} {t : TypeId} : constV P t .nilFunc = .d (.con .nilFunc) := rfl
theorem ltL_rep (m n z : Nat) : V.ltL m (List.replicate n (.nil z)) = true := by
  induction n with
  | zero => rfl
  | succ n ih => simp [List.replicate_succ, V.ltL, V.lt, ih]
theorem ltL_lv (m : Nat) : ∀ C : List (List Int), V.ltL m (C.map lv) = true
  | [] => rfl
  | x :: C => by simp [V.ltL, lv_lt, ltL_lv m C]
theorem set_td {α : Type} {C : List α} {j : Nat} (h : j < C.length) (x y : α) : List.take j (C.set j x) ++ y :: List.drop (j + 1) (C.set j x) = C.set j y := by
  rw [List.take_set_of_le (Nat.le_refl _), List.drop_set_of_lt (by omega), List.set_eq_take_append_cons_drop, if_pos h]
theorem queues_spec (s : Sta) (hc : check s.qs = 0) (hl6 : s.ls.length ≤ 1000000) {K : V → List IObj → Prop} (hk : K (.fn (.func 101) [.ptr 0 0, .ptr 3 0, .ptr 4 0]) [stC b s, .var (cpuC s), .var (memC s), .var [.ref 1 1 0 s.qs.length s.qs.length], .var [.ref 2 1 0 s.qs.length s.qs.length]]) :
    CallK Try.prog 45 [.d (encSt b s)] [] K := by
  have hll : s.ls.length ≤ maxLen := Nat.le_trans hl6 (by decide)
  have hf := check_form hc
  have h64 := check_len hc
  refine callS (fn := Try.f45) [(11, 2), (15, 2)] [(1, 2000000), (7, 2000000), (8, 2000000)] mixed (bodyOf Try.f45) [.tmp 2] Try.func45 rfl rfl (by decide) 54 rfl (by kernel_rfl) ?_
  simp -implicitDefEqProofs [↓gd_tt, ↓gd_ff, ↓gd_tf, ↓gd_ft, bodyOf, Try.f45, stripC, stripL, stripM, onsOf, upto, hintOf, freeOf, List.replicate]
  refine regionChR [(11, 2), (15, 2)] [3, 7, 8, 9, 10, 11] [3, 7, 8, 9, 10, 11] mixed (by kernel_rfl) ?_
  simp -implicitDefEqProofs [↓gd_tt, ↓gd_ff, ↓gd_tf, ↓gd_ft, stripL, stripM, onsOf, hintOf]
  refine x_endR ?e1 (fun K0 hK0 => ?_) ?_
  case refine_1 =>
    simp -implicitDefEqProofs [↓gd_tt, ↓gd_ff, ↓gd_tf, ↓gd_ft, lx_zero, lx_succ, ll_nil, ll_cons]
    have hb1 : 24 * (s.qs.length : Int) ≤ 281474976710656 := by omega
    have hb2 : (s.qs.length : Int) ≤ 9223372036854775807 := by omega
    simp only [hb1, hb2, true_and]
    (repeat' apply And.intro) <;> (apply hK0; first | exact St.le_refl _ | (refine St.le_ren' [0, 1, 2, 4, 3] rfl rfl ?_ rfl rfl; simp [IObj.ren, V.ren, V.renL, renL_rep]) | (refine St.le_ren' [0, 1, 3, 2, 4] rfl rfl ?_ rfl rfl; simp [IObj.ren, V.ren, V.renL, renL_rep]) | (refine St.le_ren' [0, 1, 3, 4, 2] rfl rfl ?_ rfl rfl; simp [IObj.ren, V.ren, V.renL, renL_rep]) | (refine St.le_ren' [0, 1, 4, 2, 3] rfl rfl ?_ rfl rfl; simp [IObj.ren, V.ren, V.renL, renL_rep]) | (refine St.le_ren' [0, 1, 4, 3, 2] rfl rfl ?_ rfl rfl; simp [IObj.ren, V.ren, V.renL, renL_rep]) | (refine St.le_ren' [0, 2, 1, 3, 4] rfl rfl ?_ rfl rfl; simp [IObj.ren, V.ren, V.renL, renL_rep]) | (refine St.le_ren' [0, 2, 1, 4, 3] rfl rfl ?_ rfl rfl; simp [IObj.ren, V.ren, V.renL, renL_rep]) | (refine St.le_ren' [0, 2, 3, 1, 4] rfl rfl ?_ rfl rfl; simp [IObj.ren, V.ren, V.renL, renL_rep]) | (refine St.le_ren' [0, 2, 3, 4, 1] rfl rfl ?_ rfl rfl; simp [IObj.ren, V.ren, V.renL, renL_rep]) | (refine St.le_ren' [0, 2, 4, 1, 3] rfl rfl ?_ rfl rfl; simp [IObj.ren, V.ren, V.renL, renL_rep]) | (refine St.le_ren' [0, 2, 4, 3, 1] rfl rfl ?_ rfl rfl; simp [IObj.ren, V.ren, V.renL, renL_rep]) | (refine St.le_ren' [0, 3, 1, 2, 4] rfl rfl ?_ rfl rfl; simp [IObj.ren, V.ren, V.renL, renL_rep]) | (refine St.le_ren' [0, 3, 1, 4, 2] rfl rfl ?_ rfl rfl; simp [IObj.ren, V.ren, V.renL, renL_rep]) | (refine St.le_ren' [0, 3, 2, 1, 4] rfl rfl ?_ rfl rfl; simp [IObj.ren, V.ren, V.renL, renL_rep]) | (refine St.le_ren' [0, 3, 2, 4, 1] rfl rfl ?_ rfl rfl; simp [IObj.ren, V.ren, V.renL, renL_rep]) | (refine St.le_ren' [0, 3, 4, 1, 2] rfl rfl ?_ rfl rfl; simp [IObj.ren, V.ren, V.renL, renL_rep]) | (refine St.le_ren' [0, 3, 4, 2, 1] rfl rfl ?_ rfl rfl; simp [IObj.ren, V.ren, V.renL, renL_rep]) | (refine St.le_ren' [0, 4, 1, 2, 3] rfl rfl ?_ rfl rfl; simp [IObj.ren, V.ren, V.renL, renL_rep]) | (refine St.le_ren' [0, 4, 1, 3, 2] rfl rfl ?_ rfl rfl; simp [IObj.ren, V.ren, V.renL, renL_rep]) | (refine St.le_ren' [0, 4, 2, 1, 3] rfl rfl ?_ rfl rfl; simp [IObj.ren, V.ren, V.renL, renL_rep]) | (refine St.le_ren' [0, 4, 2, 3, 1] rfl rfl ?_ rfl rfl; simp [IObj.ren, V.ren, V.renL, renL_rep]) | (refine St.le_ren' [0, 4, 3, 1, 2] rfl rfl ?_ rfl rfl; simp [IObj.ren, V.ren, V.renL, renL_rep]) | (refine St.le_ren' [0, 4, 3, 2, 1] rfl rfl ?_ rfl rfl; simp [IObj.ren, V.ren, V.renL, renL_rep]))
  simp -implicitDefEqProofs [↓gd_tt, ↓gd_ff, ↓gd_tf, ↓gd_ft]
  refine loopA mixed [false, false, false, false, false, false, true, false, false, false, false, false, false, false, false, false, false, false, false, true, true, true, true, true, true, true, true, true, false, false, false, false, false, false, false, false, false, false, false, false, false, false, false, false, false, false, false, false, false, false, false, false, false, true] (fun (i : Nat) => [(19, .d (I i))]) (fun (i : Nat) => [stC b s, .var ((cpuL s i).map lv), .var ((memL s i).map lv), .var [.ref 1 1 0 s.qs.length s.qs.length], .var [.ref 2 1 0 s.qs.length s.qs.length]]) (fun (i : Nat) => i ≤ s.ls.length) (fun (i : Nat) => s.ls.length - i) (0) (Nat.zero_le _) (by simp [ltObjs, IObj.lt, ltL_lv, cpuL_zero, memL_zero, constV_nilf, ltL_rep]) ?_
  rintro i hx
  rcases Nat.lt_or_eq_of_le hx with h | h
  · simp -implicitDefEqProofs [↓gd_tt, ↓gd_ff, ↓gd_tf, ↓gd_ft, h]
    refine upw_spec b s.qs s.ls[i].q _ _ ?_
    simp -implicitDefEqProofs [↓gd_tt, ↓gd_ff, ↓gd_tf, ↓gd_ft, h]
    refine rangeYS mixed (up_yields b s.qs s.ls[i].q 7 6 (small h64.2) hf (by decide)) (by simp) (by simp) (by simp) (by simp [ltObjs, IObj.lt, ltL_lv, constV_nilf]) (by simp) (by intro y hy; obtain ⟨p, _, rfl⟩ := List.mem_map.1 hy; simp [yQ])
      (fun k hp => hp = [stC b s, .var ((addAt (cpuL s i) (((up s.qs s.ls[i].q).map (·.1)).take k) s.ls[i].cs.length).map lv), .var ((addAt (memL s i) (((up s.qs s.ls[i].q).map (·.1)).take k) s.ls[i].m).map lv), .var [.ref 1 1 0 s.qs.length s.qs.length], .var [.ref 2 1 0 s.qs.length s.qs.length], .var ((encLf b s.ls[i]).flat.map V.d), .var [.d (encL b s.qs)], .var [.d (I (upx s.qs s.ls[i].q (k - 1)))]] ∧ k ≤ (up s.qs s.ls[i].q).length) ⟨by simp [addAt, upx], Nat.zero_le _⟩ (by rintro k hp ⟨rfl, _⟩; simp [ltObjs, IObj.lt, ltL_lv, V.ltL, V.lt]) ?_ ?_
    · rintro k hp ⟨rfl, hk⟩ hik L0 L1
      have hk' : k < (up s.qs s.ls[i].q).length := by simpa using hik
      obtain ⟨u1, u2⟩ := up_mem hf (List.getElem_mem hk')
      have hst1 := addAt_step (cpuL s i) (ids := (up s.qs s.ls[i].q).map (·.1)) (k := k) (by simpa using hk') s.ls[i].cs.length
      have hst2 := addAt_step (memL s i) (ids := (up s.qs s.ls[i].q).map (·.1)) (k := k) (by simpa using hk') s.ls[i].m
      have hl1 := addAt_len s.ls[i].cs.length (((up s.qs s.ls[i].q).map (·.1)).take k) (cpuL s i)
      have hl2 := addAt_len s.ls[i].m (((up s.qs s.ls[i].q).map (·.1)).take k) (memL s i)
      have hb1 := addAt_short s.ls[i].cs.length (((up s.qs s.ls[i].q).map (·.1)).take k) (cpuL s i) ((upIds_nodup hf s.ls[i].q).sublist (List.take_sublist _ _)) (n := s.ls.length) fun xs hxs => by
        obtain ⟨q, _, rfl⟩ := List.mem_map.1 hxs
        exact Nat.le_trans (cpu_len _ _ _) (by simp; omega)
      have hb2 := addAt_short s.ls[i].m (((up s.qs s.ls[i].q).map (·.1)).take k) (memL s i) ((upIds_nodup hf s.ls[i].q).sublist (List.take_sublist _ _)) (n := s.ls.length) fun xs hxs => by
        obtain ⟨q, _, rfl⟩ := List.mem_map.1 hxs
        exact Nat.le_trans (mem_len _ _ _) (by simp; omega)
      simp only [List.getElem_map] at hst1 hst2
      rw [show (cpuL s i).length = s.qs.length by simp [cpuL]] at hl1
      rw [show (memL s i).length = s.qs.length by simp [memL]] at hl2
      generalize addAt (cpuL s i) (((up s.qs s.ls[i].q).map (·.1)).take k) s.ls[i].cs.length = C at *
      generalize addAt (memL s i) (((up s.qs s.ls[i].q).map (·.1)).take k) s.ls[i].m = M at *
      generalize addAt (cpuL s i) (((up s.qs s.ls[i].q).map (·.1)).take (k + 1)) s.ls[i].cs.length = C' at *
      generalize addAt (memL s i) (((up s.qs s.ls[i].q).map (·.1)).take (k + 1)) s.ls[i].m = M' at *
      simp -implicitDefEqProofs [↓gd_tt, ↓gd_ff, ↓gd_tf, ↓gd_ft, yQ]
      generalize (up s.qs s.ls[i].q)[k].1 = j at *
      have hjC : (C.map lv)[j]? = some (lv (C[j]'(by omega))) := by rw [List.getElem?_map, List.getElem?_eq_getElem (by omega)]; rfl
      have hjM : (M.map lv)[j]? = some (lv (M[j]'(by omega))) := by rw [List.getElem?_map, List.getElem?_eq_getElem (by omega)]; rfl
      have hbC := hb1 (C[j]'(by omega)) (List.getElem_mem _)
      have hbM := hb2 (M[j]'(by omega)) (List.getElem_mem _)
      have hsC := lv_modify (C := C) (j := j) (v := s.ls[i].cs.length) (by omega)
      have hsM := lv_modify (C := M) (j := j) (v := s.ls[i].m) (by omega)
      rw [← hst1] at hsC
      rw [← hst2] at hsM
      have hjC' : j < (C.map lv).length := by simp; omega
      have hjM' : j < (M.map lv).length := by simp; omega
      have hgC : (C.map lv)[j]'hjC' = lv (C[j]'(by omega)) := by simp
      have hgM : (M.map lv)[j]'hjM' = lv (M[j]'(by omega)) := by simp
      have hltC : ∀ m, V.ltL m (C'.map lv) = true := fun m => ltL_lv m _
      have hltM : ∀ m, V.ltL m (M'.map lv) = true := fun m => ltL_lv m _
      generalize C[j]'(by omega) = xs at *
      generalize M[j]'(by omega) = ys at *
      generalize C.map lv = CV at *
      generalize M.map lv = MV at *
      generalize C'.map lv = CV' at *
      generalize M'.map lv = MV' at *
      have bC : (xs.length + 1) * 8 ≤ 140737488355328 := by omega
      have bM : (ys.length + 1) * 8 ≤ 140737488355328 := by omega
      refine regionCh [] [0, 1, 5, 6, 7, 8, 9, 10, 11, 12] [0, 1, 6, 7, 8, 9] mixed (by kernel_rfl) ?_
      simp -implicitDefEqProofs [↓gd_tt, ↓gd_ff, ↓gd_tf, ↓gd_ft, stripL, stripM, onsOf, hintOf]
      refine ⟨u1, ?_⟩
      rcases lv_cases xs with ⟨hxe, hxv⟩ | hxv
      · subst hxe
        rw [hxv] at hgC hjC
        simp only [List.map_nil, List.nil_append] at hsC
        have hj1 : j + 1 ≤ CV.length := hjC'
        have hj2 : j + 1 ≤ MV.length := hjM'
        refine x_end ?wan (fun K0 hK0 => ?_) ?_
        case refine_1 =>
          simp -implicitDefEqProofs [↓gd_tt, ↓gd_ff, ↓gd_tf, ↓gd_ft, lx_zero, lx_succ, ll_nil, ll_cons, hjC, hjC', hgC, bC, u1, hj1, set_td hjC']
          exact hK0
        simp -implicitDefEqProofs [↓gd_tt, ↓gd_ff, ↓gd_tf, ↓gd_ft]
        refine regionCh [] [0, 1, 5, 6, 7, 8, 9, 10, 11] [0, 1, 6, 7, 8] mixed (by kernel_rfl) ?_
        simp -implicitDefEqProofs [↓gd_tt, ↓gd_ff, ↓gd_tf, ↓gd_ft, stripL, stripM, onsOf, hintOf]
        refine ⟨u1, ?_⟩
        rcases lv_cases ys with ⟨hye, hyv⟩ | hyv
        · subst hye
          rw [hyv] at hgM hjM
          simp only [List.map_nil, List.nil_append] at hsM
          refine x_end ?wbn (fun K0 hK0 => ?_) ?_
          case refine_1 =>
            simp -implicitDefEqProofs [↓gd_tt, ↓gd_ff, ↓gd_tf, ↓gd_ft, lx_zero, lx_succ, ll_nil, ll_cons, hjM, hjM', hgM, bM, u1, hj2, set_td hjM']
            exact hK0
          simp -implicitDefEqProofs [↓gd_tt, ↓gd_ff, ↓gd_tf, ↓gd_ft, set_td hjM']
          exact ⟨⟨by rw [← hsC]; exact hltC _, by rw [← hsM]; exact hltM _⟩, ⟨hsC.symm, hsM.symm⟩, by omega⟩
        · rw [hyv] at hgM hjM
          refine x_end ?wcn (fun K0 hK0 => ?_) ?_
          case refine_1 =>
            simp -implicitDefEqProofs [↓gd_tt, ↓gd_ff, ↓gd_tf, ↓gd_ft, lx_zero, lx_succ, ll_nil, ll_cons, hjM, hjM', hgM, bM, u1, hj2, set_td hjM']
            exact hK0
          simp -implicitDefEqProofs [↓gd_tt, ↓gd_ff, ↓gd_tf, ↓gd_ft, set_td hjM']
          exact ⟨⟨by rw [← hsC]; exact hltC _, by rw [← hsM]; exact hltM _⟩, ⟨hsC.symm, hsM.symm⟩, by omega⟩
      · rw [hxv] at hgC hjC
        have hj1 : j + 1 ≤ CV.length := hjC'
        have hj2 : j + 1 ≤ MV.length := hjM'
        refine x_end ?wao (fun K0 hK0 => ?_) ?_
        case refine_1 =>
          simp -implicitDefEqProofs [↓gd_tt, ↓gd_ff, ↓gd_tf, ↓gd_ft, lx_zero, lx_succ, ll_nil, ll_cons, hjC, hjC', hgC, bC, u1, hj1, set_td hjC']
          exact hK0
        simp -implicitDefEqProofs [↓gd_tt, ↓gd_ff, ↓gd_tf, ↓gd_ft]
        refine regionCh [] [0, 1, 5, 6, 7, 8, 9, 10, 11] [0, 1, 6, 7, 8] mixed (by kernel_rfl) ?_
        simp -implicitDefEqProofs [↓gd_tt, ↓gd_ff, ↓gd_tf, ↓gd_ft, stripL, stripM, onsOf, hintOf]
        refine ⟨u1, ?_⟩
        rcases lv_cases ys with ⟨hye, hyv⟩ | hyv
        · subst hye
          rw [hyv] at hgM hjM
          simp only [List.map_nil, List.nil_append] at hsM
          refine x_end ?wbo (fun K0 hK0 => ?_) ?_
          case refine_1 =>
            simp -implicitDefEqProofs [↓gd_tt, ↓gd_ff, ↓gd_tf, ↓gd_ft, lx_zero, lx_succ, ll_nil, ll_cons, hjM, hjM', hgM, bM, u1, hj2, set_td hjM']
            exact hK0
          simp -implicitDefEqProofs [↓gd_tt, ↓gd_ff, ↓gd_tf, ↓gd_ft, set_td hjM']
          exact ⟨⟨by rw [← hsC]; exact hltC _, by rw [← hsM]; exact hltM _⟩, ⟨hsC.symm, hsM.symm⟩, by omega⟩
        · rw [hyv] at hgM hjM
          refine x_end ?wco (fun K0 hK0 => ?_) ?_
          case refine_1 =>
            simp -implicitDefEqProofs [↓gd_tt, ↓gd_ff, ↓gd_tf, ↓gd_ft, lx_zero, lx_succ, ll_nil, ll_cons, hjM, hjM', hgM, bM, u1, hj2, set_td hjM']
            exact hK0
          simp -implicitDefEqProofs [↓gd_tt, ↓gd_ff, ↓gd_tf, ↓gd_ft, set_td hjM']
          exact ⟨⟨by rw [← hsC]; exact hltC _, by rw [← hsM]; exact hltM _⟩, ⟨hsC.symm, hsM.symm⟩, by omega⟩
    · rintro hp ⟨rfl, hk⟩
      have hfull1 := cpuL_step hf h
      have hfull2 := memL_step hf h
      have ht : ∀ X : List Nat, X.length = (up s.qs s.ls[i].q).length → X.take ((up s.qs s.ls[i].q).map yQ).length = X := fun X hX => List.take_of_length_le (by simp [hX])
      rw [ht _ (by simp), hfull1, hfull2]
      simp -implicitDefEqProofs [↓gd_tt, ↓gd_ff, ↓gd_tf, ↓gd_ft, wrap1 hll h]
      exact ⟨i + 1, by omega, by omega, rfl, rfl, ⟨ltL_lv _ _, ltL_lv _ _⟩, rfl, rfl⟩
  · simp -implicitDefEqProofs [↓gd_tt, ↓gd_ff, ↓gd_tf, ↓gd_ft, h, cpuL_full, memL_full]
    exact hk
end Go.Idl
end
section
namespace Go.Idl
set_option linter.unusedSimpArgs false
set_option linter.unusedVariables false

section
variable {κ : Type} [DecidableEq κ]
abbrev AL (κ : Type) := List (Nat × κ × V)
def encM (enck : κ → D) (A : AL κ) : List (Nat × D × V) := A.map fun e => (e.1, enck e.2.1, e.2.2)
def aFind (q : κ) : AL κ → Nat → Option (Nat × V)
  | [], _ => none
  | (_, k, v) :: r, i => if q = k then some (i, v) else aFind q r (i + 1)
def aLook (q : κ) (A : AL κ) : Option V := (aFind q A 0).map (·.2)
theorem mfind_enc {P : Program} {kt : TypeId} {enck : κ → D} (hk : ∀ a b, keyEq P kt (enck a) (enck b) = some (decide (a = b))) (q : κ) : ∀ (A : AL κ) (i : Nat), mfind P kt (enck q) (encM enck A) i = some (aFind q A i)
  | [], i => rfl
  | (n, k, v) :: r, i => by
    have ih := mfind_enc hk q r (i + 1)
    simp only [encM, List.map_cons, mfind, hk, aFind]
    by_cases e : q = k
    · simp [e]
    · simp only [e, decide_false, if_false]
      exact ih
theorem aFind_shift (q : κ) : ∀ (A : AL κ) (i : Nat), aFind q A i = (aFind q A 0).map fun p => (p.1 + i, p.2)
  | [], i => rfl
  | (n, k, v) :: r, i => by
    have h1 := aFind_shift q r (i + 1)
    have h2 := aFind_shift q r 1
    unfold aFind
    split
    · simp
    · rw [h1, h2]
      cases aFind q r 0 <;> simp; omega
theorem aFind_cons (q : κ) (n : Nat) (k : κ) (v : V) (r : AL κ) : aFind q ((n, k, v) :: r) 0 = if q = k then some (0, v) else (aFind q r 0).map fun p => (p.1 + 1, p.2) := by
  show (if q = k then some (0, v) else aFind q r (0 + 1)) = _
  split
  · rfl
  · rw [aFind_shift q r (0 + 1)]
theorem aLook_cons (q : κ) (n : Nat) (k : κ) (v : V) (r : AL κ) : aLook q ((n, k, v) :: r) = if q = k then some v else aLook q r := by
  unfold aLook
  rw [aFind_cons]
  split
  · rfl
  · cases aFind q r 0 <;> rfl
theorem aLook_nil (q : κ) : aLook q ([] : AL κ) = none := rfl
theorem aFind_none {q : κ} {A : AL κ} : aFind q A 0 = none ↔ aLook q A = none := by unfold aLook; simp
theorem aLook_mem {q : κ} : ∀ {A : AL κ}, aLook q A ≠ none ↔ q ∈ A.map (·.2.1)
  | [] => by simp [aLook_nil]
  | (n, k, v) :: r => by
    have ih := aLook_mem (q := q) (A := r)
    rw [aLook_cons]
    by_cases e : q = k
    · simp [e]
    · rw [if_neg e, ih]; simp [e]
/-- a value is put where its key stands -/
theorem aLook_modify {q : κ} {v : V} : ∀ {A : AL κ} {i : Nat} {u : V}, aFind q A 0 = some (i, u) → ∀ x, aLook x (A.modify i fun e => (e.1, e.2.1, v)) = if x = q then some v else aLook x A
  | [], i, u, h, x => by cases h
  | (n, k, w) :: r, i, u, h, x => by
    rw [aFind_cons] at h
    split at h
    · rename_i e
      injection h with h; injection h with h1 h2; subst h1; subst e
      simp only [List.modify_zero_cons, aLook_cons]
      split <;> rfl
    · rename_i e
      cases hf : aFind q r 0 with
      | none => rw [hf] at h; cases h
      | some p =>
        rw [hf] at h
        injection h with h; injection h with h1 h2
        have ih := aLook_modify (v := v) (A := r) (i := p.1) (u := p.2) hf x
        subst h1
        simp only [List.modify_succ_cons, aLook_cons, ih]
        by_cases e2 : x = k
        · rw [if_pos e2, if_pos e2, if_neg (by subst e2; exact fun h => e h.symm)]
        · rw [if_neg e2, if_neg e2]
theorem keys_modify {v : V} : ∀ (A : AL κ) (i : Nat), (A.modify i fun e => (e.1, e.2.1, v)).map (·.2.1) = A.map (·.2.1)
  | [], i => by simp
  | (n, k, w) :: r, 0 => by simp
  | (n, k, w) :: r, i + 1 => by simp [keys_modify r i]
theorem borns_modify {v : V} : ∀ (A : AL κ) (i : Nat), (A.modify i fun e => (e.1, e.2.1, v)).map (·.1) = A.map (·.1)
  | [], i => by simp
  | (n, k, w) :: r, 0 => by simp
  | (n, k, w) :: r, i + 1 => by simp [borns_modify r i]
theorem encM_modify {enck : κ → D} {v : V} (A : AL κ) (i : Nat) : (encM enck A).modify i (fun e => (e.1, e.2.1, v)) = encM enck (A.modify i fun e => (e.1, e.2.1, v)) := by
  unfold encM
  induction A generalizing i with
  | nil => simp
  | cons p r ih =>
    cases i with
    | zero => simp
    | succ i => simp [ih i]
/-- a new key behind all -/
theorem aLook_append {q : κ} {v : V} {n : Nat} : ∀ {A : AL κ}, aLook q A = none → ∀ x, aLook x (A ++ [(n, q, v)]) = if x = q then some v else aLook x A
  | [], _, x => by rw [List.nil_append, aLook_cons, aLook_nil]
  | (m, k, w) :: r, h, x => by
    rw [aLook_cons] at h
    split at h
    · cases h
    · rename_i e
      have ih := aLook_append (v := v) (n := n) h x
      rw [List.cons_append, aLook_cons, aLook_cons, ih]
      by_cases e2 : x = k
      · rw [if_pos e2, if_pos e2, if_neg (by subst e2; exact fun h => e h.symm)]
      · rw [if_neg e2, if_neg e2]
theorem encM_append {enck : κ → D} (A : AL κ) (n : Nat) (q : κ) (v : V) : encM enck A ++ [(n, enck q, v)] = encM enck (A ++ [(n, q, v)]) := by simp [encM]
theorem encM_len {enck : κ → D} (A : AL κ) : (encM enck A).length = A.length := by simp [encM]
/-- a map's list as it may be: no key twice, nothing born twice or ahead of its time -/
structure AOK (c : Nat) (A : AL κ) : Prop where
  keys : (A.map (·.2.1)).Nodup
  borns : (A.map (·.1)).Nodup
  past : ∀ e ∈ A, e.1 < c
theorem AOK.nil {c : Nat} : AOK c ([] : AL κ) := ⟨by simp, by simp, by simp⟩
theorem AOK.modify {c : Nat} {A : AL κ} (h : AOK c A) (i : Nat) (v : V) : AOK c (A.modify i fun e => (e.1, e.2.1, v)) := by
  refine ⟨by rw [keys_modify]; exact h.keys, by rw [borns_modify]; exact h.borns, fun e he => ?_⟩
  have : e.1 ∈ (A.modify i fun e => (e.1, e.2.1, v)).map (·.1) := List.mem_map.2 ⟨e, he, rfl⟩
  rw [borns_modify] at this
  obtain ⟨e', h1, h2⟩ := List.mem_map.1 this
  rw [← h2]; exact h.past e' h1
theorem AOK.append {c : Nat} {A : AL κ} (h : AOK c A) {q : κ} (v : V) (hq : aLook q A = none) : AOK (c + 1) (A ++ [(c, q, v)]) := by
  have hq' : q ∉ A.map (·.2.1) := fun k => aLook_mem.2 k hq
  refine ⟨?_, ?_, fun e he => ?_⟩
  · rw [List.map_append]
    exact List.nodup_append.2 ⟨h.keys, by simp, fun a ha b hb e => by simp at hb; subst hb; subst e; exact hq' ha⟩
  · rw [List.map_append]
    refine List.nodup_append.2 ⟨h.borns, by simp, fun a ha b hb e => ?_⟩
    simp at hb; subst hb; subst e
    obtain ⟨e', h1, h2⟩ := List.mem_map.1 ha
    have := h.past e' h1
    omega
  · rcases List.mem_append.1 he with he | he
    · have := h.past e he; omega
    · simp at he; subst he; simp
theorem AOK.erase {c : Nat} {A : AL κ} (h : AOK c A) (i : Nat) : AOK c (A.eraseIdx i) :=
  ⟨h.keys.sublist ((List.eraseIdx_sublist A i).map _), h.borns.sublist ((List.eraseIdx_sublist A i).map _), fun e he => h.past e ((List.eraseIdx_sublist A i).subset he)⟩
end
end Go.Idl
end
section
namespace Go.Idl
open Go.Proofs
set_option linter.unusedSimpArgs false
set_option linter.unusedVariables false
set_option maxRecDepth 8000
set_option maxHeartbeats 2000000
variable (b : Bool)

theorem on_spec (s : Sta) (id : Int) (hp : List IObj) (K : V → List IObj → Prop) (hk : K (.fn (.func 142) [.ptr hp.length 0, .ptr (hp.length + 1) 0]) (hp ++ [stC b s, .var [.d (I id)]])) : CallK Try.prog 104 [.d (encSt b s), .d (I id)] hp K := by
  refine callS (fn := Try.f104) [] [] mixed (bodyOf Try.f104) [.tmp 4] Try.func104 rfl rfl (by decide) 4 rfl (by kernel_rfl) ?_
  simp -implicitDefEqProofs [↓gd_tt, ↓gd_ff, ↓gd_tf, ↓gd_ft, bodyOf, Try.f104, stripC, stripL, stripM, onsOf, upto, hintOf, freeOf, List.replicate]
  simpa using hk
theorem keyEqI (a c : Int) : keyEq Try.prog 3 (I a) (I c) = some (decide (a = c)) := by simp [keyEq]
/-- numbers in a map, each with a value -/
def numA (f : Int → Int) (l : List Int) : AL Int := l.zipIdx.map fun p => (p.2, p.1, .d (I (f p.1)))
theorem numA_snoc (f : Int → Int) (l : List Int) (c : Int) : numA f (l ++ [c]) = numA f l ++ [(l.length, c, .d (I (f c)))] := by
  unfold numA
  rw [List.zipIdx_append, List.map_append]; simp
theorem numA_len (f : Int → Int) (l : List Int) : (numA f l).length = l.length := by simp [numA]
theorem numA_keys (f : Int → Int) (l : List Int) : (numA f l).map (·.2.1) = l := by
  unfold numA
  rw [List.map_map]
  have : ((fun x : Nat × Int × V => x.2.1) ∘ fun p : Int × Nat => (p.2, p.1, V.d (I (f p.1)))) = Prod.fst := rfl
  rw [this, List.zipIdx_map_fst]
theorem numA_find (f : Int → Int) (q : Int) : ∀ (l : List Int), (q ∉ l ∧ mfind Try.prog 3 (I q) (encM I (numA f l)) 0 = some none) ∨ (q ∈ l ∧ ∃ i, mfind Try.prog 3 (I q) (encM I (numA f l)) 0 = some (some (i, .d (I (f q))))) := fun l => by
  rw [mfind_enc keyEqI]
  by_cases h : q ∈ l
  · right
    refine ⟨h, ?_⟩
    have hm : aLook q (numA f l) ≠ none := aLook_mem.2 (by rw [numA_keys]; exact h)
    cases e : aFind q (numA f l) 0 with
    | none => exact absurd (aFind_none.1 e) hm
    | some p =>
      obtain ⟨i, v⟩ := p
      refine ⟨i, ?_⟩
      have : ∀ (A : AL Int) (b : Nat), (∀ x ∈ A, x.2.2 = .d (I (f x.2.1))) → ∀ i v, aFind q A b = some (i, v) → v = .d (I (f q)) := by
        intro A
        induction A with
        | nil => intro b _ i v h; cases h
        | cons x A ih =>
          obtain ⟨n, k, w⟩ := x
          intro b hA i v h
          simp only [aFind] at h
          split at h
          · rename_i hq
            injection h with h; injection h with _ h2
            rw [← h2]; have := hA (n, k, w) (by simp); simp only at this; rw [this, hq]
          · exact ih (b + 1) (fun x hx => hA x (by simp [hx])) i v h
      rw [this _ 0 (fun x hx => by
        unfold numA at hx
        obtain ⟨p, _, rfl⟩ := List.mem_map.1 hx; rfl) i v e]
  · left
    refine ⟨h, ?_⟩
    have : aLook q (numA f l) = none := Classical.byContradiction fun hn => h (by have := aLook_mem.1 hn; rwa [numA_keys] at this)
    rw [aFind_none.2 this]
theorem numA_lt (m : Nat) (f : Int → Int) (l : List Int) : V.ltL m ((encM I (numA f l)).map fun x => x.2.2) = true := by
  unfold numA encM
  rw [List.map_map, List.map_map]
  have : ∀ L : List (Int × Nat), V.ltL m (L.map (((fun x : Nat × D × V => x.2.2) ∘ fun e : Nat × Int × V => (e.1, I e.2.1, e.2.2)) ∘ fun p => (p.2, p.1, V.d (I (f p.1))))) = true := fun L => by
    induction L with
    | nil => rfl
    | cons a L ih => simp only [List.map_cons, V.ltL, ih]; rfl
  exact this _
theorem badCs_take {n : Nd} {cs : List Int} {j : Nat} (h : j < cs.length) : badCs n (cs.take (j + 1)) = (badCs n (cs.take j) || (decide (cs[j] < 0) || decide (n.k ≤ cs[j]) || decide (cs[j] ∈ cs.take j))) := by
  unfold badCs
  rw [List.take_add_one, List.getElem?_eq_getElem h, Option.toList_some, List.any_append]
  have e : decide (cs.take j ++ [cs[j]]).Nodup = (decide (cs.take j).Nodup && !decide (cs[j] ∈ cs.take j)) := by
    rw [Bool.eq_iff_iff]
    simp only [decide_eq_true_eq, Bool.and_eq_true, Bool.not_eq_true', decide_eq_false_iff_not, List.nodup_append]
    constructor
    · rintro ⟨h1, _, h3⟩
      exact ⟨h1, fun hm => h3 _ hm _ (by simp) rfl⟩
    · rintro ⟨h1, h2⟩
      exact ⟨h1, by simp, fun a ha b hb e => by simp at hb; subst hb; subst e; exact h2 ha⟩
  rw [e]
  simp only [List.any_cons, List.any_nil, Bool.or_false]
  generalize (cs.take j).any _ = x
  generalize decide (cs.take j).Nodup = y
  generalize decide (cs[j] ∈ cs.take j) = z
  generalize (decide (cs[j] < 0) || decide (n.k ≤ cs[j])) = u
  cases x <;> cases y <;> cases z <;> cases u <;> rfl
theorem badCs_mono {n : Nd} {cs : List Int} {j : Nat} (h : badCs n (cs.take j) = true) : badCs n cs = true := by
  unfold badCs at h ⊢
  rw [Bool.or_eq_true] at h ⊢
  rcases h with h | h
  · left
    rw [List.any_eq_true] at h ⊢
    obtain ⟨x, hx, e⟩ := h
    exact ⟨x, List.mem_of_mem_take hx, e⟩
  · right
    simp only [Bool.not_eq_true', decide_eq_false_iff_not] at h ⊢
    exact fun hn => h (hn.sublist (List.take_sublist _ _))
theorem small6 {n : Nat} (h : n ≤ 1000000) : n ≤ maxLen := Nat.le_trans h (by decide)
theorem over_spec (s : Sta) (n : Nd) (hl6 : s.ls.length ≤ 1000000) (hw1 : ∀ x ∈ s.ls, x.cs.length ≤ maxLen) (hw2 : ∀ x ∈ s.ls, In64 x.m) : PCall Try.prog 47 [encSt b s, encNd n] (.d (.bool (wrongN s.ls n))) := by
  have hll := small6 hl6
  have hF : (onN n.id s.ls).length ≤ s.ls.length := List.length_filter_le _ _
  refine pcallS (fn := Try.f47) [] [] mixed (bodyOf Try.f47) [.cell 4 4] Try.func47 rfl rfl (by decide) 55 rfl (by kernel_rfl) ?_
  simp -implicitDefEqProofs [↓gd_tt, ↓gd_ff, ↓gd_tf, ↓gd_ft, bodyOf, Try.f47, stripC, stripL, stripM, onsOf, upto, hintOf, freeOf, List.replicate]
  refine on_spec b s n.id _ _ ?_
  simp -implicitDefEqProofs [↓gd_tt, ↓gd_ff, ↓gd_tf, ↓gd_ft]
  refine rangeYl mixed (on_yields b s n.id 4 5 hll) (by simp) (by simp) (by simp) (by simp [constV_nilf]) (by simp) (by intro y hy; obtain ⟨p, _, rfl⟩ := List.mem_map.1 hy; simp)
    (fun k hp => hp = [stC b s, .var ((encNd n).flat.map V.d), .var [.d (.bool false)], .var [lv (((onN n.id s.ls).take k).map (·.m))], stC b s, .var [.d (I n.id)]] ∧ k ≤ (onN n.id s.ls).length ∧ ((onN n.id s.ls).take k).any (badLe n) = false) ⟨by simp [lv], Nat.zero_le _, by simp⟩ (by rintro k hp ⟨rfl, _⟩; simp [ltObjs, IObj.lt, lv_lt, V.ltL, V.lt]) ?_ ?_
  · rintro k hp ⟨rfl, hk, hbad⟩ hik L0 L1 hL1
    have hk' : k < (onN n.id s.ls).length := by simpa using hik
    have hmem : (onN n.id s.ls)[k] ∈ s.ls := (List.mem_filter.1 (List.getElem_mem hk')).1
    have hcl := hw1 _ hmem
    have hany : ((onN n.id s.ls).take (k + 1)).any (badLe n) = badLe n (onN n.id s.ls)[k] := by
      rw [List.take_add_one, List.getElem?_eq_getElem hk', Option.toList_some, List.any_append, hbad]; simp
    have hwr : badLe n (onN n.id s.ls)[k] = true → wrongN s.ls n = true := fun e => by
      unfold wrongN
      rw [List.any_eq_true.2 ⟨_, List.getElem_mem hk', e⟩]; rfl
    have hms : ((onN n.id s.ls).take (k + 1)).map (·.m) = ((onN n.id s.ls).take k).map (·.m) ++ [(onN n.id s.ls)[k].m] := by
      rw [List.take_add_one, List.getElem?_eq_getElem hk', Option.toList_some, List.map_append]; rfl
    have hbl : (((onN n.id s.ls).take k).map (·.m)).length ≤ s.ls.length := by simp; omega
    simp only [List.getElem_map]
    generalize (onN n.id s.ls)[k] = x at *
    generalize ((onN n.id s.ls).take k).map (·.m) = xs at *
    have bX : (xs.length + 1) * 8 ≤ 140737488355328 := by omega
    have hL9 : L1.lt 9 = true := IObj.lt_mono (by simp) hL1
    rcases lv_cases xs with ⟨hxe, hxv⟩ | hxv
    · subst hxe
      simp -implicitDefEqProofs [↓gd_tt, ↓gd_ff, ↓gd_tf, ↓gd_ft, bX, hxv]
      refine loopA mixed [false, false, false, false, false, false, false, false, false, true, false, false, false, false, false, false, false, false, false, false, false, false, false, false, true, true, true, true, true, true, true, true, true, true, true, true, true, true, true, true, true, true, true, true, true] (fun (j : Nat) => [(24, .d (I j))]) (fun (j : Nat) => [stC b s, .var ((encNd n).flat.map V.d), .var [.d (.bool false)], .var [.own 1 ((([] : List Int) ++ [x.m]).map fun n => .int .i64 n)], stC b s, .var [.d (I n.id)], L1, .var ((encLf b x).flat.map V.d), .map j (encM I (numA (fun _ => 1) (x.cs.take j)))]) (fun (j : Nat) => j ≤ x.cs.length ∧ badCs n (x.cs.take j) = false) (fun (j : Nat) => x.cs.length - j) (0) (⟨Nat.zero_le _, by simp [badCs]⟩) (by simp [ltObjs, IObj.lt, V.ltL, V.lt, numA, encM, constV_nilf]; exact hL9) ?_
      rintro j hx
      obtain ⟨hj, hbj⟩ := hx
      rcases Nat.lt_or_eq_of_le hj with hjl | hjl
      · have hst := badCs_take (n := n) hjl
        rw [hbj, Bool.false_or] at hst
        have hfd := numA_find (fun _ => 1) x.cs[j] (x.cs.take j)
        have hwj := wrap1 hcl hjl
        have hta : x.cs.take (j + 1) = x.cs.take j ++ [x.cs[j]] := by rw [List.take_add_one, List.getElem?_eq_getElem hjl]; rfl
        have hbd : badCs n (x.cs.take (j + 1)) = true → wrongN s.ls n = true := fun e => hwr (by unfold badLe; rw [badCs_mono e]; rfl)
        by_cases h1 : x.cs[j] < 0
        · have := hbd (by rw [hst]; simp [h1])
          simp -implicitDefEqProofs [↓gd_tt, ↓gd_ff, ↓gd_tf, ↓gd_ft, hjl, h1, this]
        by_cases h2 : n.k ≤ x.cs[j]
        · have := hbd (by rw [hst]; simp [h2])
          simp -implicitDefEqProofs [↓gd_tt, ↓gd_ff, ↓gd_tf, ↓gd_ft, hjl, h1, h2, this]
        rcases hfd with ⟨h3, h4⟩ | ⟨h3, q, h4⟩
        · simp -implicitDefEqProofs [↓gd_tt, ↓gd_ff, ↓gd_tf, ↓gd_ft, hjl, h1, h2, keyOKI, h4, hwj]
          exact ⟨j + 1, ⟨by omega, by rw [hst]; simp [h1, h2, h3]⟩, by omega, rfl, ⟨hL9, numA_lt _ _ _⟩, rfl, by rw [hta, numA_snoc, ← encM_append]; simp; omega⟩
        · have := hbd (by rw [hst]; simp [h3])
          simp -implicitDefEqProofs [↓gd_tt, ↓gd_ff, ↓gd_tf, ↓gd_ft, hjl, h1, h2, keyOKI, h4, this]
      · have htj : x.cs.take j = x.cs := by rw [hjl]; exact List.take_length
        rw [htj] at hbj
        have hel : (encM I (numA (fun _ => 1) x.cs)).length = x.cs.length := by rw [encM_len, numA_len]
        simp -implicitDefEqProofs [↓gd_tt, ↓gd_ff, ↓gd_tf, ↓gd_ft, hjl, htj, hel]
        refine ⟨fun e => ⟨fun e2 => hwr (by simp [badLe, e2]), fun e2 => ⟨?_, by omega, ?_⟩⟩, fun e => hwr (by simp [badLe, e])⟩
        · rw [← List.map_take, hms]; simp [lv]
        · have hb0 : badLe n x = false := by simp [badLe, hbj, e]; omega
          rw [hb0, List.any_eq_false] at hany
          exact fun y hy => by simpa using hany y hy
    · simp -implicitDefEqProofs [↓gd_tt, ↓gd_ff, ↓gd_tf, ↓gd_ft, bX, hxv]
      refine loopA mixed [false, false, false, false, false, false, false, false, false, true, false, false, false, false, false, false, false, false, false, false, false, false, false, false, true, true, true, true, true, true, true, true, true, true, true, true, true, true, true, true, true, true, true, true, true] (fun (j : Nat) => [(24, .d (I j))]) (fun (j : Nat) => [stC b s, .var ((encNd n).flat.map V.d), .var [.d (.bool false)], .var [.own 1 ((xs ++ [x.m]).map fun n => .int .i64 n)], stC b s, .var [.d (I n.id)], L1, .var ((encLf b x).flat.map V.d), .map j (encM I (numA (fun _ => 1) (x.cs.take j)))]) (fun (j : Nat) => j ≤ x.cs.length ∧ badCs n (x.cs.take j) = false) (fun (j : Nat) => x.cs.length - j) (0) (⟨Nat.zero_le _, by simp [badCs]⟩) (by simp [ltObjs, IObj.lt, V.ltL, V.lt, numA, encM, constV_nilf]; exact hL9) ?_
      rintro j hx
      obtain ⟨hj, hbj⟩ := hx
      rcases Nat.lt_or_eq_of_le hj with hjl | hjl
      · have hst := badCs_take (n := n) hjl
        rw [hbj, Bool.false_or] at hst
        have hfd := numA_find (fun _ => 1) x.cs[j] (x.cs.take j)
        have hwj := wrap1 hcl hjl
        have hta : x.cs.take (j + 1) = x.cs.take j ++ [x.cs[j]] := by rw [List.take_add_one, List.getElem?_eq_getElem hjl]; rfl
        have hbd : badCs n (x.cs.take (j + 1)) = true → wrongN s.ls n = true := fun e => hwr (by unfold badLe; rw [badCs_mono e]; rfl)
        by_cases h1 : x.cs[j] < 0
        · have := hbd (by rw [hst]; simp [h1])
          simp -implicitDefEqProofs [↓gd_tt, ↓gd_ff, ↓gd_tf, ↓gd_ft, hjl, h1, this]
        by_cases h2 : n.k ≤ x.cs[j]
        · have := hbd (by rw [hst]; simp [h2])
          simp -implicitDefEqProofs [↓gd_tt, ↓gd_ff, ↓gd_tf, ↓gd_ft, hjl, h1, h2, this]
        rcases hfd with ⟨h3, h4⟩ | ⟨h3, q, h4⟩
        · simp -implicitDefEqProofs [↓gd_tt, ↓gd_ff, ↓gd_tf, ↓gd_ft, hjl, h1, h2, keyOKI, h4, hwj]
          exact ⟨j + 1, ⟨by omega, by rw [hst]; simp [h1, h2, h3]⟩, by omega, rfl, ⟨hL9, numA_lt _ _ _⟩, rfl, by rw [hta, numA_snoc, ← encM_append]; simp; omega⟩
        · have := hbd (by rw [hst]; simp [h3])
          simp -implicitDefEqProofs [↓gd_tt, ↓gd_ff, ↓gd_tf, ↓gd_ft, hjl, h1, h2, keyOKI, h4, this]
      · have htj : x.cs.take j = x.cs := by rw [hjl]; exact List.take_length
        rw [htj] at hbj
        have hel : (encM I (numA (fun _ => 1) x.cs)).length = x.cs.length := by rw [encM_len, numA_len]
        simp -implicitDefEqProofs [↓gd_tt, ↓gd_ff, ↓gd_tf, ↓gd_ft, hjl, htj, hel]
        refine ⟨fun e => ⟨fun e2 => hwr (by simp [badLe, e2]), fun e2 => ⟨?_, by omega, ?_⟩⟩, fun e => hwr (by simp [badLe, e])⟩
        · rw [← List.map_take, hms]; simp [lv]
        · have hb0 : badLe n x = false := by simp [badLe, hbj, e]; omega
          rw [hb0, List.any_eq_false] at hany
          exact fun y hy => by simpa using hany y hy
  · rintro hp ⟨rfl, hk, hbad⟩
    have ht : (onN n.id s.ls).take ((onN n.id s.ls).map fun x => [V.d (encLf b x)]).length = onN n.id s.ls := List.take_of_length_le (by simp)
    rw [ht] at hbad ⊢
    have hv : wrongN s.ls n = bey ((onN n.id s.ls).map (·.m)).sum n.m := by unfold wrongN; rw [hbad]; rfl
    have hbs := beyond_spec false ((onN n.id s.ls).map (·.m)) n.m (by rw [List.length_map]; omega) fun y hy => by
      obtain ⟨x, hx, rfl⟩ := List.mem_map.1 hy
      exact hw2 x (List.mem_filter.1 hx).1
    simp -implicitDefEqProofs [↓gd_tt, ↓gd_ff, ↓gd_tf, ↓gd_ft, lv_tup, lv_bare, lv_cpcp]
    refine ⟨by have := lv_bare ((onN n.id s.ls).map (·.m)); unfold V.bare at this; exact this, callK_pcall hbs (lv_allD _ _) rfl ?_⟩
    simp -implicitDefEqProofs [↓gd_tt, ↓gd_ff, ↓gd_tf, ↓gd_ft, hv]
end Go.Idl
end
section
namespace Go.Idl
set_option linter.unusedSimpArgs false
set_option linter.unusedVariables false

/-- what an audit needs to know of how much there is -/
structure Sta.small (s : Sta) : Prop where
  qs : s.qs.length ≤ maxLen
  ns : s.ns.length ≤ 1000000
  ts : s.ts.length ≤ 1000000
  ls : s.ls.length ≤ 1000000
  hs : s.hs.length ≤ 17592186044415
  cs : ∀ x ∈ s.ls, x.cs.length ≤ maxLen
  m : ∀ x ∈ s.ls, In64 x.m
  u : ∀ x ∈ s.ls, In64 x.u
  now : In64 s.now
  long : In64 s.long
  qc : ∀ q ∈ s.qs, In64 q.QC ∧ In64 q.QM
  nm : ∀ n ∈ s.ns, In64 n.m
theorem probs_len {s : Sta} (h : s.small) (hc : check s.qs = 0) : (probQ s).length + ((probN s).length + ((probT s).length + ((probA s).length + ((probB s).length + (probL s).length)))) ≤ 6000000 := by
  have h1 := (check_len hc).2
  have h2 := h.ns; have h3 := h.ts; have h4 := h.ls
  have k1 : (probQ s).length ≤ s.qs.length := by unfold probQ; rw [List.length_map]; exact List.length_filter_le _ _
  have k2 : (probN s).length ≤ s.ns.length := by unfold probN; rw [List.length_map]; exact List.length_filter_le _ _
  have k3 : (probT s).length ≤ s.ns.length := by unfold probT; rw [List.length_map]; exact List.length_filter_le _ _
  have k4 : (probA s).length ≤ s.ls.length := by unfold probA; rw [List.length_map]; exact List.length_filter_le _ _
  have k5 : (probB s).length ≤ s.ts.length := by unfold probB; rw [List.length_map]; exact List.length_filter_le _ _
  have k6 : (probL s).length ≤ s.ls.length := by unfold probL; rw [List.length_map]; exact List.length_filter_le _ _
  omega
/-- the place of the first one with a number, or -1 -/
def plOf {α : Type} (g : α → Int) (l : List α) (id : Int) : Int := match l.findIdx? (fun t => decide (g t = id)) with
  | some i => i
  | none => -1
theorem plOf_at {α : Type} {g : α → Int} {l : List α} {id : Int} {i : Nat} (h : i < l.length) (e : g l[i] = id) (hb : ∀ j (hj : j < l.length), j < i → g l[j] ≠ id) : plOf g l id = i := by
  have : l.findIdx? (fun t => decide (g t = id)) = some i := List.findIdx?_eq_some_iff_getElem.2 ⟨h, by simpa using e, fun j hj => by simpa using hb j (by omega) hj⟩
  unfold plOf; rw [this]
theorem plOf_none {α : Type} {g : α → Int} {l : List α} {id : Int} (hb : ∀ j (hj : j < l.length), g l[j] ≠ id) : plOf g l id = -1 := by
  have : l.findIdx? (fun t => decide (g t = id)) = none := List.findIdx?_eq_none_iff.2 fun x hx => by
    obtain ⟨j, hj, rfl⟩ := List.getElem_of_mem hx
    simpa using hb j hj
  unfold plOf; rw [this]
theorem plOf_cases {α : Type} (g : α → Int) (l : List α) (id : Int) : (∃ i, ∃ h : i < l.length, plOf g l id = i ∧ g l[i] = id ∧ l.find? (fun t => decide (g t = id)) = some l[i]) ∨ (plOf g l id = -1 ∧ (∀ t ∈ l, g t ≠ id) ∧ l.find? (fun t => decide (g t = id)) = none) := by
  cases e : l.findIdx? (fun t => decide (g t = id)) with
  | none =>
    right
    have h1 := List.findIdx?_eq_none_iff.1 e
    refine ⟨by unfold plOf; rw [e], fun t ht => by simpa using h1 t ht, List.find?_eq_none.2 fun t ht => by simpa using h1 t ht⟩
  | some i =>
    left
    obtain ⟨h, h1, h2⟩ := List.findIdx?_eq_some_iff_getElem.1 e
    exact ⟨i, h, by unfold plOf; rw [e], by simpa using h1, List.find?_eq_some_iff_getElem.2 ⟨h1, i, h, rfl, fun j hj => by simpa using h2 j hj⟩⟩
/-- a node by its number -/
def nodeOf (l : List Nd) (id : Int) : Nd := (l.find? fun n => decide (n.id = id)).getD ⟨0, 0, 0, 0, 0⟩
end Go.Idl
end
