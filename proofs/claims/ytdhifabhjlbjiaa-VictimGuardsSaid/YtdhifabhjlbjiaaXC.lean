/- The program's victims: sums, at, the leases that live. -/
import Derived.Test.YtdhifabhjlbjiaaXA
import Derived.Test.YtdhifabhjlbjiaaMVall
import Derived.Test.YtdhifabhjlbjiaaPT
import Derived.Test.YtdhifabhjlbjiaaPGs
set_option linter.all false
namespace Go.Idl
open Go.Proofs
set_option linter.unusedSimpArgs false
set_option linter.unusedVariables false
set_option maxRecDepth 8000
set_option maxHeartbeats 2000000
variable (b c : Bool)

def vsumsV (l : List Q) (ls : List Le) : V := if vsumsE l ls = 0 then .tup [.d (encVs false (sumsL l (usesL ls))), .d (I 0)] else .tup [.nil 2, .d (I (vsumsE l ls))]
theorem vuses_len {ls : List Le} (h : vusesE ls = 0) : (usesL ls).length ≤ ls.length := by
  have hok : ∀ x ∈ ls, okLe x = true := fun x hx => by
    cases e : okLe x with
    | true => rfl
    | false =>
      have : ls.any (fun x => !okLe x) = true := List.any_eq_true.2 ⟨x, hx, by rw [e]; rfl⟩
      unfold vusesE at h; rw [if_pos this] at h; cases h
  have := (run_ok ls hok).len
  unfold usesL idsL
  simp; omega
theorem vsums_spec (l : List Q) (ls : List Le) (hl : l.length ≤ maxLen) (hls : ls.length ≤ maxLen) (hb : ls.length * 80 ≤ reachBytes) (hq : ∀ x ∈ ls, In64 x.q) : PCall Try.prog 146 [encL b l, encLs c ls] (vsumsV l ls) := by
  refine pcallS (fn := Try.f146) [] [] mixed (bodyOf Try.f146) [.tmp 4, .tmp 5] Try.func146 rfl rfl (by decide) 25 rfl (by kernel_rfl) ?_
  simp -implicitDefEqProofs [↓gd_tt, ↓gd_ff, ↓gd_tf, ↓gd_ft, bodyOf, Try.f146, stripC, stripL, stripM, onsOf, upto, hintOf, freeOf, List.replicate]
  refine callK_pcall (qcheck_spec b l hl) rfl rfl ?_
  by_cases hc : check l = 0
  case neg =>
    have hE : vsumsE l ls = check l := by simp [vsumsE, hc]
    have hv : vsumsV l ls = .tup [.nil 2, .d (I (check l))] := by unfold vsumsV; rw [hE, if_neg hc]
    rw [hv]
    simp -implicitDefEqProofs [↓gd_tt, ↓gd_ff, ↓gd_tf, ↓gd_ft, hc]
  simp -implicitDefEqProofs [↓gd_tt, ↓gd_ff, ↓gd_tf, ↓gd_ft, hc]
  by_cases hu : vusesE ls = 0
  case neg =>
    have hE : vsumsE l ls = vusesE ls := by simp [vsumsE, hc, hu]
    have hv : vsumsV l ls = .tup [.nil 2, .d (I (vusesE ls))] := by unfold vsumsV; rw [hE, if_neg hu]
    have hv2 : vusesV ls = .tup [.nil 3, .d (I (vusesE ls))] := by unfold vusesV; rw [if_neg hu]
    refine callK_pcall (vuses_spec c ls hls hb hq) rfl (by rw [hv2]; rfl) ?_
    rw [hv, hv2]
    simp -implicitDefEqProofs [↓gd_tt, ↓gd_ff, ↓gd_tf, ↓gd_ft, hu]
  have hE : vsumsE l ls = sumsE l (usesL ls) := by simp [vsumsE, hc, hu]
  have hv2 : vusesV ls = .tup [.d (encUs false (usesL ls)), .d (I 0)] := by unfold vusesV; rw [if_pos hu]
  have hul := vuses_len hu
  refine callK_pcall (vuses_spec c ls hls hb hq) rfl (by rw [hv2]; rfl) ?_
  rw [hv2]
  simp -implicitDefEqProofs [↓gd_tt, ↓gd_ff, ↓gd_tf, ↓gd_ft]
  by_cases hs : sumsE l (usesL ls) = 0
  · have hv : vsumsV l ls = .tup [.d (encVs false (sumsL l (usesL ls))), .d (I 0)] := by unfold vsumsV; rw [hE, if_pos hs]
    have hv3 : sumsV l (usesL ls) = .tup [.d (encVs false (sumsL l (usesL ls))), .d (I 0)] := by simp [sumsV, hs]
    refine callK_pcall (qsums_spec b false l (usesL ls) hl (by omega)) rfl (by rw [hv3]; rfl) ?_
    rw [hv3, hv]
    simp -implicitDefEqProofs [↓gd_tt, ↓gd_ff, ↓gd_tf, ↓gd_ft]
  · have hv : vsumsV l ls = .tup [.nil 2, .d (I (sumsE l (usesL ls)))] := by unfold vsumsV; rw [hE, if_neg hs]
    have hv3 : sumsV l (usesL ls) = .tup [.nil 2, .d (I (sumsE l (usesL ls)))] := by simp [sumsV, hs]
    refine callK_pcall (qsums_spec b false l (usesL ls) hl (by omega)) rfl (by rw [hv3]; rfl) ?_
    rw [hv3, hv]
    simp -implicitDefEqProofs [↓gd_tt, ↓gd_ff, ↓gd_tf, ↓gd_ft]
theorem placeF_drop (id : Int) : ∀ (l : List Q) (i k : Nat), (∀ j (h : j < l.length), j < k → l[j].Id ≠ id) → k ≤ l.length → placeF id l i = placeF id (l.drop k) (i + k)
  | l, i, 0, _, _ => by simp
  | [], i, k + 1, _, hk => by simp at hk
  | q :: r, i, k + 1, h, hk => by
    have h0 : q.Id ≠ id := h 0 (by simp) (by omega)
    have ih := placeF_drop id r (i + 1) k (fun j hj hjk => by
      have := h (j + 1) (by simp; omega) (by omega)
      simpa using this) (by simpa using hk)
    rw [placeF, if_neg h0, ih, List.drop_succ_cons]
    congr 1; omega
theorem at1_mem (q : Q) (id : Int) {K : V → List IObj → Prop} (hk : K (.d (.bool (decide (q.Id = id)))) [.var [.d (I id)]]) : CallK Try.prog 199 [.d (encQ q), .ptr 0 0] [.var [.d (I id)]] K := by
  refine callK_cut ?_
  refine callS (fn := Try.f199) [] [] mixed (bodyOf Try.f199) [.tmp 3] Try.func199 rfl rfl (by decide) 6 rfl (by kernel_rfl) ?_
  simp -implicitDefEqProofs [↓gd_tt, ↓gd_ff, ↓gd_tf, ↓gd_ft, bodyOf, Try.f199, stripC, stripL, stripM, onsOf, upto, hintOf, freeOf, List.replicate]
  exact hk
theorem indexat_mem (l : List Q) (id : Int) (hl : l.length ≤ maxLen) {K : V → List IObj → Prop} (hk : K (.d (I (place l id))) [.var [.d (I id)]]) : CallK Try.prog 187 [.d (encL b l), .fn (.func 199) [.ptr 0 0]] [.var [.d (I id)]] K := by
  refine callS (fn := Try.f187) [] [] mixed (bodyOf Try.f187) [.tmp 4] Try.func187 rfl rfl (by decide) 17 rfl (by kernel_rfl) ?_
  simp -implicitDefEqProofs [↓gd_tt, ↓gd_ff, ↓gd_tf, ↓gd_ft, bodyOf, Try.f187, stripC, stripL, stripM, onsOf, upto, hintOf, freeOf, List.replicate]
  refine loopA mixed [false, false, false, false, true, true, false, false, true, true, true, true, true, true, true, true, true, true, true] (fun (i : Nat) => [(8, .d (I i))]) (fun (i : Nat) => [.var [.d (I id)]]) (fun (i : Nat) => i ≤ l.length ∧ ∀ j (h : j < l.length), j < i → l[j].Id ≠ id) (fun (i : Nat) => l.length - i) (0) (⟨Nat.zero_le _, fun j _ h => by omega⟩) (by simp) ?_
  rintro i hx
  obtain ⟨hi, hp⟩ := hx
  rcases Nat.lt_or_eq_of_le hi with h | h
  · have hpl := placeF_drop id l 0 i hp hi
    rw [List.drop_eq_getElem_cons h, placeF] at hpl
    simp -implicitDefEqProofs [↓gd_tt, ↓gd_ff, ↓gd_tf, ↓gd_ft, h]
    refine at1_mem l[i] id ?_
    by_cases c1 : l[i].Id = id
    · rw [if_pos c1] at hpl
      have : place l id = (i : Int) := by unfold place; rw [hpl]; simp
      rw [this] at hk
      simp -implicitDefEqProofs [↓gd_tt, ↓gd_ff, ↓gd_tf, ↓gd_ft, c1]
      exact hk
    · simp -implicitDefEqProofs [↓gd_tt, ↓gd_ff, ↓gd_tf, ↓gd_ft, c1, wrap1 hl h]
      refine ⟨⟨by omega, fun j hj hji => ?_⟩, by omega⟩
      by_cases e : j = i
      · subst e; exact c1
      · exact hp j hj (by omega)
  · have hpl := placeF_drop id l 0 i hp hi
    rw [h, List.drop_length] at hpl
    have : place l id = -1 := by unfold place; rw [hpl]; rfl
    rw [this] at hk
    simp -implicitDefEqProofs [↓gd_tt, ↓gd_ff, ↓gd_tf, ↓gd_ft, h]
    exact hk
theorem vat_spec (l : List Q) (id : Int) (hl : l.length ≤ maxLen) : PCall Try.prog 150 [encL b l, I id] (.d (I (place l id))) := by
  refine pcallS (fn := Try.f150) [] [] mixed (bodyOf Try.f150) [.tmp 4] Try.func150 rfl rfl (by decide) 6 rfl (by kernel_rfl) ?_
  simp -implicitDefEqProofs [↓gd_tt, ↓gd_ff, ↓gd_tf, ↓gd_ft, bodyOf, Try.f150, stripC, stripL, stripM, onsOf, upto, hintOf, freeOf, List.replicate]
  refine indexat_mem b l id hl ?_
  simp -implicitDefEqProofs [↓gd_tt, ↓gd_ff, ↓gd_tf, ↓gd_ft]
theorem lives_spec (x : Le) : PCall Try.prog 149 [encLe x] (.d (.bool x.st)) := by
  refine pcallS (fn := Try.f149) [] [] mixed (bodyOf Try.f149) [.tmp 2] Try.func149 rfl rfl (by decide) 4 rfl (by kernel_rfl) ?_
  simp -implicitDefEqProofs [↓gd_tt, ↓gd_ff, ↓gd_tf, ↓gd_ft, bodyOf, Try.f149, stripC, stripL, stripM, onsOf, upto, hintOf, freeOf, List.replicate]
theorem indexst_spec (ls : List Le) (hl : ls.length ≤ maxLen) : FCall Try.prog 198 [.d (encLs b ls), .fn (.func 149) []] (.d (I (match ls.findIdx? (·.st) with | some i => (i : Int) | none => -1))) := by
  refine fcallS (fn := Try.f198) [] [] mixed (bodyOf Try.f198) [.tmp 4] Try.func198 rfl rfl (by decide) 17 rfl (by kernel_rfl) ?_
  simp -implicitDefEqProofs [↓gd_tt, ↓gd_ff, ↓gd_tf, ↓gd_ft, bodyOf, Try.f198, stripC, stripL, stripM, onsOf, upto, hintOf, freeOf, List.replicate]
  refine loopA mixed [false, false, false, false, true, true, false, false, true, true, true, true, true, true, true, true, true, true, true] (fun (i : Nat) => [(8, .d (I i))]) (fun (i : Nat) => []) (fun (i : Nat) => i ≤ ls.length ∧ ∀ j, j < i → ∀ h : j < ls.length, ls[j].st = false) (fun (i : Nat) => ls.length - i) (0) (⟨Nat.zero_le _, by simp⟩) (by simp) ?_
  rintro i hx
  obtain ⟨hi, hp⟩ := hx
  rcases Nat.lt_or_eq_of_le hi with h | h
  · simp -implicitDefEqProofs [↓gd_tt, ↓gd_ff, ↓gd_tf, ↓gd_ft, h]
    refine callK_pcall (lives_spec ls[i]) rfl rfl ?_
    simp -implicitDefEqProofs [↓gd_tt, ↓gd_ff, ↓gd_tf, ↓gd_ft, wrap1 hl h]
    refine ⟨fun e => ?_, fun e => ⟨⟨by omega, fun j hj hjl => ?_⟩, by omega⟩⟩
    · have : ls.findIdx? (·.st) = some i := List.findIdx?_eq_some_iff_getElem.2 ⟨h, e, fun j hj => by simp [hp j hj (by omega)]⟩
      rw [this]
    · rcases Nat.lt_or_eq_of_le (Nat.le_of_lt_succ hj) with k | rfl
      · exact hp j k hjl
      · exact e
  · simp -implicitDefEqProofs [↓gd_tt, ↓gd_ff, ↓gd_tf, ↓gd_ft, h]
    have : ls.findIdx? (·.st) = none := List.findIdx?_eq_none_iff.2 fun x hx => by
      obtain ⟨j, hj, rfl⟩ := List.getElem_of_mem hx
      exact hp j (by omega) hj
    rw [this]
end Go.Idl
