/- The statement VictimUses: what it computes. -/
import Derived.Test.YtdhifabhjlbjiaaXB
import Derived.Test.YtdhifabhjlbjiaaXE
import Derived.Test.YtdhifabhjlbjiaaQL
import Derived.Test.YtdhifabhjlbjiaaXT
set_option linter.all false
namespace Go.Idl
open Go.Proofs
set_option linter.unusedSimpArgs false
set_option linter.unusedVariables false
set_option maxRecDepth 20000
set_option maxHeartbeats 4000000
variable (b c : Bool)

def eL : List Q := [⟨0, -1, 1, 10, 10, 0, 0⟩, ⟨1, 0, 1, 10, 10, 0, 0⟩]
def eA : List Le := [⟨4, 1, 0, [0], 0, 0, 0, false⟩, ⟨7, 1, 0, [1, 2], 0, 0, 0, false⟩]
def eB : List Le := [⟨4, 1, 0, [0], 0, 0, 0, false⟩, ⟨7, 1, 0, [1], 0, 0, 0, false⟩]
theorem eA_ids : idsL eA = [1] := by
  have : (runA eA).1 = [(1, 3, 0)] := by decide
  unfold idsL; rw [this]; simp
theorem eB_ids : idsL eB = [1] := by
  have : (runA eB).1 = [(1, 2, 0)] := by decide
  unfold idsL; rw [this]; simp
theorem eA_uses : vusesV eA = .tup [.d (.sl false 3 [.agg [I 1, I 3, I 0]]), .d (I 0)] := by
  have h1 : vusesE eA = 0 := by decide
  have h2 : usesL eA = [⟨1, 3, 0⟩] := by unfold usesL; rw [eA_ids]; decide
  unfold vusesV; rw [if_pos h1, h2]; rfl
theorem eB_choose : vchooseV eL eB (10, 10) = .tup [.d (I 7), .d (I 0)] := by
  have hlv : liveL eB = eB := by rfl
  have hu : usesL eB = [⟨1, 2, 0⟩] := by unfold usesL; rw [eB_ids]; decide
  have hE : vsumsE eL eB = 0 := by
    unfold vsumsE
    rw [hu]
    decide
  have hr : runC eL (sumsL eL [⟨1, 2, 0⟩]) (10, 10) eB = (1, 7) := by decide
  have hg : good 10 10 = true := by decide
  unfold vchooseV
  rw [hlv, hu, hr, if_neg (by simp [hE]), if_neg (by simp [hg])]
  rfl
theorem awake8_spec : PCall Try.prog 66 [] (.d (.bool true)) := by
  refine pcallS (fn := Try.f66) [] [] mixed (bodyOf Try.f66) [.tmp 0] Try.func66 rfl rfl (by decide) 56 rfl (by kernel_rfl) ?_
  simp -implicitDefEqProofs [↓gd_tt, ↓gd_ff, ↓gd_tf, ↓gd_ft, bodyOf, Try.f66, stripC, stripL, stripM, onsOf, upto, hintOf, freeOf, List.replicate]
  refine callK_pcall (vuses_spec false eA (by decide) (by decide) (by decide)) (by simp [eA]) (by rw [eA_uses]; rfl) ?_
  rw [eA_uses]
  simp -implicitDefEqProofs [↓gd_tt, ↓gd_ff, ↓gd_tf, ↓gd_ft]
  refine callK_pcall (vchoose_spec false false eL eB (10, 10) (by decide) (by decide) (by decide) (by decide)) (by simp [eL, eB]) (by rw [eB_choose]; rfl) ?_
  rw [eB_choose]
  simp -implicitDefEqProofs [↓gd_tt, ↓gd_ff, ↓gd_tf, ↓gd_ft]
theorem eqU {a b : U} : (a = b) ↔ (a.q = b.q ∧ a.c = b.c ∧ a.m = b.m) := by
  cases a; cases b; simp
theorem usame_spec (l m : List U) (hl : l.length ≤ maxLen) : PCall Try.prog 69 [encUs b l, encUs c m] (.d (.bool (decide (l = m)))) := by
  refine pcallS (fn := Try.f69) [] [] mixed (bodyOf Try.f69) [.tmp 4] Try.func69 rfl rfl (by decide) 24 rfl (by kernel_rfl) ?_
  simp -implicitDefEqProofs [↓gd_tt, ↓gd_ff, ↓gd_tf, ↓gd_ft, bodyOf, Try.f69, stripC, stripL, stripM, onsOf, upto, hintOf, freeOf, List.replicate]
  refine ⟨fun h => ?_, fun h => ?_⟩
  · rintro rfl; exact h rfl
  have hlm : l.length = m.length := by omega
  refine loopA mixed [false, false, false, false, true, true, false, false, false, false, false, false, false, true, true, true, true, true, true, true, true, true, true, true, true, true] (fun (i : Nat) => [(13, .d (I i))]) (fun (i : Nat) => []) (fun (i : Nat) => i ≤ l.length ∧ l.take i = m.take i) (fun (i : Nat) => l.length - i) (0) (⟨Nat.zero_le _, rfl⟩) (by simp) ?_
  rintro i hx
  obtain ⟨hi, hp⟩ := hx
  rcases Nat.lt_or_eq_of_le hi with h | h
  · have h' : i < m.length := by omega
    have he : eqAt [I l[i].q, I l[i].c, I l[i].m] [I m[i].q, I m[i].c, I m[i].m] [(0, 0), (1, 0), (2, 0)] = some (decide (l[i] = m[i])) := by
      simp [eqAt, eqU]
    simp -implicitDefEqProofs [↓gd_tt, ↓gd_ff, ↓gd_tf, ↓gd_ft, h, h', wrap1 hl h, he]
    refine ⟨fun e => by rintro rfl; exact e rfl, fun e => ⟨⟨by omega, take_one h h' hp e⟩, by omega⟩⟩
  · simp -implicitDefEqProofs [↓gd_tt, ↓gd_ff, ↓gd_tf, ↓gd_ft, h]
    rw [h, List.take_length, hlm, List.take_length] at hp
    exact hp
theorem victimUses_spec (ls : List Le) (hls : ls.length ≤ maxLen) (hb : ls.length * 80 ≤ reachBytes) (hq : ∀ x ∈ ls, In64 x.q) : PCall Try.prog 19 [encLs false ls] (.d (.bool true)) := by
  refine pcallS (fn := Try.f19) [] [] mixed (bodyOf Try.f19) [.tmp 2] Try.func19 rfl rfl (by decide) 26 rfl (by kernel_rfl) ?_
  simp -implicitDefEqProofs [↓gd_tt, ↓gd_ff, ↓gd_tf, ↓gd_ft, bodyOf, Try.f19, stripC, stripL, stripM, onsOf, upto, hintOf, freeOf, List.replicate]
  refine callK_pcall awake8_spec rfl rfl ?_
  simp -implicitDefEqProofs [↓gd_tt, ↓gd_ff, ↓gd_tf, ↓gd_ft]
  by_cases hE : vusesE ls = 0
  · have hv : vusesV ls = .tup [.d (encUs false (usesL ls)), .d (I 0)] := by unfold vusesV; rw [if_pos hE]
    have hul := vuses_len hE
    refine callK_pcall (vuses_spec false ls hls hb hq) rfl (by rw [hv]; rfl) ?_
    rw [hv]
    simp -implicitDefEqProofs [↓gd_tt, ↓gd_ff, ↓gd_tf, ↓gd_ft]
    refine callK_pcall (refUses_spec false ls hls hb) rfl (by rw [hv]; rfl) ?_
    rw [hv]
    simp -implicitDefEqProofs [↓gd_tt, ↓gd_ff, ↓gd_tf, ↓gd_ft]
    refine callK_pcall (usame_spec false false (usesL ls) (usesL ls) (by omega)) rfl rfl ?_
    simp -implicitDefEqProofs [↓gd_tt, ↓gd_ff, ↓gd_tf, ↓gd_ft]
  · have hv : vusesV ls = .tup [.nil 3, .d (I (vusesE ls))] := by unfold vusesV; rw [if_neg hE]
    refine callK_pcall (vuses_spec false ls hls hb hq) rfl (by rw [hv]; rfl) ?_
    rw [hv]
    simp -implicitDefEqProofs [↓gd_tt, ↓gd_ff, ↓gd_tf, ↓gd_ft]
    refine callK_pcall (refUses_spec false ls hls hb) rfl (by rw [hv]; rfl) ?_
    rw [hv]
    simp -implicitDefEqProofs [↓gd_tt, ↓gd_ff, ↓gd_tf, ↓gd_ft]
    refine callK_pcall (usame_spec false false [] [] (by simp)) (by simp) rfl ?_
    simp -implicitDefEqProofs [↓gd_tt, ↓gd_ff, ↓gd_tf, ↓gd_ft]
theorem victimUses_row (ls : List Le) (hls : ls.length ≤ maxLen) (hb : ls.length * 80 ≤ reachBytes) (hw : ∀ x ∈ ls, x.ok) : PCall Try.prog 19 [encLs false ls] (.d (.bool true)) := victimUses_spec ls hls hb fun x hx => (hw x hx).q
end Go.Idl
