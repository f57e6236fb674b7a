/- The statement VictimStops: what it computes. -/
import Derived.Test.YtdhifabhjlbjiaaXF
set_option linter.all false
namespace Go.Idl
open Go.Proofs
set_option linter.unusedSimpArgs false
set_option linter.unusedVariables false
set_option maxRecDepth 20000
set_option maxHeartbeats 4000000
variable (b c : Bool)

theorem live8_spec (ls : List Le) (hls : ls.length ≤ maxLen) (hb : ls.length * 80 ≤ reachBytes) : PCall Try.prog 72 [encLs b ls] (.d (encLs false (liveL ls))) := by
  have hrb : reachBytes = 140737488351232 := rfl
  refine pcallS (fn := Try.f72) [] [] mixed (bodyOf Try.f72) [.tmp 2] Try.func72 rfl rfl (by decide) 20 rfl (by kernel_rfl) ?_
  simp -implicitDefEqProofs [↓gd_tt, ↓gd_ff, ↓gd_tf, ↓gd_ft, bodyOf, Try.f72, stripC, stripL, stripM, onsOf, upto, hintOf, freeOf, List.replicate]
  refine loopA mixed [false, false, false, true, false, true, false, false, true, true, true, true, true, true, true, true, true, true, true, true] (fun (i : Nat) => [(8, .d (I i)), (3, .own 8 ((liveL (ls.take i)).map encLe))]) (fun (i : Nat) => []) (fun (i : Nat) => i ≤ ls.length) (fun (i : Nat) => ls.length - i) (0) (Nat.zero_le _) (by simp [liveL]) ?_
  rintro i hx
  rcases Nat.lt_or_eq_of_le hx with h | h
  · have hst := liveL_take h
    have hln := liveL_len (ls.take i)
    simp only [List.length_take] at hln
    have hb8 : ((liveL (ls.take i)).length + 1) * 80 ≤ 140737488355328 := by omega
    have hwi := wrap1 hls h
    cases hs : ls[i].st with
    | true =>
      rw [if_pos hs, List.append_nil] at hst
      simp -implicitDefEqProofs [↓gd_tt, ↓gd_ff, ↓gd_tf, ↓gd_ft, h, hs, hwi]
      exact ⟨i + 1, by omega, by omega, by rw [hst], rfl⟩
    | false =>
      rw [if_neg (by rw [hs]; decide)] at hst
      simp -implicitDefEqProofs [↓gd_tt, ↓gd_ff, ↓gd_tf, ↓gd_ft, h, hs, hwi, hb8]
      refine ⟨i + 1, by omega, by omega, ?_, rfl⟩
      rw [hst, List.map_append]; simp [hs]
  · have htk : ls.take i = ls := by rw [h]; exact List.take_length
    simp -implicitDefEqProofs [↓gd_tt, ↓gd_ff, ↓gd_tf, ↓gd_ft, h, htk]
def victimsB (l : List Q) (ls : List Le) (t : Int × Int) : Bool := decide (vusesE ls = 0) && decide (sumsE l (usesL ls) = 0) && good t.1 t.2
theorem victims_spec (l : List Q) (ls : List Le) (t : Int × Int) (hl : l.length ≤ maxLen) (hls : ls.length ≤ maxLen) (hb : ls.length * 80 ≤ reachBytes) (hq : ∀ x ∈ ls, In64 x.q) : PCall Try.prog 75 [encL b l, encLs c ls, encV t] (.d (.bool (victimsB l ls t))) := by
  obtain ⟨x, y⟩ := t
  refine pcallS (fn := Try.f75) [] [] mixed (bodyOf Try.f75) [.tmp 6] Try.func75 rfl rfl (by decide) 30 rfl (by kernel_rfl) ?_
  simp -implicitDefEqProofs [↓gd_tt, ↓gd_ff, ↓gd_tf, ↓gd_ft, bodyOf, Try.f75, stripC, stripL, stripM, onsOf, upto, hintOf, freeOf, List.replicate]
  by_cases hu : vusesE ls = 0
  case neg =>
    have hv2 : vusesV ls = .tup [.nil 3, .d (I (vusesE ls))] := by unfold vusesV; rw [if_neg hu]
    refine callK_pcall (vuses_spec c ls hls hb hq) rfl (by rw [hv2]; rfl) ?_
    rw [hv2]
    simp -implicitDefEqProofs [↓gd_tt, ↓gd_ff, ↓gd_tf, ↓gd_ft, hu]
    by_cases hs : sumsE l [] = 0
    · have hv3 : sumsV l [] = .tup [.d (encVs false (sumsL l [])), .d (I 0)] := by simp [sumsV, hs]
      refine callK_pcall (qsums_spec b false l [] hl (by simp)) (by simp) (by rw [hv3]; rfl) ?_
      rw [hv3]
      simp -implicitDefEqProofs [↓gd_tt, ↓gd_ff, ↓gd_tf, ↓gd_ft, victimsB, hu]
    · have hv3 : sumsV l [] = .tup [.nil 2, .d (I (sumsE l []))] := by simp [sumsV, hs]
      refine callK_pcall (qsums_spec b false l [] hl (by simp)) (by simp) (by rw [hv3]; rfl) ?_
      rw [hv3]
      simp -implicitDefEqProofs [↓gd_tt, ↓gd_ff, ↓gd_tf, ↓gd_ft, victimsB, hu]
  have hv2 : vusesV ls = .tup [.d (encUs false (usesL ls)), .d (I 0)] := by unfold vusesV; rw [if_pos hu]
  have hul := vuses_len hu
  refine callK_pcall (vuses_spec c ls hls hb hq) rfl (by rw [hv2]; rfl) ?_
  rw [hv2]
  simp -implicitDefEqProofs [↓gd_tt, ↓gd_ff, ↓gd_tf, ↓gd_ft]
  by_cases hs : sumsE l (usesL ls) = 0
  · have hv3 : sumsV l (usesL ls) = .tup [.d (encVs false (sumsL l (usesL ls))), .d (I 0)] := by simp [sumsV, hs]
    refine callK_pcall (qsums_spec b false l (usesL ls) hl (by omega)) rfl (by rw [hv3]; rfl) ?_
    rw [hv3]
    simp -implicitDefEqProofs [↓gd_tt, ↓gd_ff, ↓gd_tf, ↓gd_ft]
    refine callK_pcall (vcheck_spec x y) rfl rfl ?_
    cases hg : good x y <;> simp -implicitDefEqProofs [↓gd_tt, ↓gd_ff, ↓gd_tf, ↓gd_ft, victimsB, hu, hs, hg]
  · have hv3 : sumsV l (usesL ls) = .tup [.nil 2, .d (I (sumsE l (usesL ls)))] := by simp [sumsV, hs]
    refine callK_pcall (qsums_spec b false l (usesL ls) hl (by omega)) rfl (by rw [hv3]; rfl) ?_
    rw [hv3]
    simp -implicitDefEqProofs [↓gd_tt, ↓gd_ff, ↓gd_tf, ↓gd_ft, victimsB, hu, hs]
theorem victimsB_iff {l : List Q} {ls : List Le} {t : Int × Int} : victimsB l ls t = true ↔ vsumsE l ls = 0 ∧ good t.1 t.2 = true := by
  rw [vsums_zero]
  unfold victimsB
  simp only [Bool.and_eq_true, decide_eq_true_eq]
  constructor
  · rintro ⟨⟨h1, h2⟩, h3⟩
    exact ⟨⟨(sumsE_zero.1 h2).1, h1, h2⟩, h3⟩
  · rintro ⟨⟨_, h1, h2⟩, h3⟩
    exact ⟨⟨h1, h2⟩, h3⟩
theorem liveL_live (ls : List Le) : liveL (liveL ls) = liveL ls := by
  unfold liveL; rw [List.filter_filter]; simp
theorem vchoose_live {l : List Q} {ls : List Le} {t : Int × Int} (h : victimsB l ls t = true) : vchooseV l (liveL ls) t = vchooseV l ls t := by
  obtain ⟨h1, h2⟩ := victimsB_iff.1 h
  have h3 : vsumsE l (liveL ls) = 0 := vsums_filter _ h1
  unfold vchooseV
  rw [liveL_live, h1, h3]
/-- the task and the number that Choose answers -/
def vchT (l : List Q) (ls : List Le) (t : Int × Int) : Int := if vsumsE l ls ≠ 0 then 0 else if good t.1 t.2 = false then 0 else if (runC l (sumsL l (usesL (liveL ls))) t (liveL ls)).1 < 0 then 0 else (runC l (sumsL l (usesL (liveL ls))) t (liveL ls)).2
def vchE (l : List Q) (ls : List Le) (t : Int × Int) : Int := if vsumsE l ls ≠ 0 then vsumsE l ls else if good t.1 t.2 = false then 1 else if (runC l (sumsL l (usesL (liveL ls))) t (liveL ls)).1 < 0 then 8 else 0
theorem vchooseV_eq (l : List Q) (ls : List Le) (t : Int × Int) : vchooseV l ls t = .tup [.d (I (vchT l ls t)), .d (I (vchE l ls t))] := by
  unfold vchooseV vchT vchE
  split
  · rfl
  · split
    · rfl
    · split <;> rfl
theorem victimStops_spec (l : List Q) (ls : List Le) (t : Int × Int) (hl : l.length ≤ maxLen) (hls : ls.length ≤ maxLen) (hb : ls.length * 80 ≤ reachBytes) (hq : ∀ x ∈ ls, In64 x.q) : PCall Try.prog 22 [encL false l, encLs false ls, encV t] (.d (.bool true)) := by
  have hvs := victims_spec false false l ls t hl hls hb hq
  have hch := vchoose_spec false false l ls t hl hls hb hq
  have hll := liveL_len ls
  have hql : ∀ x ∈ liveL ls, In64 x.q := fun x hx => hq x (List.mem_filter.1 hx).1
  have hch2 := vchoose_spec false false l (liveL ls) t hl (by omega) (by omega) hql
  have hlv := vchoose_live (l := l) (ls := ls) (t := t)
  rw [vchooseV_eq] at hch
  obtain ⟨x, y⟩ := t
  refine pcallS (fn := Try.f22) [] [] mixed (bodyOf Try.f22) [.tmp 6] Try.func22 rfl rfl (by decide) 49 rfl (by kernel_rfl) ?_
  simp -implicitDefEqProofs [↓gd_tt, ↓gd_ff, ↓gd_tf, ↓gd_ft, bodyOf, Try.f22, stripC, stripL, stripM, onsOf, upto, hintOf, freeOf, List.replicate]
  refine callK_pcall awake8_spec rfl rfl ?_
  simp -implicitDefEqProofs [↓gd_tt, ↓gd_ff, ↓gd_tf, ↓gd_ft]
  by_cases hu : vusesE ls = 0
  case neg =>
    have hv2 : vusesV ls = .tup [.nil 3, .d (I (vusesE ls))] := by unfold vusesV; rw [if_neg hu]
    refine callK_pcall (vuses_spec false ls hls hb hq) rfl (by rw [hv2]; rfl) ?_
    rw [hv2]
    simp -implicitDefEqProofs [↓gd_tt, ↓gd_ff, ↓gd_tf, ↓gd_ft, hu]
  have hv2 : vusesV ls = .tup [.d (encUs false (usesL ls)), .d (I 0)] := by unfold vusesV; rw [if_pos hu]
  refine callK_pcall (vuses_spec false ls hls hb hq) rfl (by rw [hv2]; rfl) ?_
  rw [hv2]
  simp -implicitDefEqProofs [↓gd_tt, ↓gd_ff, ↓gd_tf, ↓gd_ft]
  refine callK_pcall hvs rfl rfl ?_
  cases hvb : victimsB l ls (x, y) with
  | false => simp -implicitDefEqProofs [↓gd_tt, ↓gd_ff, ↓gd_tf, ↓gd_ft]
  | true =>
    rw [hlv hvb, vchooseV_eq] at hch2
    simp -implicitDefEqProofs [↓gd_tt, ↓gd_ff, ↓gd_tf, ↓gd_ft]
    refine callK_pcall hch rfl rfl ?_
    simp -implicitDefEqProofs [↓gd_tt, ↓gd_ff, ↓gd_tf, ↓gd_ft]
    refine free_pcall (live8_spec false ls hls hb) rfl rfl ?_
    simp -implicitDefEqProofs [↓gd_tt, ↓gd_ff, ↓gd_tf, ↓gd_ft]
    refine free_pcall hch2 rfl rfl ?_
    simp -implicitDefEqProofs [↓gd_tt, ↓gd_ff, ↓gd_tf, ↓gd_ft]
theorem victimStops_row (l : List Q) (ls : List Le) (t : Int × Int) (hl : l.length ≤ maxLen) (hlb : l.length * 56 ≤ reachBytes) (hls : ls.length ≤ maxLen) (hb : ls.length * 80 ≤ reachBytes) (hw : ∀ x ∈ ls, x.ok) : PCall Try.prog 22 [encL false l, encLs false ls, encV t] (.d (.bool true)) := victimStops_spec l ls t hl hls hb fun x hx => (hw x hx).q
end Go.Idl
