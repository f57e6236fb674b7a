/- The statement VictimSpares: what it computes. -/
import Derived.Test.YtdhifabhjlbjiaaXG
import Derived.Test.YtdhifabhjlbjiaaMVall
import Derived.Test.YtdhifabhjlbjiaaPZ
set_option linter.all false
namespace Go.Idl
open Go.Proofs
set_option linter.unusedSimpArgs false
set_option linter.unusedVariables false
set_option maxRecDepth 20000
set_option maxHeartbeats 4000000
variable (b c : Bool)

theorem without_spec (ls : List Le) (i : Nat) (h : i < ls.length) (hls : ls.length ≤ maxLen) (hb : ls.length * 80 ≤ reachBytes) : PCall Try.prog 74 [encLs b ls, I i] (.d (encLs false (dropAt ls i))) := by
  have hrb : reachBytes = 140737488351232 := rfl
  have hle : i ≤ ls.length := by omega
  have hle' : i + 1 ≤ ls.length := by omega
  have hb1 : min i ls.length * 80 ≤ 140737488355328 := by omega
  have hb2 : (min i ls.length + (ls.length - (i + 1))) * 80 ≤ 140737488355328 := by omega
  have hm : min i ls.length = i := by omega
  have hb3 : i * 80 ≤ 140737488355328 := by omega
  have hb4 : (i + (ls.length - (i + 1))) * 80 ≤ 140737488355328 := by omega
  have hw := wrap1 hls h
  refine pcallS (fn := Try.f74) [] [] mixed (bodyOf Try.f74) [.tmp 4] Try.func74 rfl rfl (by decide) 15 rfl (by kernel_rfl) ?_
  simp -implicitDefEqProofs [↓gd_tt, ↓gd_ff, ↓gd_tf, ↓gd_ft, bodyOf, Try.f74, stripC, stripL, stripM, onsOf, upto, hintOf, freeOf, List.replicate]
  have ht : (ls.map encLe).take ls.length = ls.map encLe := List.take_of_length_le (by simp)
  have hz : (0 : Int) ≤ (i : Int) + 1 := by omega
  have hz2 : (i : Int) + 1 ≤ (ls.length : Int) := by omega
  simp -implicitDefEqProofs [↓gd_tt, ↓gd_ff, ↓gd_tf, ↓gd_ft, h, hle, hle', hb1, hb2, hm, hb3, hb4, hw, dropAt, ht, hz, hz2]
theorem covers_spec (l : List Q) (ls : List Le) (id : Int) (hl : l.length ≤ maxLen) (hls : ls.length ≤ maxLen) (hb : ls.length * 80 ≤ reachBytes) (hq : ∀ x ∈ ls, In64 x.q) : PCall Try.prog 73 [encL b l, encLs c ls, I id] (.d (.bool (coversB l ls id))) := by
  have hat := at_spec b l id hl
  have hrg := placeF_range id l 0
  have hud : (usesD ls).length ≤ maxLen := by
    unfold usesD
    split
    · rename_i h; have := vuses_len h; omega
    · simp
  have hsm := qsums_spec b false l (usesD ls) hl hud
  have hpe : place l id = placeF id l 0 := rfl
  rw [← hpe] at hrg
  have hcB : coversB l ls id = (decide (sumsE l (usesD ls) = 0) && decide (0 ≤ place l id) && fits (l.getD (place l id).toNat q0).MC (l.getD (place l id).toNat q0).MM ((sumsL l (usesD ls)).getD (place l id).toNat (0, 0)).1 ((sumsL l (usesD ls)).getD (place l id).toNat (0, 0)).2) := rfl
  rw [hcB]
  have huv : vusesV ls = (if vusesE ls = 0 then .tup [.d (encUs false (usesD ls)), .d (I 0)] else .tup [.nil 3, .d (I (vusesE ls))]) := by
    unfold vusesV usesD
    split <;> rfl
  have hu0 : ¬ vusesE ls = 0 → usesD ls = [] := fun h => by unfold usesD; rw [if_neg h]
  generalize usesD ls = us at *
  generalize hpl : place l id = p at *
  have hsl : (sumsL l us).length = l.length := by simp [sumsL]
  refine pcallS (fn := Try.f73) [] [] mixed (bodyOf Try.f73) [.tmp 6] Try.func73 rfl rfl (by decide) 47 rfl (by kernel_rfl) ?_
  simp -implicitDefEqProofs [↓gd_tt, ↓gd_ff, ↓gd_tf, ↓gd_ft, bodyOf, Try.f73, stripC, stripL, stripM, onsOf, upto, hintOf, freeOf, List.replicate]
  by_cases hu : vusesE ls = 0
  case neg =>
    have hv2 : vusesV ls = .tup [.nil 3, .d (I (vusesE ls))] := by rw [huv, if_neg hu]
    refine callK_pcall (vuses_spec c ls hls hb hq) rfl (by rw [hv2]; rfl) ?_
    rw [hv2]
    simp -implicitDefEqProofs [↓gd_tt, ↓gd_ff, ↓gd_tf, ↓gd_ft, hu]
    have hue := hu0 hu
    by_cases hs : sumsE l us = 0
    case neg =>
      have hv3 : sumsV l us = .tup [.nil 2, .d (I (sumsE l us))] := by simp [sumsV, hs]
      refine callK_pcall hsm (by simp [hue]) (by rw [hv3]; rfl) ?_
      rw [hv3]
      simp -implicitDefEqProofs [↓gd_tt, ↓gd_ff, ↓gd_tf, ↓gd_ft, hs]
      refine callK_pcall hat rfl rfl ?_
      simp -implicitDefEqProofs [↓gd_tt, ↓gd_ff, ↓gd_tf, ↓gd_ft, hs]
    have hv3 : sumsV l us = .tup [.d (encVs false (sumsL l us)), .d (I 0)] := by simp [sumsV, hs]
    refine callK_pcall hsm (by simp [hue]) (by rw [hv3]; rfl) ?_
    rw [hv3]
    simp -implicitDefEqProofs [↓gd_tt, ↓gd_ff, ↓gd_tf, ↓gd_ft]
    refine callK_pcall hat rfl rfl ?_
    by_cases h0 : 0 ≤ p
    case neg => simp -implicitDefEqProofs [↓gd_tt, ↓gd_ff, ↓gd_tf, ↓gd_ft, h0, hs]
    obtain ⟨j, rfl⟩ : ∃ j : Nat, p = j := ⟨p.toNat, by omega⟩
    have hj : j < l.length := by have := hrg h0; omega
    have hjM : j < (sumsL l us).length := by omega
    have gl : l.getD j q0 = l[j] := by simp [hj]
    have gM : (sumsL l us).getD j (0, 0) = (sumsL l us)[j] := by simp [hjM]
    have hf := vfits_spec l[j].MC l[j].MM (sumsL l us)[j].1 (sumsL l us)[j].2
    simp only [Int.toNat_natCast, gl, gM]
    simp -implicitDefEqProofs [↓gd_tt, ↓gd_ff, ↓gd_tf, ↓gd_ft, h0, hs, hj, hjM]
    refine free_pcall hf rfl rfl ?_
    simp -implicitDefEqProofs [↓gd_tt, ↓gd_ff, ↓gd_tf, ↓gd_ft]
  have hv2 : vusesV ls = .tup [.d (encUs false us), .d (I 0)] := by rw [huv, if_pos hu]
  refine callK_pcall (vuses_spec c ls hls hb hq) rfl (by rw [hv2]; rfl) ?_
  rw [hv2]
  simp -implicitDefEqProofs [↓gd_tt, ↓gd_ff, ↓gd_tf, ↓gd_ft]
  have hue : True := trivial
  by_cases hs : sumsE l us = 0
  case neg =>
    have hv3 : sumsV l us = .tup [.nil 2, .d (I (sumsE l us))] := by simp [sumsV, hs]
    refine callK_pcall hsm (by simp [hue]) (by rw [hv3]; rfl) ?_
    rw [hv3]
    simp -implicitDefEqProofs [↓gd_tt, ↓gd_ff, ↓gd_tf, ↓gd_ft, hs]
    refine callK_pcall hat rfl rfl ?_
    simp -implicitDefEqProofs [↓gd_tt, ↓gd_ff, ↓gd_tf, ↓gd_ft, hs]
  have hv3 : sumsV l us = .tup [.d (encVs false (sumsL l us)), .d (I 0)] := by simp [sumsV, hs]
  refine callK_pcall hsm (by simp [hue]) (by rw [hv3]; rfl) ?_
  rw [hv3]
  simp -implicitDefEqProofs [↓gd_tt, ↓gd_ff, ↓gd_tf, ↓gd_ft]
  refine callK_pcall hat rfl rfl ?_
  by_cases h0 : 0 ≤ p
  case neg => simp -implicitDefEqProofs [↓gd_tt, ↓gd_ff, ↓gd_tf, ↓gd_ft, h0, hs]
  obtain ⟨j, rfl⟩ : ∃ j : Nat, p = j := ⟨p.toNat, by omega⟩
  have hj : j < l.length := by have := hrg h0; omega
  have hjM : j < (sumsL l us).length := by omega
  have gl : l.getD j q0 = l[j] := by simp [hj]
  have gM : (sumsL l us).getD j (0, 0) = (sumsL l us)[j] := by simp [hjM]
  have hf := vfits_spec l[j].MC l[j].MM (sumsL l us)[j].1 (sumsL l us)[j].2
  simp only [Int.toNat_natCast, gl, gM]
  simp -implicitDefEqProofs [↓gd_tt, ↓gd_ff, ↓gd_tf, ↓gd_ft, h0, hs, hj, hjM]
  refine free_pcall hf rfl rfl ?_
  simp -implicitDefEqProofs [↓gd_tt, ↓gd_ff, ↓gd_tf, ↓gd_ft]
/-- what the statement finds -/
def fnd (l : List Q) (A : List Le) (t e : Int) (i : Nat) : Bool := (A.take i).any fun x => decide (e = 0) && decide (x.t = t) && yl l (sumsL l (usesL A)) x
theorem fnd_succ {l : List Q} {A : List Le} {t e : Int} {i : Nat} (h : i < A.length) : fnd l A t e (i + 1) = (fnd l A t e i || (decide (e = 0) && decide (A[i].t = t) && yl l (sumsL l (usesL A)) A[i])) := by
  unfold fnd
  rw [List.take_add_one, List.getElem?_eq_getElem h, Option.toList_some, List.any_append]
  simp
theorem spares_plain {l : List Q} {ls : List Le} {t : Int × Int} :
    (vchE l ls t = 0 → vsumsE l (liveL ls) = 0 ∧ fnd l (liveL ls) (vchT l ls t) 0 (liveL ls).length = true) ∧
    (vchE l ls t ≠ 0 → vchT l ls t = 0) ∧
    (vchE l ls t = 8 → victimsB l ls t = true → vsumsE l (liveL ls) = 0 ∧ ∀ x ∈ liveL ls, yl l (sumsL l (usesL (liveL ls))) x = false) := by
  have key : vsumsE l ls = 0 → vsumsE l (liveL ls) = 0 := fun h => vsums_filter _ h
  refine ⟨fun h => ?_, fun h => ?_, fun h hv => ?_⟩
  · unfold vchE at h
    split at h
    · omega
    · rename_i h1
      split at h
      · omega
      · rename_i h2
        split at h
        · omega
        · rename_i h3
          have h1' : vsumsE l ls = 0 := Classical.byContradiction h1
          have hk := key h1'
          have hpl := lease_place hk
          obtain ⟨x, hx, hy, _, ht⟩ := (runC_none (l := l) (M := sumsL l (usesL (liveL ls))) (t := t) (liveL ls) fun x hx => by obtain ⟨j, hj, e, _⟩ := hpl x hx; exact ⟨j, hj, e⟩).2 (by omega)
          refine ⟨hk, ?_⟩
          unfold fnd vchT
          rw [if_neg h1, if_neg h2, if_neg h3, List.take_length, ← ht]
          exact List.any_eq_true.2 ⟨x, hx, by simp [hy]⟩
  · unfold vchE at h; unfold vchT
    split
    · rfl
    · split
      · rfl
      · split
        · rfl
        · rename_i h1 h2 h3
          rw [if_neg h1, if_neg h2, if_neg h3] at h
          exact absurd rfl h
  · obtain ⟨h1, h2⟩ := victimsB_iff.1 hv
    have hk := key h1
    have hpl := lease_place hk
    refine ⟨hk, (runC_none (l := l) (M := sumsL l (usesL (liveL ls))) (t := t) (liveL ls) fun x hx => by obtain ⟨j, hj, e, _⟩ := hpl x hx; exact ⟨j, hj, e⟩).1 ?_⟩
    unfold vchE at h
    rw [if_neg (by simp [h1]), if_neg (by simp [h2])] at h
    split at h
    · assumption
    · omega
theorem victimSpares_spec (l : List Q) (ls : List Le) (t : Int × Int) (hl : l.length ≤ maxLen) (hls : ls.length ≤ maxLen) (hb : ls.length * 80 ≤ reachBytes) (hq : ∀ x ∈ ls, In64 x.q) : PCall Try.prog 21 [encL false l, encLs false ls, encV t] (.d (.bool true)) := by
  have hvs := victims_spec false false l ls t hl hls hb hq
  have hch := vchoose_spec false false l ls t hl hls hb hq
  have hll := liveL_len ls
  have hlv := live8_spec false ls hls hb
  have hql : ∀ x ∈ liveL ls, In64 x.q := fun x hx => hq x (List.mem_filter.1 hx).1
  obtain ⟨p1, p2, p3⟩ := spares_plain (l := l) (ls := ls) (t := t)
  rw [vchooseV_eq] at hch
  generalize vchT l ls t = tk at *
  generalize vchE l ls t = er at *
  obtain ⟨x, y⟩ := t
  refine pcallS (fn := Try.f21) [] [(12, 8)] mixed (bodyOf Try.f21) [.tmp 6] Try.func21 rfl rfl (by decide) 75 rfl (by kernel_rfl) ?_
  simp -implicitDefEqProofs [↓gd_tt, ↓gd_ff, ↓gd_tf, ↓gd_ft, bodyOf, Try.f21, stripC, stripL, stripM, onsOf, upto, hintOf, freeOf, List.replicate]
  refine callK_pcall awake8_spec rfl rfl ?_
  by_cases h40 : ls.length ≤ 40
  case neg => simp -implicitDefEqProofs [↓gd_tt, ↓gd_ff, ↓gd_tf, ↓gd_ft, show (40 : Int) < (ls.length : Int) by omega]
  simp -implicitDefEqProofs [↓gd_tt, ↓gd_ff, ↓gd_tf, ↓gd_ft, show ¬ (40 : Int) < (ls.length : Int) by omega]
  refine callK_pcall hch rfl rfl ?_
  by_cases e0 : er = 0
  · subst e0
    obtain ⟨q1, q2⟩ := p1 rfl
    simp -implicitDefEqProofs [↓gd_tt, ↓gd_ff, ↓gd_tf, ↓gd_ft]
    refine callK_pcall hlv rfl rfl ?_
    generalize liveL ls = A at *
    simp -implicitDefEqProofs [↓gd_tt, ↓gd_ff, ↓gd_tf, ↓gd_ft]
    refine loopA mixed [false, false, false, false, false, false, true, false, false, false, true, true, true, true, false, false, false, false, false, false, false, false, false, false, false, false, false, false, false, false, false, false, false, false, false, false, false, false, true, true, true, true, true, true, true, true, true, true, true, true, true, true, true, true, true, true, true, true, true, true, true, true, true, true, true, true, true, true, true, true, true, true, true] (fun (i : Nat) => [(38, .d (I i)), (10, .d (.bool (fnd l A tk 0 i)))]) (fun (i : Nat) => [.var [.d (I x), .d (I y)]]) (fun (i : Nat) => i ≤ A.length) (fun (i : Nat) => A.length - i) (0) (Nat.zero_le _) (by simp [fnd]) ?_
    rintro i hx
    rcases Nat.lt_or_eq_of_le hx with h | h
    · have hsc := fnd_succ (l := l) (t := tk) (e := 0) h
      have hwo := without_spec false A i h (by omega) (by omega)
      have hdl := dropAt_len h
      have hco := covers_spec false false l (dropAt A i) A[i].q hl (by omega) (by omega) fun z hz => hql z ((dropAt_sub A i).subset hz)
      rw [covers_drop q1 h] at hco
      have hwi := wrap1 (show A.length ≤ maxLen by omega) h
      simp -implicitDefEqProofs [↓gd_tt, ↓gd_ff, ↓gd_tf, ↓gd_ft, h]
      refine free_pcall hwo rfl rfl ?_
      simp -implicitDefEqProofs [↓gd_tt, ↓gd_ff, ↓gd_tf, ↓gd_ft, h]
      refine free_pcall hco rfl rfl ?_
      by_cases ht : A[i].t = tk
      · cases hy : yl l (sumsL l (usesL A)) A[i] with
        | true =>
          rw [hy] at hsc
          simp -implicitDefEqProofs [↓gd_tt, ↓gd_ff, ↓gd_tf, ↓gd_ft, h, ht, hwi]
          exact ⟨i + 1, by omega, by omega, by rw [hsc]; simp [ht], rfl⟩
        | false =>
          rw [hy] at hsc
          simp -implicitDefEqProofs [↓gd_tt, ↓gd_ff, ↓gd_tf, ↓gd_ft, h, ht, hwi]
          exact ⟨i + 1, by omega, by omega, by rw [hsc]; simp, rfl⟩
      · simp -implicitDefEqProofs [↓gd_tt, ↓gd_ff, ↓gd_tf, ↓gd_ft, h, ht, hwi]
        exact ⟨i + 1, by omega, by omega, by rw [hsc]; simp [ht], rfl⟩
    · subst h
      simp -implicitDefEqProofs [↓gd_tt, ↓gd_ff, ↓gd_tf, ↓gd_ft]
      exact q2
  by_cases e8 : er = 8
  · subst e8
    simp -implicitDefEqProofs [↓gd_tt, ↓gd_ff, ↓gd_tf, ↓gd_ft]
    refine callK_pcall hlv rfl rfl ?_
    have p3 := p3 rfl
    generalize liveL ls = A at *
    simp -implicitDefEqProofs [↓gd_tt, ↓gd_ff, ↓gd_tf, ↓gd_ft]
    refine loopA mixed [false, false, false, false, false, false, true, false, false, false, true, true, true, true, false, false, false, false, false, false, false, false, false, false, false, false, false, false, false, false, false, false, false, false, false, false, false, false, true, true, true, true, true, true, true, true, true, true, true, true, true, true, true, true, true, true, true, true, true, true, true, true, true, true, true, true, true, true, true, true, true, true, true] (fun (i : Nat) => [(38, .d (I i)), (10, .d (.bool false))]) (fun (i : Nat) => [.var [.d (I x), .d (I y)]]) (fun (i : Nat) => i ≤ A.length) (fun (i : Nat) => A.length - i) (0) (Nat.zero_le _) (by simp) ?_
    rintro i hx
    rcases Nat.lt_or_eq_of_le hx with h | h
    · have hwo := without_spec false A i h (by omega) (by omega)
      have hdl := dropAt_len h
      have hco := covers_spec false false l (dropAt A i) A[i].q hl (by omega) (by omega) fun z hz => hql z ((dropAt_sub A i).subset hz)
      have hwi := wrap1 (show A.length ≤ maxLen by omega) h
      have hno : victimsB l ls (x, y) = true → coversB l (dropAt A i) A[i].q = false := fun hv => by
        obtain ⟨k1, k2⟩ := p3 hv
        rw [covers_drop k1 h]; exact k2 _ (List.getElem_mem h)
      simp -implicitDefEqProofs [↓gd_tt, ↓gd_ff, ↓gd_tf, ↓gd_ft, h]
      refine free_pcall hwo rfl rfl ?_
      simp -implicitDefEqProofs [↓gd_tt, ↓gd_ff, ↓gd_tf, ↓gd_ft, h]
      refine free_pcall hco rfl rfl ?_
      cases hcb : coversB l (dropAt A i) A[i].q with
      | false =>
        simp -implicitDefEqProofs [↓gd_tt, ↓gd_ff, ↓gd_tf, ↓gd_ft, h, hwi]
        exact ⟨by omega, by omega⟩
      | true =>
        have hvf : victimsB l ls (x, y) = false := by
          cases hv : victimsB l ls (x, y) with
          | false => rfl
          | true => rw [hno hv] at hcb; cases hcb
        rw [hvf] at hvs
        simp -implicitDefEqProofs [↓gd_tt, ↓gd_ff, ↓gd_tf, ↓gd_ft, h, hwi]
        refine callK_pcall hvs rfl rfl ?_
        simp -implicitDefEqProofs [↓gd_tt, ↓gd_ff, ↓gd_tf, ↓gd_ft, h, hwi]
        exact ⟨by omega, by omega⟩
    · subst h
      simp -implicitDefEqProofs [↓gd_tt, ↓gd_ff, ↓gd_tf, ↓gd_ft]
  · have := p2 e0
    subst this
    simp -implicitDefEqProofs [↓gd_tt, ↓gd_ff, ↓gd_tf, ↓gd_ft, e0, e8]
theorem victimSpares_row (l : List Q) (ls : List Le) (t : Int × Int) (hl : l.length ≤ maxLen) (hlb : l.length * 56 ≤ reachBytes) (hls : ls.length ≤ maxLen) (hb : ls.length * 80 ≤ reachBytes) (hw : ∀ x ∈ ls, x.ok) : PCall Try.prog 21 [encL false l, encLs false ls, encV t] (.d (.bool true)) := victimSpares_spec l ls t hl hls hb fun x hx => (hw x hx).q
end Go.Idl
