/- The statement DrfLeast: what it computes. -/
import Derived.Test.YtdhifabhjlbjiaaPZ
import Derived.Test.YtdhifabhjlbjiaaMD6
import Derived.Test.YtdhifabhjlbjiaaQJ
set_option linter.all false
namespace Go.Idl
open Go.Proofs
set_option linter.unusedSimpArgs false
set_option linter.unusedVariables false
set_option maxRecDepth 8000
set_option maxHeartbeats 1000000

theorem drfLeast_spec (l : List Q) (uses : List U) (want : List Int) (t : Int × Int) (hl : l.length ≤ maxLen) (hr : l.length * 56 ≤ reachBytes) (hu : uses.length ≤ maxLen) (hur : uses.length * 24 ≤ reachBytes) (hw : want.length ≤ maxLen) (hw2 : want.length * 8 ≤ reachBytes) : PCall Try.prog 18 [encL false l, encUs false uses, encI false want, encV t] (.d (.bool true)) := by
  obtain ⟨x, y⟩ := t
  refine pcallS (fn := Try.f18) [] [] mixed (bodyOf Try.f18) [.tmp 8] Try.func18 rfl rfl (by decide) 143 rfl (by kernel_rfl) ?_
  simp -implicitDefEqProofs [↓gd_tt, ↓gd_ff, ↓gd_tf, ↓gd_ft, bodyOf, Try.f18, stripC, stripL, stripM, onsOf, upto, hintOf, freeOf, List.replicate]
  refine callK_pcall awake6_spec rfl rfl ?_
  simp -implicitDefEqProofs [↓gd_tt, ↓gd_ff, ↓gd_tf, ↓gd_ft]
  by_cases hE : chooseE l uses want (x, y) = 0
  case neg =>
    have hcv : chooseV l uses want (x, y) = .tup [.d (I 0), .d (I (chooseE l uses want (x, y)))] := by unfold chooseV; rw [if_neg hE]
    refine callK_pcall (choose_spec false false false l uses want (x, y) hl hu hw) rfl (by rw [hcv]; rfl) ?_
    rw [hcv]
    simp -implicitDefEqProofs [↓gd_tt, ↓gd_ff, ↓gd_tf, ↓gd_ft, hE]
  have hs : sumsE l uses = 0 := by
    rcases Decidable.em (sumsE l uses = 0) with h | h
    · exact h
    · simp [chooseE, h] at hE
  have hM : marksE l want x y = 0 := by simpa [chooseE, hs] using hE
  obtain ⟨hgd, hR, hne, hWz⟩ := marks_zero.1 hM
  obtain ⟨hh, hlf⟩ := wants_zero.1 hWz
  obtain ⟨hc, hu0, ho⟩ := sumsE_zero.1 hs
  have hf := check_form hc
  have hrs := check_rises hc
  have h64 := check_len hc
  have h0 := form_pos hf
  obtain ⟨hz, _, hway⟩ := pick_way (sums := sumsL l uses) (cnt := cnts l want) (t := (x, y)) hf l.length 0 h0 (by omega)
  have hbm := pickAt_in (sums := sumsL l uses) (t := (x, y)) hf hne hh
  have hbe : pickAt l (sumsL l uses) (x, y) (cnts l want) = l[pickF l (sumsL l uses) (cnts l want) (x, y) l.length 0].Id := by
    unfold pickAt pickN; simp [hz]
  have hcv : chooseV l uses want (x, y) = .tup [.d (I (pickAt l (sumsL l uses) (x, y) (cnts l want))), .d (I 0)] := by unfold chooseV; rw [if_pos hE]; rfl
  rw [← hbe] at hway
  generalize pickAt l (sumsL l uses) (x, y) (cnts l want) = bb at *
  have hhb := hh bb hbm
  have hthere : there l bb = 0 := there_zero.2 ⟨hc, hhb⟩
  have eP : pathV l bb = .tup [.d (encI false (path l bb)), .d (I 0)] := by simp [pathV, hthere]
  have hv : sumsV l uses = .tup [.d (encVs false (sumsL l uses)), .d (I 0)] := by simp [sumsV, hs]
  have n3 := path_len l bb
  obtain ⟨r, e1, e2⟩ := path_head hf hhb
  have hpn : path l bb ≠ [] := by rw [e1]; simp
  have hpp : 0 < (path l bb).length := by rw [e1]; simp
  have hml := maxLen_i64
  have hpl : (path l bb).length ≤ maxLen := max64 (by omega)
  refine callK_pcall (choose_spec false false false l uses want (x, y) hl hu hw) rfl (by rw [hcv]; rfl) ?_
  rw [hcv]
  simp -implicitDefEqProofs [↓gd_tt, ↓gd_ff, ↓gd_tf, ↓gd_ft]
  refine callK_pcall (qpath_spec false l bb hl) rfl (by rw [eP]; rfl) ?_
  rw [eP]
  simp -implicitDefEqProofs [↓gd_tt, ↓gd_ff, ↓gd_tf, ↓gd_ft]
  refine callK_pcall (qsums_spec false false l uses hl hu) rfl (by rw [hv]; rfl) ?_
  rw [hv]
  simp -implicitDefEqProofs [↓gd_tt, ↓gd_ff, ↓gd_tf, ↓gd_ft]
  refine callK_pcall (nhas_spec false want bb hw) rfl rfl ?_
  simp -implicitDefEqProofs [↓gd_tt, ↓gd_ff, ↓gd_tf, ↓gd_ft, hbm, hpn]
  refine loopA mixed [false, false, false, false, false, false, false, false, true, false, false, false, false, false, false, true, true, true, true, true, true, false, false, false, false, false, false, false, false, false, false, false, false, false, false, false, false, false, false, false, false, false, false, false, false, false, false, false, false, false, false, false, false, false, false, false, false, false, false, false, false, false, true, true, true, true, true, true, true, true, true, true, true, true, true, true, true, true, true, true, true, true, true, true, true, true, true, true, true, true, true, true, true, true, true, true, true, true, true, true, true, true, true, true, true, true, true, true, true, true, true, true, true, true, true, true, true, true, true, true, true, true, true, true, true, true, true, true, true, true, true, true, true, true, true, true, true, true, true, true, true, true, true, true, true, true, true] (fun (i : Nat) => [(15, .d (I i))]) (fun (i : Nat) => [.var [.d (I x), .d (I y)]]) (fun (i : Nat) => i < (path l bb).length) (fun (i : Nat) => (path l bb).length - i) (0) (hpp) (by simp) ?_
  rintro i hx
  have hwi : IntKind.i64.wrap ((i : Int) + 1) = ((i + 1 : Nat) : Int) := wrap1 hpl hx
  have hul : (path l bb).length = (up l bb).length := by simp [path]
  by_cases h : i + 1 < (path l bb).length
  case neg =>
    have hI : ¬ ((i : Int) + 1 < ((path l bb).length : Int)) := by omega
    simp -implicitDefEqProofs [↓gd_tt, ↓gd_ff, ↓gd_tf, ↓gd_ft, hwi, h, hI]
  obtain ⟨s, hs1, hs2⟩ : ∃ s, ∃ h : s < l.length, l[s].Id = (path l bb)[i] := ⟨_, path_idx hf bb hx (by omega)⟩
  obtain ⟨a, ha1, ha2⟩ : ∃ a, ∃ h' : a < l.length, l[a].Id = (path l bb)[i + 1] := ⟨_, path_idx hf bb h (by omega)⟩
  have hI : ((i : Int) + 1 < ((path l bb).length : Int)) := by omega
  have hi0 : 0 ≤ (i : Int) + 1 := by omega
  have hiN : ((i : Int) + 1).toNat = i + 1 := by omega
  have hi := hx
  obtain ⟨pa, epa⟩ : ∃ p, p = (path l bb)[i] := ⟨_, rfl⟩
  obtain ⟨pb, epb⟩ : ∃ p, p = (path l bb)[i + 1] := ⟨_, rfl⟩
  have ga : (path l bb)[i]? = some pa := by rw [List.getElem?_eq_getElem hi, epa]
  have gb : (path l bb)[i + 1]? = some pb := by rw [List.getElem?_eq_getElem h, epb]
  rw [← epa] at hs2
  rw [← epb] at ha2
  have hpar : l[s].Par = l[a].Id := by
    have hson := path_son hf bb (i := i) h
    unfold sonIds at hson
    obtain ⟨q, hq, eq⟩ := List.mem_map.1 hson
    obtain ⟨hq1, hq2⟩ := List.mem_filter.1 hq
    obtain ⟨s', hs', rfl⟩ := List.getElem_of_mem hq1
    have : s' = s := rises_inj hrs hs' hs1 (by rw [eq, hs2, epa])
    subst this
    have : l[s'].Par = (path l bb)[i + 1] := by simpa using hq2
    rw [this, ha2, epb]
  have hbest := hway s a hs1 ha1 (Nat.zero_le _) (by rw [hs2, epa]; exact List.getElem_mem _) hpar
  have hpl2 : place l pa = (s : Int) := by
    rw [← hs2]
    have := (place_pos hrs (has_at hs1)).1
    rw [this, pos_at hrs hs1]
  simp -implicitDefEqProofs [↓gd_tt, ↓gd_ff, ↓gd_tf, ↓gd_ft, hwi, h, hI, hx, ← epa]
  refine callK_pcall (at_spec false l pa hl) rfl rfl ?_
  rw [hpl2]
  simp -implicitDefEqProofs [↓gd_tt, ↓gd_ff, ↓gd_tf, ↓gd_ft]
  refine loopA mixed [false, false, false, false, false, false, false, false, true, false, false, false, false, false, false, false, false, true, true, true, true, false, false, false, false, false, false, false, false, false, false, false, false, false, false, false, false, false, false, false, false, false, false, false, false, false, false, false, false, false, false, false, false, false, false, false, false, false, false, false, false, false, false, false, false, false, false, false, false, false, false, false, false, false, false, false, false, true, true, true, true, true, true, true, true, true, true, true, true, true, true, true, true, true, true, true, true, true, true, true, true, true, true, true, true, true, true, true, true, true, true, true, true, true, true, true, true, true, true, true, true, true, true, true, true, true, true, true, true, true, true, true, true, true, true, true, true, true, true, true, true, true, true, true, true, true, true] (fun (k : Nat) => [(77, .d (I k))]) (fun (k : Nat) => [.var [.d (I x), .d (I y)]]) (fun (k : Nat) => k ≤ l.length) (fun (k : Nat) => l.length - k) (0) (Nat.zero_le _) (by simp) ?_
  rintro k hx
  rcases Nat.lt_or_eq_of_le hx with hk | hk
  case inr =>
    simp -implicitDefEqProofs [↓gd_tt, ↓gd_ff, ↓gd_tf, ↓gd_ft, hk, hwi]
    exact ⟨h, by omega⟩
  by_cases c1 : l[k].Par = pb
  case neg =>
    simp -implicitDefEqProofs [↓gd_tt, ↓gd_ff, ↓gd_tf, ↓gd_ft, hk, gb, ← epb, hI, hi0, hiN, c1, hwi, wrap1 hl hk]
    omega
  by_cases c2 : l[k].Id = pa
  case pos =>
    simp -implicitDefEqProofs [↓gd_tt, ↓gd_ff, ↓gd_tf, ↓gd_ft, hk, hi, gb, ga, ← epa, ← epb, hI, hi0, hiN, c1, c2, hwi, wrap1 hl hk]
    omega
  simp -implicitDefEqProofs [↓gd_tt, ↓gd_ff, ↓gd_tf, ↓gd_ft, hk, hi, gb, ga, ← epa, ← epb, hI, hi0, hiN, c1, c2, hwi, wrap1 hl hk]
  refine free_pcall (wished_spec false false l l[k].Id want hc (has_at hk) hw) rfl rfl ?_
  cases hwd : wishedB l l[k].Id want with
  | false =>
    simp -implicitDefEqProofs [↓gd_tt, ↓gd_ff, ↓gd_tf, ↓gd_ft, hk, hi, gb, ga, ← epa, ← epb, hI, hi0, hiN, c1, c2, hwi, wrap1 hl hk]
    omega
  | true =>
    have hcnt : cntI l want l[k].Id ≠ 0 := by
      unfold wishedB at hwd
      obtain ⟨w, hwm, hw3⟩ := List.any_eq_true.1 hwd
      exact cntI_pos.2 ⟨w, hwm, (below_mem (hh w hwm)).1 (by simpa using hw3)⟩
    obtain ⟨b1, b2⟩ := best_least hc ho hgd ha1 hs1 hk hbest (by rw [c1, ha2]) hcnt
    have g1 : (sumsL l uses)[k]? = some (tot l uses l[k].Id) := by simp [sumsL, hk]
    have g2 : (sumsL l uses)[s]? = some (tot l uses l[s].Id) := by simp [sumsL, hs1]
    have g3 : k < (sumsL l uses).length := by simpa [sumsL] using hk
    have g4 : s < (sumsL l uses).length := by simpa [sumsL] using hs1
    simp -implicitDefEqProofs [↓gd_tt, ↓gd_ff, ↓gd_tf, ↓gd_ft, hk, hi, gb, ga, ← epa, ← epb, hI, hi0, hiN, c1, c2, hwi, wrap1 hl hk, g1, g2, g3, g4, hs1]
    have hls := less_spec (tot l uses l[k].Id) (tot l uses l[s].Id) (x, y) l[k].Wt l[s].Wt (tot_good ho hk) (tot_good ho hs1) hgd (check_wt hc hk) (check_wt hc hs1)
    have g5 : (sumsL l uses)[k] = tot l uses l[k].Id := by simp [sumsL]
    have g6 : (sumsL l uses)[s] = tot l uses l[s].Id := by simp [sumsL]
    refine free_pcall hls (by simp [g5, g6]) rfl ?_
    have hlt : ordZ (tot l uses l[k].Id) l[k].Wt (tot l uses l[s].Id) l[s].Wt (x, y) = 0 → ¬ l[k].Id < pa := fun e hlt => by
      have h1 := b2 e
      rcases Nat.lt_or_eq_of_le h1 with h2 | h2
      · have := rises_lt hrs hs1 hk h2
        rw [hs2] at this; omega
      · subst h2; exact c2 hs2
    generalize ordZ (tot l uses l[k].Id) l[k].Wt (tot l uses l[s].Id) l[s].Wt (x, y) = o at *
    by_cases o0 : o = 0
    · have hlt := hlt o0
      simp -implicitDefEqProofs [↓gd_tt, ↓gd_ff, ↓gd_tf, ↓gd_ft, hk, hi, gb, ga, ← epa, ← epb, hI, hi0, hiN, c1, c2, hwi, wrap1 hl hk, b1, o0, hlt]
      omega
    · simp -implicitDefEqProofs [↓gd_tt, ↓gd_ff, ↓gd_tf, ↓gd_ft, hk, hi, gb, ga, ← epa, ← epb, hI, hi0, hiN, c1, c2, hwi, wrap1 hl hk, b1, o0]
      omega
end Go.Idl
