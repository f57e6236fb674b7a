/- The statement VictimGuards: what it computes. -/
import Derived.Test.YtdhifabhjlbjiaaXJK
import Derived.Test.YtdhifabhjlbjiaaXM
import Derived.Test.YtdhifabhjlbjiaaMZ2
import Derived.Test.YtdhifabhjlbjiaaPZ
set_option linter.all false
namespace Go.Idl
open Go.Proofs
set_option linter.unusedSimpArgs false
set_option linter.unusedVariables false
set_option maxRecDepth 20000
set_option maxHeartbeats 4000000
variable (b c d : Bool)

theorem addC_take {us : List U} {q c : Int} {k : Nat} (h : k < us.length) : addC (us.take (k + 1)) q c = addC (us.take k) q c ++ [if us[k].q = q then { us[k] with c := us[k].c + c } else us[k]] := by
  unfold addC
  rw [List.take_add_one, List.getElem?_eq_getElem h, Option.toList_some, List.map_append]; rfl
theorem addC_len (us : List U) (q c : Int) : (addC us q c).length = us.length := by simp [addC]
theorem sumsV_perm (l : List Q) (us : List U) : (sumsV l us).permP := by
  unfold sumsV
  split
  · intro w hw'
    simp only [List.mem_cons, List.not_mem_nil, or_false] at hw'
    rcases hw' with rfl | rfl
    · exact ⟨rfl, permL_map (f := encV) fun v _ => ⟨trivial, trivial, trivial⟩⟩
    · trivial
  · intro w hw'
    simp only [List.mem_cons, List.not_mem_nil, or_false] at hw'
    rcases hw' with rfl | rfl <;> trivial
def gcell (us : List U) (rest : List D) (q c : Int) (k : Nat) : List D := (addC (us.take k) q c ++ us.drop k).map encU ++ rest
theorem gcell_zero (us : List U) (rest : List D) (q c : Int) : gcell us rest q c 0 = us.map encU ++ rest := by simp [gcell, addC]
theorem gcell_end (us : List U) (rest : List D) (q c : Int) : gcell us rest q c us.length = (addC us q c).map encU ++ rest := by simp [gcell]
theorem gcell_get {us : List U} {rest : List D} {q c : Int} {k : Nat} (hk : k < us.length) : (gcell us rest q c k)[k]? = some (encU us[k]) := by
  unfold gcell
  have hal := addC_len (us.take k) q c
  rw [List.getElem?_append_left (by simp [hal]; omega), List.getElem?_map, List.getElem?_append_right (by simp [hal]; omega)]
  simp [hal, show min k us.length = k by omega, hk]
theorem gcell_set {us : List U} {rest : List D} {q c : Int} {k : Nat} (hk : k < us.length) : gcell us rest q c (k + 1) = (gcell us rest q c k).set k (encU (if us[k].q = q then { us[k] with c := us[k].c + c } else us[k])) := by
  have hat := addC_take (q := q) (c := c) hk
  have hl2 : ((addC (us.take k) q c).map encU).length = k := by rw [List.length_map, addC_len]; simp; omega
  generalize (if us[k].q = q then { us[k] with c := us[k].c + c } else us[k]) = y at *
  unfold gcell
  rw [hat, List.drop_eq_getElem_cons hk, List.map_append, List.map_append, List.map_append, List.map_cons, List.map_cons, List.map_nil, List.append_assoc, List.append_assoc, List.append_assoc, List.set_append_right _ _ (by omega), hl2, Nat.sub_self]
  simp
theorem victimGuards_spec (l : List Q) (ls : List Le) (need : List U) (hl : l.length ≤ maxLen) (hls : ls.length ≤ maxLen) (hb : ls.length * 80 ≤ reachBytes) (hq : ∀ x ∈ ls, In64 x.q) (hn : need.length ≤ maxLen) (hnb : need.length * 24 ≤ reachBytes) (hnq : ∀ u ∈ need, In64 u.q) : PCall Try.prog 24 [encL false l, encLs false ls, encUs false need] (.d (.bool true)) := by
  have hrb : reachBytes = 140737488351232 := rfl
  have hml : maxLen = 9223372036854775807 := rfl
  have h1 := starved_spec false false false l ls need hl hls hb hq hn hnb
  have hv : starveV l ls need = if starveE l ls need = 0 then .tup [.d (encI false (starveL l (sumsL l (usesL ls)) need)), .d (I 0)] else .tup [.nil 1, .d (I (starveE l ls need))] := rfl
  have hsln := starveL_len l (sumsL l (usesL ls)) need
  refine pcallS (fn := Try.f24) [] [(17, 13)] mixed (bodyOf Try.f24) [.tmp 6] Try.func24 rfl rfl (by decide) 114 rfl (by kernel_rfl) ?_
  simp -implicitDefEqProofs [↓gd_tt, ↓gd_ff, ↓gd_tf, ↓gd_ft, bodyOf, Try.f24, stripC, stripL, stripM, onsOf, upto, hintOf, freeOf, List.replicate]
  refine callK_pcall awake8_spec rfl rfl ?_
  simp -implicitDefEqProofs [↓gd_tt, ↓gd_ff, ↓gd_tf, ↓gd_ft]
  by_cases hE : starveE l ls need = 0
  case neg =>
    rw [if_neg hE] at hv
    rw [hv] at h1
    refine callK_pcall h1 rfl rfl ?_
    simp -implicitDefEqProofs [↓gd_tt, ↓gd_ff, ↓gd_tf, ↓gd_ft, hE]
  rw [if_pos hE] at hv
  rw [hv] at h1
  have hE0 : vsumsE l ls = 0 := by
    unfold starveE at hE
    split at hE
    · rename_i h; exact absurd hE h
    · rename_i h; exact Classical.byContradiction h
  have hN : needE l need = 0 := by unfold starveE at hE; rw [if_neg (by simp [hE0])] at hE; exact hE
  have hall := needE_all hN
  obtain ⟨hc, hu, hs⟩ := vsums_zero.1 hE0
  have hri := check_rises hc
  refine callK_pcall h1 rfl rfl ?_
  simp -implicitDefEqProofs [↓gd_tt, ↓gd_ff, ↓gd_tf, ↓gd_ft]
  refine loopA mixed [false, false, false, false, false, false, true, false, false, false, true, true, true, true, true, true, true, false, false, false, false, false, false, false, false, false, false, false, false, false, false, false, false, true, true, true, true, true, true, true, true, true, true, true, true, true, true, true, true, true, true, true, true, true, true, true, true, true, true, true, true, true, true, true, true, true, true, true, true, true, true, true, true, true, true, true, true, true, true, true, true, true, true, true, true, true, true, true, true, true, true, true, true, true, true, true, true, true, true, true, true, true, true, true, true, true, true, true, true, true, true, true, true, true, true, true, true] (fun (i : Nat) => [(33, .d (I i))]) (fun (i : Nat) => []) (fun (i : Nat) => i ≤ need.length) (fun (i : Nat) => need.length - i) (0) (Nat.zero_le _) (by simp) ?_
  rintro i hx
  rcases Nat.lt_or_eq_of_le hx with h | h
  case inr => simp -implicitDefEqProofs [↓gd_tt, ↓gd_ff, ↓gd_tf, ↓gd_ft, h]
  obtain ⟨hh, hgd⟩ := neAt_zero h (hall i h)
  have hgu := good_iff.1 hgd
  have hwi := wrap1 hn h
  have hsm := starve_mem (M := sumsL l (usesL ls)) hall h
  obtain ⟨hpp, hpl, hpi⟩ := place_pos hri hh
  have hat := at_spec false l need[i].q hl
  have hlk : lacks l (sumsL l (usesL ls)) need[i] = fits (((sumsL l (usesL ls)).getD (pos l need[i].q) (0, 0)).1 + need[i].c) (((sumsL l (usesL ls)).getD (pos l need[i].q) (0, 0)).2 + need[i].m) l[pos l need[i].q].MC l[pos l need[i].q].MM := by
    unfold lacks; rw [hpp]; simp [hpl]
  have hgp := guard_plain hE0 hgd hh hpl (hpi hpl)
  have hnh := nhas_spec false (starveL l (sumsL l (usesL ls)) need) need[i].q (by omega)
  rw [hpp] at hat
  generalize pos l need[i].q = j at *
  have hq' : ∀ x ∈ ls ++ [askL need[i]], In64 x.q := fun x hx => by
    rcases List.mem_append.1 hx with hx | hx
    · exact hq x hx
    · rw [List.mem_singleton] at hx; subst hx; exact hnq _ (List.getElem_mem h)
  have b1 : ls.length * 80 ≤ 140737488355328 := by omega
  have b2 : (ls.length + 1) * 80 ≤ 140737488355328 := by omega
  simp -implicitDefEqProofs [↓gd_tt, ↓gd_ff, ↓gd_tf, ↓gd_ft, h]
  refine callK_pcall hat rfl rfl ?_
  simp -implicitDefEqProofs [↓gd_tt, ↓gd_ff, ↓gd_tf, ↓gd_ft, b1, b2]
  have hgp' : vusesE (ls ++ [askL need[i]]) = 0 → (usesL (ls ++ [askL need[i]])).length ≤ ls.length + 1 := fun h => by
    have := vuses_len h; simpa using this
  refine uses_mem false need[i].q need[i].c need[i].m (ls ++ [askL need[i]]) (by simp [askL]) (by simp) (by simp; omega) (by simp; omega) hq' (fun hE' junk => ?_) (fun hE' junk cap rest hjl hcap => ?_)
  · simp -implicitDefEqProofs [↓gd_tt, ↓gd_ff, ↓gd_tf, ↓gd_ft, hE', hwi]
    exact ⟨by omega, by omega⟩
  have hul := hgp' hE'
  have hul2 : (usesL (ls ++ [askL need[i]])).length ≤ maxLen := by omega
  obtain ⟨o1, o2⟩ := ok_of hE'
  generalize hus : usesL (ls ++ [askL need[i]]) = us at *
  have hgv : ∀ k (hk : k < us.length), good us[k].c us[k].m = true := fun k hk => by
    have hm : us[k] ∈ usesL (ls ++ [askL need[i]]) := by rw [hus]; exact List.getElem_mem hk
    unfold usesL at hm
    obtain ⟨q, hq1, e⟩ := List.mem_map.1 hm
    obtain ⟨x, hx1, e2⟩ := (idsL_mem o1).1 hq1
    have := o2 x hx1
    rw [e2] at this
    rw [← e]; exact this
  have hj0 : ¬ (j : Int) < 0 := by omega
  simp -implicitDefEqProofs [↓gd_tt, ↓gd_ff, ↓gd_tf, ↓gd_ft, hj0]
  refine loopA mixed [false, false, false, false, false, false, false, false, false, false, false, false, false, false, false, true, false, false, false, false, false, false, false, false, false, false, false, false, false, false, false, false, false, false, false, false, false, false, false, false, false, false, false, false, false, false, false, false, false, false, false, false, false, false, false, false, false, false, false, false, false, false, false, false, false, false, true, true, true, true, true, true, true, true, true, true, true, true, true, true, true, true, true, true, true, true, true, true, true, true, true] (fun (k : Nat) => [(66, .d (I k))]) (fun (k : Nat) => IObj.var [.d (I need[i].q), .d (I need[i].c), .d (I need[i].m)] :: (junk ++ [IObj.arr 3 (gcell us rest need[i].q need[i].c k)])) (fun (k : Nat) => k ≤ us.length) (fun (k : Nat) => us.length - k) (0) (Nat.zero_le _) (by rw [gcell_zero]; simp [ltObjs_app, hjl, ltObjs, IObj.lt]; exact List.take_of_length_le (by simp)) ?_
  rintro k hx
  rcases Nat.lt_or_eq_of_le hx with hk | hk
  · have hwk := wrap1 hul2 hk
    have hgk := good_iff.1 (hgv k hk)
    have hwa : IntKind.i64.wrap (us[k].c + need[i].c) = us[k].c + need[i].c := wrap_i64 (by omega) (by omega)
    have hx0 := gcell_get (rest := rest) (q := need[i].q) (c := need[i].c) hk
    have hx1 := gcell_set (rest := rest) (q := need[i].q) (c := need[i].c) hk
    have hxl : k < (gcell us rest need[i].q need[i].c k).length := (List.getElem?_eq_some_iff.1 hx0).1
    have hxg : (gcell us rest need[i].q need[i].c k)[k] = encU us[k] := (List.getElem?_eq_some_iff.1 hx0).2
    have hkeep : (gcell us rest need[i].q need[i].c k).set k (encU us[k]) = gcell us rest need[i].q need[i].c k := by rw [← hxg]; exact List.set_getElem_self _
    generalize gcell us rest need[i].q need[i].c k = xs at *
    by_cases hqe : us[k].q = need[i].q
    · rw [if_pos hqe] at hx1
      simp -implicitDefEqProofs [↓gd_tt, ↓gd_ff, ↓gd_tf, ↓gd_ft, hk, hwk, hx0, hxl, hxg, hqe, hwa]
      refine ⟨k + 1, by omega, by omega, rfl, by simp [ltObjs_app, hjl, ltObjs, IObj.lt], ?_⟩
      rw [List.take_of_length_le (by simp), hx1]
      simp [hqe, D.setAt]
    · rw [if_neg hqe, hkeep] at hx1
      simp -implicitDefEqProofs [↓gd_tt, ↓gd_ff, ↓gd_tf, ↓gd_ft, hk, hwk, hx0, hxl, hxg, hqe]
      refine ⟨k + 1, by omega, by omega, rfl, by simp [ltObjs_app, hjl, ltObjs, IObj.lt], ?_⟩
      rw [List.take_of_length_le (by simp), hx1]
  · subst hk
    have hge := gcell_end us rest need[i].q need[i].c
    have hal := addC_len us need[i].q need[i].c
    have hsms := qsums_spec false true l (addC us need[i].q need[i].c) hl (by omega)
    have hvp : (sumsV l (addC us need[i].q need[i].c)).permP := sumsV_perm _ _
    have htk : (((addC us need[i].q need[i].c).map encU) ++ rest).take us.length = (addC us need[i].q need[i].c).map encU := by
      rw [List.take_append_of_le_length (by simp [hal]), List.take_of_length_le (by simp [hal])]
    simp -implicitDefEqProofs [↓gd_tt, ↓gd_ff, ↓gd_tf, ↓gd_ft, hge]
    by_cases hS : sumsE l (addC us need[i].q need[i].c) = 0
    · have hv3 : sumsV l (addC us need[i].q need[i].c) = .tup [.d (encVs false (sumsL l (addC us need[i].q need[i].c))), .d (I 0)] := by simp [sumsV, hS]
      have hjM : j < (sumsL l (addC us need[i].q need[i].c)).length := by simpa [sumsL] using hpl
      have hgd2 : (sumsL l (addC us need[i].q need[i].c)).getD j (0, 0) = (sumsL l (addC us need[i].q need[i].c))[j] := by simp [hjM]
      rw [hgd2] at hgp
      have hfit := vfits_spec (sumsL l (addC us need[i].q need[i].c))[j].1 (sumsL l (addC us need[i].q need[i].c))[j].2 l[j].MC l[j].MM
      have hfe : fits (sumsL l (addC us need[i].q need[i].c))[j].1 (sumsL l (addC us need[i].q need[i].c))[j].2 l[j].MC l[j].MM = decide (need[i].q ∈ starveL l (sumsL l (usesL ls)) need) := by
        rw [hgp]
        simp only
        rw [← hlk]
        by_cases hm : need[i].q ∈ starveL l (sumsL l (usesL ls)) need
        · rw [hsm.1 hm]; simp [hm]
        · simp only [hm, decide_false]
          cases hla : lacks l (sumsL l (usesL ls)) need[i] with
          | false => rfl
          | true => exact absurd (hsm.2 hla) hm
      rw [hfe] at hfit
      refine callK_lend hsms (by simp [hal, hcap.symm, htk]) (by rw [hv3]; rfl) hvp ?_
      rw [hv3]
      simp -implicitDefEqProofs [↓gd_tt, ↓gd_ff, ↓gd_tf, ↓gd_ft]
      refine free_pcall hnh rfl rfl ?_
      simp -implicitDefEqProofs [↓gd_tt, ↓gd_ff, ↓gd_tf, ↓gd_ft, hjM, hpl]
      refine free_pcall hfit rfl rfl ?_
      simp -implicitDefEqProofs [↓gd_tt, ↓gd_ff, ↓gd_tf, ↓gd_ft, hwi]
      exact ⟨by omega, by omega⟩
    · have hv3 : sumsV l (addC us need[i].q need[i].c) = .tup [.nil 2, .d (I (sumsE l (addC us need[i].q need[i].c)))] := by simp [sumsV, hS]
      refine callK_lend hsms (by simp [hal, hcap.symm, htk]) (by rw [hv3]; rfl) hvp ?_
      rw [hv3]
      simp -implicitDefEqProofs [↓gd_tt, ↓gd_ff, ↓gd_tf, ↓gd_ft, hS, hwi]
      exact ⟨by omega, by omega⟩
theorem victimGuards_row (l : List Q) (ls : List Le) (need : List U) (hl : l.length ≤ maxLen) (hlb : l.length * 56 ≤ reachBytes) (hls : ls.length ≤ maxLen) (hb : ls.length * 80 ≤ reachBytes) (hw : ∀ x ∈ ls, x.ok) (hn : need.length ≤ maxLen) (hnb : need.length * 24 ≤ reachBytes) (hwn : ∀ u ∈ need, In64 u.q ∧ In64 u.c ∧ In64 u.m) : PCall Try.prog 24 [encL false l, encLs false ls, encUs false need] (.d (.bool true)) := victimGuards_spec l ls need hl hls hb (fun x hx => (hw x hx).q) hn hnb fun u hu => (hwn u hu).1
end Go.Idl
