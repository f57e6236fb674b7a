/- The document's answer for queues: sums and room. -/
import Derived.Test.YtdhifabhjlbjiaaQD
import Derived.Test.YtdhifabhjlbjiaaQJ
import Derived.Test.YtdhifabhjlbjiaaMQall
set_option linter.all false
namespace Go.Idl
open Go.Proofs
set_option linter.unusedSimpArgs false
set_option linter.unusedVariables false
set_option maxRecDepth 8000
set_option maxHeartbeats 2000000
variable (b c : Bool)

abbrev encVs (b : Bool) (l : List (Int × Int)) : D := .sl b 2 (l.map encV)
def sumsV (l : List Q) (uses : List U) : V := if sumsE l uses = 0 then .tup [.d (encVs false (sumsL l uses)), .d (I 0)] else .tup [.nil 2, .d (I (sumsE l uses))]
theorem sums_use {l : List Q} {uses : List U} (hc : check l = 0) (h : usesE l uses ≠ 0) : sumsE l uses = usesE l uses := by simp [sumsE, hc, h]
theorem under_spec (l : List Q) (x top : Int) (hc : check l = 0) (hh : has l x = true) : PCall Try.prog 137 [encL b l, I x, I top] (.d (.bool (decide (top ∈ path l x)))) := by
  refine pcallS (fn := Try.f137) [] [] mixed (bodyOf Try.f137) [.tmp 6] Try.func137 rfl rfl (by decide) 9 rfl (by kernel_rfl) ?_
  simp -implicitDefEqProofs [↓gd_tt, ↓gd_ff, ↓gd_tf, ↓gd_ft, bodyOf, Try.f137, stripC, stripL, stripM, onsOf, upto, hintOf, freeOf, List.replicate]
  refine callK_pcall (path_spec b l x hc hh) rfl rfl ?_
  simp -implicitDefEqProofs [↓gd_tt, ↓gd_ff, ↓gd_tf, ↓gd_ft]
  refine callK_pcall (nhas_spec false (path l x) top (by have := path_len l x; have := check_len hc; exact max64 (by omega))) rfl rfl ?_
  simp -implicitDefEqProofs [↓gd_tt, ↓gd_ff, ↓gd_tf, ↓gd_ft]
theorem refSums_spec (l : List Q) (uses : List U) (hl : l.length ≤ maxLen) (hu : uses.length ≤ maxLen) : PCall Try.prog 59 [encL b l, encUs c uses] (sumsV l uses) := by
  refine pcallS (fn := Try.f59) [] [] mixed (bodyOf Try.f59) [.tmp 4, .tmp 5] Try.func59 rfl rfl (by decide) 87 rfl (by kernel_rfl) ?_
  simp -implicitDefEqProofs [↓gd_tt, ↓gd_ff, ↓gd_tf, ↓gd_ft, bodyOf, Try.f59, stripC, stripL, stripM, onsOf, upto, hintOf, freeOf, List.replicate]
  refine callK_pcall (refCheck_spec b l hl) rfl rfl ?_
  simp -implicitDefEqProofs [↓gd_tt, ↓gd_ff, ↓gd_tf, ↓gd_ft]
  refine ⟨fun hc => by simp [sumsV, sumsE, hc], fun hc => ?_⟩
  have h64 := check_len hc
  have hf := check_form hc
  have hl2 : l.length * 56 ≤ reachBytes := by
    have : reachBytes = 140737488351232 := rfl
    omega
  refine loopA mixed [false, false, false, false, true, true, false, false, true, false, false, false, false, false, false, false, false, false, false, false, false, false, true, true, true, true, true, true, true, true, true, true, true, true, true, true, true, true, true, true, true, true, true, true] (fun (i : Nat) => [(22, .d (I i))]) (fun (i : Nat) => []) (fun (i : Nat) => i ≤ uses.length ∧ usesE l (uses.drop i) = usesE l uses) (fun (i : Nat) => uses.length - i) (0) (⟨Nat.zero_le _, rfl⟩) (by simp) ?_
  rintro i hx
  obtain ⟨hi, hx⟩ := hx
  rcases Nat.lt_or_eq_of_le hi with h | h
  · rw [List.drop_eq_getElem_cons h, usesE] at hx
    simp -implicitDefEqProofs [↓gd_tt, ↓gd_ff, ↓gd_tf, ↓gd_ft, h]
    refine callK_pcall (has_spec b l uses[i].q hl) rfl rfl ?_
    by_cases h1 : has l uses[i].q = false
    · have e1 : useE l uses[i] = 8 := by simp [useE, h1]
      rw [e1] at hx; simp at hx
      simp -implicitDefEqProofs [↓gd_tt, ↓gd_ff, ↓gd_tf, ↓gd_ft, h1]
      simp [sumsV, sums_use hc (by rw [← hx]; decide), ← hx]
    · have h1' : has l uses[i].q = true := by simpa using h1
      simp -implicitDefEqProofs [↓gd_tt, ↓gd_ff, ↓gd_tf, ↓gd_ft, h1']
      refine callK_pcall (rleaf_spec b l uses[i].q hl hl2) rfl rfl ?_
      by_cases h2 : sonIds l uses[i].q = []
      · simp -implicitDefEqProofs [↓gd_tt, ↓gd_ff, ↓gd_tf, ↓gd_ft, h1', h2]
        refine callK_pcall (good_spec uses[i].c uses[i].m) rfl rfl ?_
        simp -implicitDefEqProofs [↓gd_tt, ↓gd_ff, ↓gd_tf, ↓gd_ft, wrap1 hu h]
        refine ⟨fun h3 => ?_, fun h3 => ⟨⟨by omega, ?_⟩, by omega⟩⟩
        · have e1 : useE l uses[i] = 1 := by simp [useE, h1, h2, h3]
          rw [e1] at hx; simp at hx
          simp [sumsV, sums_use hc (by rw [← hx]; decide), ← hx]
        · have e1 : useE l uses[i] = 0 := by simp [useE, h1, h2, h3]
          rw [e1] at hx; simpa using hx
      · have e1 : useE l uses[i] = 14 := by simp [useE, h1, h2]
        rw [e1] at hx; simp at hx
        simp -implicitDefEqProofs [↓gd_tt, ↓gd_ff, ↓gd_tf, ↓gd_ft, h1', h2]
        simp [sumsV, sums_use hc (by rw [← hx]; decide), ← hx]
  rw [h, List.drop_length] at hx
  have hu0 : usesE l uses = 0 := hx.symm
  have hg := goods_of hu0
  simp -implicitDefEqProofs [↓gd_tt, ↓gd_ff, ↓gd_tf, ↓gd_ft, h]
  refine loopA mixed [false, false, false, false, true, true, false, false, false, true, false, true, true, false, true, false, false, false, false, false, false, false, false, false, false, false, false, false, false, false, false, false, false, false, false, false, false, false, false, false, false, false, false, false, false, false, true, true, true, true, true, true, true, true, true, true, true, true, true, true, true, true, true, true, true, true, true, true, true, true, true, true, true, true, true, true, true, true, true, true, true, true, true, true, true, true, true, true] (fun (i : Nat) => [(9, .own 2 (((sumsL l uses).take i).map encV)), (46, .d (I i))]) (fun (i : Nat) => []) (fun (i : Nat) => i ≤ l.length ∧ ∀ j (h : j < l.length), j < i → goodP (tot l uses l[j].Id) = true) (fun (i : Nat) => l.length - i) (0) (⟨Nat.zero_le _, fun j _ h => by omega⟩) (by simp) ?_
  rintro i hx
  obtain ⟨hi, hx⟩ := hx
  rcases Nat.lt_or_eq_of_le hi with h | h
  · simp -implicitDefEqProofs [↓gd_tt, ↓gd_ff, ↓gd_tf, ↓gd_ft, h]
    refine loopA mixed [false, false, false, false, false, false, false, false, false, false, false, false, false, false, true, false, false, false, false, false, false, false, false, false, false, false, false, false, false, false, false, false, false, false, false, false, false, false, false, false, false, false, false, false, false, false, false, false, false, false, false, false, false, true, true, true, true, true, true, true, true, true, true, true, true, true, true, true, true, true, true, true, true, true, true, true, true, true, true, true] (fun (p : Nat × Int × Int) => [(53, .d (I p.1))]) (fun (p : Nat × Int × Int) => [.var [.d (I l[i].Id), .d (I l[i].Par), .d (I l[i].Wt), .d (I l[i].QC), .d (I l[i].QM), .d (I l[i].MC), .d (I l[i].MM)], .var [.d (I p.2.1), .d (I p.2.2)]]) (fun (p : Nat × Int × Int) => p.1 ≤ uses.length ∧ satF l l[i].Id (uses.drop p.1) p.2 = satF l l[i].Id uses (0, 0) ∧ (0 ≤ p.2.1 ∧ p.2.1 ≤ 1099511627777) ∧ 0 ≤ p.2.2 ∧ p.2.2 ≤ 1099511627777) (fun (p : Nat × Int × Int) => uses.length - p.1) ((0, 0, 0)) (⟨Nat.zero_le _, rfl, by decide, by decide⟩) (by simp) ?_
    rintro p hx
    obtain ⟨k, x, y⟩ := p
    obtain ⟨hk, hs, hb1, hb2⟩ := hx
    simp only at hk hs hb1 hb2 ⊢
    rcases Nat.lt_or_eq_of_le hk with h' | h'
    · rw [List.drop_eq_getElem_cons h', satF] at hs
      have hgk := good_iff.1 (hg _ (List.getElem_mem h'))
      have hhk := (useE_zero (usesE_mem hu0 _ (List.getElem_mem h'))).1
      have w1 : IntKind.i64.wrap (x + uses[k].c) = x + uses[k].c := by rw [wrap_i64 (by omega) (by omega)]
      have w2 : IntKind.i64.wrap (y + uses[k].m) = y + uses[k].m := by rw [wrap_i64 (by omega) (by omega)]
      simp -implicitDefEqProofs [↓gd_tt, ↓gd_ff, ↓gd_tf, ↓gd_ft, h']
      refine callK_pcall (under_spec b l uses[k].q l[i].Id hc hhk) rfl rfl ?_
      simp -implicitDefEqProofs [↓gd_tt, ↓gd_ff, ↓gd_tf, ↓gd_ft, wrap1 hu h', w1, w2]
      have em : ∀ z : Int, min z 1099511627777 = if 1099511627777 < z then 1099511627777 else z := fun z => by split <;> omega
      refine ⟨fun e => ⟨k + 1, min (x + uses[k].c) 1099511627777, min (y + uses[k].m) 1099511627777, ⟨by omega, by rw [if_pos e] at hs; exact hs, by omega, by omega⟩, by omega, rfl, (em _).symm, (em _).symm⟩, fun e => ⟨k + 1, x, y, ⟨by omega, by rw [if_neg e] at hs; exact hs, hb1, hb2⟩, by omega, rfl, rfl, rfl⟩⟩
    · rw [h', List.drop_length, satF] at hs
      obtain ⟨t1, t2⟩ := sat_good (l := l) (id := l[i].Id) hg
      rw [← hs] at t1 t2
      simp -implicitDefEqProofs [↓gd_tt, ↓gd_ff, ↓gd_tf, ↓gd_ft, h']
      refine callK_pcall (good_spec x y) rfl rfl ?_
      have hlen : ((sumsL l uses).take i).length = i := by simp [sumsL]; omega
      simp -implicitDefEqProofs [↓gd_tt, ↓gd_ff, ↓gd_tf, ↓gd_ft, wrap1 hl h]
      refine ⟨fun e => ?_, fun e => ⟨by omega, i + 1, ⟨by omega, fun j hj hji => ?_⟩, by omega, ?_, rfl⟩⟩
      · have ho : overs l uses = true := by
          cases ho : overs l uses with
          | true => rfl
          | false =>
            have := overs_iff.1 ho l[i] (List.getElem_mem h)
            rw [← t1] at this
            simp only [goodP] at this
            rw [e] at this; cases this
        simp [sumsV, sumsE, hc, hu0, ho]
      · rcases Nat.lt_or_eq_of_le (Nat.le_of_lt_succ hji) with k | rfl
        · exact hx j hj k
        · rw [← t1]; exact e
      · have e2 := t2 (by rw [← t1]; exact e)
        have e3 : (sumsL l uses)[i]? = some (x, y) := by simp [sumsL, h, e2]
        rw [List.take_add_one]; simp [e3]
  · simp -implicitDefEqProofs [↓gd_tt, ↓gd_ff, ↓gd_tf, ↓gd_ft, h]
    have ho : overs l uses = false := overs_iff.2 fun q hq => by
      obtain ⟨j, hj, rfl⟩ := List.getElem_of_mem hq
      exact hx j hj (by omega)
    have hv : sumsV l uses = .tup [.d (encVs false (sumsL l uses)), .d (I 0)] := by simp [sumsV, sumsE, hc, hu0, ho]
    rw [hv, List.take_of_length_le (by simp [sumsL])]
    simp -implicitDefEqProofs [↓gd_tt, ↓gd_ff, ↓gd_tf, ↓gd_ft]

theorem rsum_spec (l : List Q) (m : List (Int × Int)) (id : Int) (hl : l.length ≤ maxLen) (hr : Rises l) (hh : has l id = true) (hm : m.length = l.length) (h : pos l id < m.length) : PCall Try.prog 138 [encL b l, encVs c m, I id] (.d (encV m[pos l id])) := by
  obtain ⟨h1, h2, h3⟩ := place_pos hr hh
  refine pcallS (fn := Try.f138) [] [] mixed (bodyOf Try.f138) [.cell 6 41] Try.func138 rfl rfl (by decide) 10 rfl (by kernel_rfl) ?_
  simp -implicitDefEqProofs [↓gd_tt, ↓gd_ff, ↓gd_tf, ↓gd_ft, bodyOf, Try.f138, stripC, stripL, stripM, onsOf, upto, hintOf, freeOf, List.replicate]
  refine callK_pcall (place_spec b l id hl) rfl rfl ?_
  rw [h1]
  simp -implicitDefEqProofs [↓gd_tt, ↓gd_ff, ↓gd_tf, ↓gd_ft, h]
end Go.Idl
