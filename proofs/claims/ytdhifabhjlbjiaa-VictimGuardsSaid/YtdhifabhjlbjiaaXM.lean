/- What leaves use by their leases, in memory that the caller may write. -/
import Derived.Test.YtdhifabhjlbjiaaXA
import Derived.Test.YtdhifabhjlbjiaaXC
set_option linter.all false
namespace Go.Idl
open Go.Proofs
set_option linter.unusedSimpArgs false
set_option linter.unusedVariables false
set_option maxRecDepth 8000
set_option maxHeartbeats 4000000
variable (b : Bool)

theorem ltObjs_app {n : Nat} : ∀ {a b : List IObj}, ltObjs n (a ++ b) = (ltObjs n a && ltObjs n b)
  | [], b => by simp [ltObjs]
  | x :: a, b => by simp [ltObjs, ltObjs_app (a := a), Bool.and_assoc]
theorem uses_mem (q0 c0 m0 : Int) (ls : List Le) {args : List V} (ha : args = [.d (encLs b ls)]) (hne : ls ≠ []) (hl : ls.length ≤ maxLen) (hb : ls.length * 80 ≤ 140737488355328) (hq : ∀ x ∈ ls, In64 x.q) {K : V → List IObj → Prop}
    (hB : vusesE ls ≠ 0 → ∀ junk, K (.tup [.nil 3, .d (I (vusesE ls))]) (.var [.d (I q0), .d (I c0), .d (I m0)] :: junk))
    (hO : vusesE ls = 0 → ∀ (junk : List IObj) (cap : Nat) (rest : List D), (∀ n, junk.length + 1 ≤ n → ltObjs n junk = true) → (usesL ls).length + rest.length = cap → K (.tup [.ref (junk.length + 1) 3 0 (usesL ls).length cap, .d (I 0)]) (.var [.d (I q0), .d (I c0), .d (I m0)] :: (junk ++ [.arr 3 ((usesL ls).map encU ++ rest)]))) :
    CallK Try.prog 67 args [.var [.d (I q0), .d (I c0), .d (I m0)]] K := by
  subst ha
  refine callS (fn := Try.f67) [(71, 1)] [(8, 250008), (10, 5)] mixed (bodyOf Try.f67) [.tmp 2, .tmp 3] Try.func67 rfl rfl (by decide) 73 rfl (by kernel_rfl) ?_
  simp -implicitDefEqProofs [↓gd_tt, ↓gd_ff, ↓gd_tf, ↓gd_ft, bodyOf, Try.f67, stripC, stripL, stripM, onsOf, upto, hintOf, freeOf, List.replicate]
  refine loopA mixed [false, false, true, true, false, true, false, true, true, true, false, false, false, false, false, false, true, true, true, true, true, true, true, true, true, true, true, true, true, true, true, true, true, true, true, true, true, true, true, true, true, true, true, true, true, true, true, true, true, true, true, true, true, true, true] (fun (i : Nat) => [(16, .d (I i)), (5, .d (.bool (runA (ls.take i)).2))]) (fun (i : Nat) => [.var [.d (I q0), .d (I c0), .d (I m0)], .map (runA (ls.take i)).1.length (encA 0 (runA (ls.take i)).1)]) (fun (i : Nat) => i ≤ ls.length ∧ ∀ j (h : j < ls.length), j < i → okLe ls[j] = true) (fun (i : Nat) => ls.length - i) (0) (⟨Nat.zero_le _, fun j _ h => by omega⟩) (by simp [runA, encA]) ?_
  rintro i hx
  obtain ⟨hi, hx⟩ := hx
  have hok : ∀ x ∈ ls.take i, okLe x = true := fun x hx' => by
    obtain ⟨j, hj, rfl⟩ := List.getElem_of_mem hx'
    simp only [List.length_take] at hj
    rw [List.getElem_take]
    exact hx j (by omega) (by omega)
  have hrun := run_ok _ hok
  rcases Nat.lt_or_eq_of_le hi with h | h
  · have hst := runA_take h
    have hlk : goodP (lookA (runA (ls.take i)).1 ls[i].q) = true := lookA_mem (P := fun v => goodP v = true) good_zero hrun.vals _
    have hbad : okLe ls[i] = false → ∀ junk, K (.tup [.nil 3, .d (I 1)]) (.var [.d (I q0), .d (I c0), .d (I m0)] :: junk) := fun e => by
      have : ls.any (fun x => !okLe x) = true := List.any_eq_true.2 ⟨ls[i], List.getElem_mem h, by rw [e]; rfl⟩
      have hE : vusesE ls = 1 := by unfold vusesE; rw [if_pos this]
      rw [hE] at hB
      exact hB (by decide)
    by_cases c1 : ls[i].cs.length ≤ 64
    case neg =>
      have hbad := hbad (by simp [okLe, c1])
      simp -implicitDefEqProofs [↓gd_tt, ↓gd_ff, ↓gd_tf, ↓gd_ft, h, show (64 : Int) < (ls[i].cs.length : Int) by omega]
      exact hbad _
    by_cases c2 : ls[i].m < 0
    case pos =>
      have hbad := hbad (by simp [okLe, c1]; omega)
      simp -implicitDefEqProofs [↓gd_tt, ↓gd_ff, ↓gd_tf, ↓gd_ft, h, show ¬ (64 : Int) < (ls[i].cs.length : Int) by omega, c2]
      exact hbad _
    by_cases c3 : 1099511627776 < ls[i].m
    case pos =>
      have hbad := hbad (by simp [okLe, c1]; omega)
      simp -implicitDefEqProofs [↓gd_tt, ↓gd_ff, ↓gd_tf, ↓gd_ft, h, show ¬ (64 : Int) < (ls[i].cs.length : Int) by omega, c2, c3]
      exact hbad _
    have c1' : ¬ (64 : Int) < (ls[i].cs.length : Int) := by omega
    have hoki : okLe ls[i] = true := okLe_iff.2 ⟨c1, by omega, by omega⟩
    have hgc : good (ls[i].cs.length : Int) ls[i].m = true := good_iff.2 ⟨⟨by omega, by omega⟩, by omega, by omega⟩
    have hnext : ∀ j (h : j < ls.length), j < i + 1 → okLe ls[j] = true := fun j hj hji => by
      by_cases e : j = i
      · subst e; exact hoki
      · exact hx j hj (by omega)
    generalize runA (ls.take i) = s at *
    obtain ⟨A, ov⟩ := s
    simp only at hlk hst
    have hadd := vadd_spec (lookA A ls[i].q).1 (lookA A ls[i].q).2 ls[i].cs.length ls[i].m hlk hgc
    have hf := encA_find ls[i].q A 0 0
    simp only [Nat.zero_add] at hf
    have hcost := cost_spec ls[i]
    have hlen : ∀ v, (putA A ls[i].q v).length = if ls[i].q ∈ A.map (·.1) then A.length else A.length + 1 := fun v => len_put _ v A
    have hmod := encA_modify ls[i].q
    have hadp := encA_append ls[i].q
    have hlk0 : ls[i].q ∉ A.map (·.1) → lookA A ls[i].q = (0, 0) := fun hn => by
      clear hadd hf hlen hst hlk
      induction A with
      | nil => rfl
      | cons p r ih =>
        simp only [List.map_cons, List.mem_cons, not_or] at hn
        unfold lookA
        rw [if_neg fun e => hn.1 e.symm]; exact ih hn.2
    have hltA : ∀ B : List (Int × Int × Int), V.ltL 2 ((encA 0 B).map fun x => x.2.2) = true := fun B => encA_lt B 0
    have hwi := wrap1 hl h
    by_cases hg : good ((lookA A ls[i].q).1 + ls[i].cs.length) ((lookA A ls[i].q).2 + ls[i].m) = true
    · have hrn : runA (ls.take (i + 1)) = (putA A ls[i].q ((lookA A ls[i].q).1 + ls[i].cs.length, (lookA A ls[i].q).2 + ls[i].m), ov) := by
        rw [hst]; unfold stepA nextV; rw [if_pos hg]
      rw [if_pos hg] at hadd
      by_cases hin : ls[i].q ∈ A.map (·.1)
      · rw [if_pos hin] at hf
        simp -implicitDefEqProofs [↓gd_tt, ↓gd_ff, ↓gd_tf, ↓gd_ft, h, c1', c2, c3, keyOK3, hf]
        refine free_pcall hcost rfl rfl ?_
        simp -implicitDefEqProofs [↓gd_tt, ↓gd_ff, ↓gd_tf, ↓gd_ft, h, c1', c2, c3, keyOK3, hf]
        refine free_pcall hadd rfl rfl ?_
        simp -implicitDefEqProofs [↓gd_tt, ↓gd_ff, ↓gd_tf, ↓gd_ft, h, c1', c2, c3, keyOK3, hf]
        refine any_endU (m := 8) ?e1 (by simp) (fun K0 hK0 => ?_) ?_
        case refine_1 =>
          simp -implicitDefEqProofs [↓gd_tt, ↓gd_ff, ↓gd_tf, ↓gd_ft, ag_zero, ag_succ, al_nil, al_cons, List.replicate]
          exact hK0
        simp -implicitDefEqProofs [↓gd_tt, ↓gd_ff, ↓gd_tf, ↓gd_ft, h, c1', c2, c3, keyOK3, hf]
        refine ⟨i + 1, ⟨by omega, hnext⟩, by omega, ⟨by rw [hrn], hwi⟩, hltA _, by rw [hrn]; simp [len_put, hin], ?_⟩
        rw [hrn]; exact hmod ((lookA A ls[i].q).1 + ls[i].cs.length, (lookA A ls[i].q).2 + ls[i].m) A 0 hin
      · rw [if_neg hin] at hf
        rw [hlk0 hin] at hadd hrn hg
        simp only [Int.zero_add] at hadd hrn hg
        simp -implicitDefEqProofs [↓gd_tt, ↓gd_ff, ↓gd_tf, ↓gd_ft, h, c1', c2, c3, keyOK3, hf]
        refine free_pcall hcost rfl rfl ?_
        simp -implicitDefEqProofs [↓gd_tt, ↓gd_ff, ↓gd_tf, ↓gd_ft, h, c1', c2, c3, keyOK3, hf]
        refine free_pcall hadd rfl rfl ?_
        simp -implicitDefEqProofs [↓gd_tt, ↓gd_ff, ↓gd_tf, ↓gd_ft, h, c1', c2, c3, keyOK3, hf]
        refine any_endU (m := 8) ?e2 (by simp) (fun K0 hK0 => ?_) ?_
        case refine_1 =>
          simp -implicitDefEqProofs [↓gd_tt, ↓gd_ff, ↓gd_tf, ↓gd_ft, ag_zero, ag_succ, al_nil, al_cons, List.replicate]
          exact hK0
        simp -implicitDefEqProofs [↓gd_tt, ↓gd_ff, ↓gd_tf, ↓gd_ft, h, c1', c2, c3, keyOK3, hf]
        refine ⟨i + 1, ⟨by omega, hnext⟩, by omega, ⟨by rw [hrn], hwi⟩, hltA _, by rw [hrn]; simp [len_put, hin], ?_⟩
        rw [hrn]
        have := hadp ((ls[i].cs.length : Int), ls[i].m) A 0 hin
        simpa using this
    · have hrn : runA (ls.take (i + 1)) = (putA A ls[i].q (lookA A ls[i].q), true) := by
        rw [hst]; unfold stepA nextV; rw [if_neg hg]
      rw [if_neg hg] at hadd
      by_cases hin : ls[i].q ∈ A.map (·.1)
      · rw [if_pos hin] at hf
        simp -implicitDefEqProofs [↓gd_tt, ↓gd_ff, ↓gd_tf, ↓gd_ft, h, c1', c2, c3, keyOK3, hf]
        refine free_pcall hcost rfl rfl ?_
        simp -implicitDefEqProofs [↓gd_tt, ↓gd_ff, ↓gd_tf, ↓gd_ft, h, c1', c2, c3, keyOK3, hf]
        refine free_pcall hadd rfl rfl ?_
        simp -implicitDefEqProofs [↓gd_tt, ↓gd_ff, ↓gd_tf, ↓gd_ft, h, c1', c2, c3, keyOK3, hf]
        refine any_endU (m := 8) ?e3 (by simp) (fun K0 hK0 => ?_) ?_
        case refine_1 =>
          simp -implicitDefEqProofs [↓gd_tt, ↓gd_ff, ↓gd_tf, ↓gd_ft, ag_zero, ag_succ, al_nil, al_cons, List.replicate]
          exact hK0
        simp -implicitDefEqProofs [↓gd_tt, ↓gd_ff, ↓gd_tf, ↓gd_ft, h, c1', c2, c3, keyOK3, hf]
        refine ⟨i + 1, ⟨by omega, hnext⟩, by omega, ⟨by rw [hrn], hwi⟩, hltA _, by rw [hrn]; simp [len_put, hin], ?_⟩
        rw [hrn]; exact hmod (lookA A ls[i].q) A 0 hin
      · exfalso
        rw [hlk0 hin] at hg
        simp only [Int.zero_add] at hg
        exact hg hgc
  · have htk : ls.take i = ls := by rw [h]; exact List.take_length
    rw [htk] at hok hrun
    have hov := over_iff hok
    have hany : ls.any (fun x => !okLe x) = false := List.any_eq_false.2 fun x hx' => by rw [hok x hx']; decide
    have hidl : (runA ls).1.length ≤ ls.length := hrun.len
    have hrng : ∀ q ∈ (runA ls).1.map (·.1), In64 q := fun q hq' => by
      obtain ⟨x, hx', rfl⟩ := (hrun.mem q).1 hq'
      exact hq x hx'
    have hnm := numMap_A hrun.nodup hrng (by omega)
    have hsk : sortedKeys (encA 0 (runA ls).1) = idsL ls := by unfold sortedKeys idsL; rw [encA_keys]
    have hsum := hrun.sums
    have hmem := hrun.mem
    have hidm : ∀ q, q ∈ idsL ls → q ∈ (runA ls).1.map (·.1) := fun q hq' => by
      rw [hmem]; exact (idsL_mem hok).1 hq'
    have hf := fun q => encA_find q (runA ls).1 0 0
    have hidn : (idsL ls).length = (runA ls).1.length := by unfold idsL; simp
    simp -implicitDefEqProofs [↓gd_tt, ↓gd_ff, ↓gd_tf, ↓gd_ft, h]
    generalize hr : runA ls = s at *
    obtain ⟨A, ov⟩ := s
    simp only at hov hidl hrng hnm hsk hsum hmem hidm hf hidn
    refine ⟨fun e => ?_, fun e => ?_⟩
    · have e2 : ls.any (fun x => !goodP (sumL ls x.q)) = true := by rw [← hov]; exact e
      have hE : vusesE ls = 2 := by unfold vusesE; rw [hany, e2]; rfl
      rw [hE] at hB
      exact hB (by decide) _
    · have e2 : ls.any (fun x => !goodP (sumL ls x.q)) = false := by rw [← hov]; exact e
      have hE : vusesE ls = 0 := by unfold vusesE; rw [hany, e2]; rfl
      have hO := hO hE
      have hsum := hsum e
      have hul : (usesL ls).length = (idsL ls).length := by simp [usesL]
      have hug : ∀ j (h : j < (idsL ls).length), (usesL ls)[j]'(by omega) = ⟨(idsL ls)[j], (sumL ls (idsL ls)[j]).1, (sumL ls (idsL ls)[j]).2⟩ := fun j h => by simp [usesL]
      have hil : (idsL ls).length ≤ maxLen := by omega
      have hid0 : idsL ls ≠ [] := fun e0 => by
        obtain ⟨x, hx'⟩ := List.exists_mem_of_ne_nil ls hne
        have := (idsL_mem hok).2 ⟨x, hx', rfl⟩
        rw [e0] at this; cases this
      have hne2 : encA 0 A ≠ [] := fun e0 => by
        have h1 : A.length = 0 := by rw [← encA_len A 0, e0]; rfl
        exact hid0 (List.length_eq_zero_iff.1 (by omega))
      have hidp : 0 < (idsL ls).length := List.length_pos_iff.2 hid0
      refine vkeys_spec 1 _ _ ?_
      simp -implicitDefEqProofs [↓gd_tt, ↓gd_ff, ↓gd_tf, ↓gd_ft]
      refine sortedKeys_spec (id := 2) (m := 1) (clock := A.length) (es := encA 0 A) rfl rfl hnm ?_
      rw [if_neg hne2, hsk]
      simp -implicitDefEqProofs [↓gd_tt, ↓gd_ff, ↓gd_tf, ↓gd_ft]
      refine loopA mixed [false, false, false, false, false, false, false, false, false, false, true, false, true, false, false, false, false, false, false, false, false, false, false, false, false, false, false, false, false, false, false, false, false, false, false, false, false, false, false, false, false, false, false, false, false, false, false, false, false, false, false, false, false, false, false, false, false, false, false, false, true, true, true, true, true, true, true, true, true, true, true, true, true] (fun (p : Nat × V × List IObj) => [(60, .d (I p.1)), (58, .own 1 ((idsL ls).map fun n => .int .i64 n)), (59, .d (I (idsL ls).length)), (10, p.2.1)]) (fun (p : Nat × V × List IObj) => .var [.d (I q0), .d (I c0), .d (I m0)] :: .map A.length (encA 0 A) :: .var [.map 1] :: p.2.2) (fun (p : Nat × V × List IObj) => p.1 ≤ (idsL ls).length ∧ ((p.1 = 0 ∧ p.2.1 = .nil 3 ∧ p.2.2 = []) ∨ ∃ (junk : List IObj) (cap : Nat) (rest : List D), 0 < p.1 ∧ (∀ n, ltObjs n junk = true) ∧ p.1 + rest.length = cap ∧ p.2.1 = .ref (junk.length + 3) 3 0 p.1 cap ∧ p.2.2 = junk ++ [.arr 3 (((usesL ls).take p.1).map encU ++ rest)])) (fun (p : Nat × V × List IObj) => (idsL ls).length - p.1) ((0, .nil 3, [])) (⟨Nat.zero_le _, .inl ⟨rfl, rfl, rfl⟩⟩) (by simp [hid0, encA_lt]) ?_
      rintro p hx
      obtain ⟨j, v, hpx⟩ := p
      obtain ⟨hj, hx⟩ := hx
      simp only at hj hx
      rcases Nat.lt_or_eq_of_le hj with hj | hj
      · have hk := hidm _ (List.getElem_mem hj)
        have hfj := hf (idsL ls)[j]
        rw [if_pos hk, hsum] at hfj
        simp only [Nat.zero_add] at hfj
        have hb8 : (j + 1) * 24 ≤ 140737488355328 := by omega
        have hmin : min j (usesL ls).length = j := by omega
        rcases hx with ⟨rfl, rfl, rfl⟩ | ⟨junk, cap, rest, hj0, hjl, hcap, rfl, rfl⟩
        · simp -implicitDefEqProofs [↓gd_tt, ↓gd_ff, ↓gd_tf, ↓gd_ft, hj, hfj, keyOK3, wrap1 hil hj, hb8, hmin]
          intro cap' hc'
          have htk : ((usesL ls).map encU).take 1 = [encU ⟨(idsL ls)[0], (sumL ls (idsL ls)[0]).1, (sumL ls (idsL ls)[0]).2⟩] := by
            rw [List.take_add_one, List.getElem?_eq_getElem (by simp; omega)]
            simp [hug 0 hj]
          exact ⟨1, _, _, ⟨by omega, .inr ⟨by omega, [], fun n => rfl, cap', List.replicate (cap' - 1) (.agg [I 0, I 0, I 0]), by simp; try omega, rfl, by rw [htk]⟩⟩, by omega, ⟨.inr (.inl rfl), by decide⟩, by simp, ⟨encA_lt A 0, by simp [ltObjs, IObj.lt]⟩, by simp, by simp⟩
        · simp -implicitDefEqProofs [↓gd_tt, ↓gd_ff, ↓gd_tf, ↓gd_ft, hj, hfj, keyOK3, wrap1 hil hj, hb8, hmin]
          have htk : ((usesL ls).map encU).take (j + 1) = ((usesL ls).map encU).take j ++ [encU ⟨(idsL ls)[j], (sumL ls (idsL ls)[j]).1, (sumL ls (idsL ls)[j]).2⟩] := by
            rw [List.take_add_one, List.getElem?_eq_getElem (by simp; omega)]
            simp [hug j hj]
          have hlj : (((usesL ls).map encU).take j).length = j := by simp; omega
          refine ⟨by omega, by omega, fun hc => ?_, fun hc cap' hc' => ?_⟩
          · have hdr : (((usesL ls).map encU).take j ++ rest).drop (j + 1) = rest.drop 1 := by
              rw [List.drop_append, List.drop_of_length_le (by omega), hlj, Nat.add_sub_cancel_left]; rfl
            rw [hdr]
            exact ⟨j + 1, _, _, ⟨by omega, .inr ⟨by omega, junk, hjl, cap, rest.drop 1, by simp; try omega, rfl, by rw [htk, List.append_assoc]; simp⟩⟩, by omega, ⟨.inr (.inl rfl), rfl⟩, by simp, ⟨encA_lt A 0, by rw [ltObjs_app, hjl]; simp [ltObjs, IObj.lt]⟩, List.take_of_length_le (by simp), by simp⟩
          · exact ⟨j + 1, _, _, ⟨by omega, .inr ⟨by omega, junk ++ [.arr 3 (((usesL ls).map encU).take j ++ rest)], fun n => by rw [ltObjs_app, hjl]; simp [ltObjs, IObj.lt], cap', List.replicate (cap' - (j + 1)) (.agg [I 0, I 0, I 0]), by simp; try omega, rfl, by rw [htk, List.append_assoc, List.append_assoc]; simp⟩⟩, by omega, ⟨.inr (.inl (by simp)), rfl⟩, by simp, ⟨encA_lt A 0, by rw [ltObjs_app, hjl]; simp [ltObjs, IObj.lt]⟩, List.take_of_length_le (by simp), by simp⟩
      · rcases hx with ⟨h0, _⟩ | ⟨junk, cap, rest, hj0, hjl, hcap, rfl, rfl⟩
        · omega
        simp -implicitDefEqProofs [↓gd_tt, ↓gd_ff, ↓gd_tf, ↓gd_ft, hj]
        have := hO (.map A.length (encA 0 A) :: .var [.map 1] :: junk) cap rest (fun n hn => by
          simp only [List.length_cons] at hn
          simp [ltObjs, IObj.lt, V.ltL, V.lt, hjl n, encA_lt]; omega) (by rw [hul, ← hj]; exact hcap)
        rw [hul] at this
        have htk : ((usesL ls).map encU).take (idsL ls).length = (usesL ls).map encU := List.take_of_length_le (by simp; omega)
        rw [htk]
        exact this
end Go.Idl
