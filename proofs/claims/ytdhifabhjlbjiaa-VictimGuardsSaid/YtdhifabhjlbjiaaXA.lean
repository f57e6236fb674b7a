/- What leaves use by their leases: the program. -/
import Derived.Test.YtdhifabhjlbjiaaXLS
import Derived.Test.YtdhifabhjlbjiaaMVall
import Derived.Test.YtdhifabhjlbjiaaPS
import Derived.Test.YtdhifabhjlbjiaaQJ
set_option linter.all false
namespace Go.Idl
open Go.Proofs
set_option linter.unusedSimpArgs false
set_option linter.unusedVariables false
set_option maxRecDepth 8000
set_option maxHeartbeats 2000000
variable (b : Bool)

/-- the map's entries -/
def encA : Nat → List (Int × Int × Int) → List (Nat × D × V)
  | _, [] => []
  | i, p :: r => (i, I p.1, .d (encV p.2)) :: encA (i + 1) r
theorem encA_find (q : Int) : ∀ (A : List (Int × Int × Int)) (c i : Nat), mfind Try.prog 3 (I q) (encA c A) i = if q ∈ A.map (·.1) then some (some (i + idxA A q, .d (encV (lookA A q)))) else some none
  | [], c, i => by simp [encA, mfind]
  | p :: r, c, i => by
    have ih := encA_find q r (c + 1) (i + 1)
    by_cases e : p.1 = q
    · subst e
      simp [encA, mfind, keyEq, idxA, lookA]
    · have e2 : ¬ q = p.1 := fun h => e h.symm
      have e3 : (q ∈ (p :: r).map (·.1)) ↔ q ∈ r.map (·.1) := by simp only [List.map_cons, List.mem_cons, e2, false_or]
      have e4 : mfind Try.prog 3 (I q) (encA c (p :: r)) i = mfind Try.prog 3 (I q) (encA (c + 1) r) (i + 1) := by
        simp [encA, mfind, keyEq, e2]
      rw [e4, ih, show idxA (p :: r) q = idxA r q + 1 by simp [idxA, e], show lookA (p :: r) q = lookA r q by simp [lookA, e]]
      by_cases h : q ∈ r.map (·.1)
      · rw [if_pos h, if_pos (e3.2 h), show i + 1 + idxA r q = i + (idxA r q + 1) by omega]
      · rw [if_neg h, if_neg (fun k => h (e3.1 k))]
theorem encA_modify (q : Int) (v : Int × Int) : ∀ (A : List (Int × Int × Int)) (c : Nat), q ∈ A.map (·.1) → (encA c A).modify (idxA A q) (fun e => (e.1, e.2.1, .d (encV v))) = encA c (putA A q v)
  | [], c, h => by simp at h
  | p :: r, c, h => by
    by_cases e : p.1 = q
    · subst e; simp [encA, putA, idxA]
    · have e2 : ¬ q = p.1 := fun h => e h.symm
      have h' : q ∈ r.map (·.1) := by simpa only [List.map_cons, List.mem_cons, e2, false_or] using h
      have ih := encA_modify q v r (c + 1) h'
      simp only [encA, putA, idxA, if_neg e, List.modify_succ_cons, ih]
theorem encA_append (q : Int) (v : Int × Int) : ∀ (A : List (Int × Int × Int)) (c : Nat), q ∉ A.map (·.1) → encA c A ++ [(c + A.length, I q, .d (encV v))] = encA c (putA A q v)
  | [], c, _ => rfl
  | p :: r, c, h => by
    have e : ¬ p.1 = q := fun e => h (by simp [e])
    have h' : q ∉ r.map (·.1) := fun k => h (by simp only [List.map_cons, List.mem_cons]; exact .inr k)
    have ih := encA_append q v r (c + 1) h'
    simp only [encA, putA, if_neg e, List.cons_append, List.length_cons, ← ih]
    rw [show c + (r.length + 1) = c + 1 + r.length by omega]
theorem encA_keys : ∀ (A : List (Int × Int × Int)) (c : Nat), (encA c A).map (fun e => keyI e.2.1) = A.map (·.1)
  | [], _ => rfl
  | p :: r, c => by simp only [encA, List.map_cons, encA_keys r (c + 1)]; rfl
theorem encA_len : ∀ (A : List (Int × Int × Int)) (c : Nat), (encA c A).length = A.length
  | [], _ => rfl
  | p :: r, c => by simp [encA, encA_len r (c + 1)]
theorem encA_borns : ∀ (A : List (Int × Int × Int)) (c : Nat), (encA c A).map (·.1) = List.range' c A.length
  | [], _ => rfl
  | p :: r, c => by simp only [encA, List.map_cons, encA_borns r (c + 1), List.length_cons, List.range'_succ]
theorem encA_lt {n : Nat} : ∀ (A : List (Int × Int × Int)) (c : Nat), V.ltL n ((encA c A).map fun e => e.2.2) = true
  | [], _ => rfl
  | p :: r, c => by simp [encA, encA_lt r (c + 1)]
theorem numMap_A {A : List (Int × Int × Int)} (h1 : (A.map (·.1)).Nodup) (h2 : ∀ q ∈ A.map (·.1), In64 q) (h3 : A.length * 8 ≤ 140737488355328) : NumMap A.length (encA 0 A) := by
  have hk : ∀ (A : List (Int × Int × Int)) (c : Nat), ∀ e ∈ encA c A, ∃ n ∈ A.map (·.1), e.2.1 = I n := by
    intro A
    induction A with
    | nil => intro c e he; cases he
    | cons p r ih =>
      intro c e he
      unfold encA at he
      rcases List.mem_cons.1 he with rfl | he
      · exact ⟨p.1, by simp, rfl⟩
      · obtain ⟨n, hn, e⟩ := ih (c + 1) e he
        exact ⟨n, by simp only [List.map_cons, List.mem_cons]; exact .inr hn, e⟩
  refine ⟨fun e he => ?_, by rw [encA_keys]; exact h1, fun e he => ?_, by rw [encA_borns]; exact List.nodup_range', by rw [encA_len]; exact h3⟩
  · obtain ⟨n, hn, e⟩ := hk A 0 e he
    exact ⟨n, e, h2 n hn⟩
  · have : e.1 ∈ (encA 0 A).map (·.1) := List.mem_map.2 ⟨e, he, rfl⟩
    rw [encA_borns, List.mem_range'] at this
    obtain ⟨i, hi, e⟩ := this
    omega
theorem keyOK3 (n : Int) : keyOK Try.prog 3 (.int .i64 n) = true := by simp [keyOK]
theorem cost_spec (x : Le) : PCall Try.prog 142 [encLe x] (.d (.agg [I x.cs.length, I x.m])) := by
  refine pcallS (fn := Try.f142) [] [] mixed (bodyOf Try.f142) [.cell 2 41] Try.func142 rfl rfl (by decide) 8 rfl (by kernel_rfl) ?_
  simp -implicitDefEqProofs [↓gd_tt, ↓gd_ff, ↓gd_tf, ↓gd_ft, bodyOf, Try.f142, stripC, stripL, stripM, onsOf, upto, hintOf, freeOf, List.replicate]
theorem vkeys_spec (m : Nat) (hp : List IObj) (K : V → List IObj → Prop) (hk : K (.fn (.func 197) [.ptr hp.length 0]) (hp ++ [.var [.map m]])) : CallK Try.prog 144 [.map m] hp K := by
  refine callS (fn := Try.f144) [] [] mixed (bodyOf Try.f144) [.tmp 2] Try.func144 rfl rfl (by decide) 3 rfl (by kernel_rfl) ?_
  simp -implicitDefEqProofs [↓gd_tt, ↓gd_ff, ↓gd_tf, ↓gd_ft, bodyOf, Try.f144, stripC, stripL, stripM, onsOf, upto, hintOf, freeOf, List.replicate]
  exact hk
theorem vuses_spec (ls : List Le) (hl : ls.length ≤ maxLen) (hb : ls.length * 80 ≤ reachBytes) (hq : ∀ x ∈ ls, In64 x.q) : PCall Try.prog 67 [encLs b ls] (vusesV ls) := by
  have hrb : reachBytes = 140737488351232 := rfl
  refine pcallS (fn := Try.f67) [] [(8, 250008), (10, 5)] mixed (bodyOf Try.f67) [.tmp 2, .tmp 3] Try.func67 rfl rfl (by decide) 73 rfl (by kernel_rfl) ?_
  simp -implicitDefEqProofs [↓gd_tt, ↓gd_ff, ↓gd_tf, ↓gd_ft, bodyOf, Try.f67, stripC, stripL, stripM, onsOf, upto, hintOf, freeOf, List.replicate]
  refine loopA mixed [false, false, true, true, false, true, false, true, true, true, false, false, false, false, false, false, true, true, true, true, true, true, true, true, true, true, true, true, true, true, true, true, true, true, true, true, true, true, true, true, true, true, true, true, true, true, true, true, true, true, true, true, true, true, true] (fun (i : Nat) => [(16, .d (I i)), (5, .d (.bool (runA (ls.take i)).2))]) (fun (i : Nat) => [.map (runA (ls.take i)).1.length (encA 0 (runA (ls.take i)).1)]) (fun (i : Nat) => i ≤ ls.length ∧ ∀ j (h : j < ls.length), j < i → okLe ls[j] = true) (fun (i : Nat) => ls.length - i) (0) (⟨Nat.zero_le _, fun j _ h => by omega⟩) (by simp [runA, encA]) ?_
  rintro i hx
  obtain ⟨hi, hx⟩ := hx
  have hok : ∀ x ∈ ls.take i, okLe x = true := fun x hx' => by
    obtain ⟨j, hj, rfl⟩ := List.getElem_of_mem hx'
    simp only [List.length_take] at hj
    rw [List.getElem_take]
    exact hx j (by omega) (by omega)
  have hrun := run_ok _ hok
  rcases Nat.lt_or_eq_of_le hi with h | h
  · have hst := runA_take h
    have hlk : goodP (lookA (runA (ls.take i)).1 ls[i].q) = true := lookA_mem (P := fun v => goodP v = true) good_zero hrun.vals _
    have hbad : okLe ls[i] = false → vusesV ls = .tup [.nil 3, .d (I 1)] := fun e => by
      have : ls.any (fun x => !okLe x) = true := List.any_eq_true.2 ⟨ls[i], List.getElem_mem h, by rw [e]; rfl⟩
      unfold vusesV vusesE; rw [if_pos this]; rfl
    by_cases c1 : ls[i].cs.length ≤ 64
    case neg =>
      rw [hbad (by simp [okLe, c1])]
      simp -implicitDefEqProofs [↓gd_tt, ↓gd_ff, ↓gd_tf, ↓gd_ft, h, show (64 : Int) < (ls[i].cs.length : Int) by omega]
    by_cases c2 : ls[i].m < 0
    case pos =>
      rw [hbad (by simp [okLe, c1]; omega)]
      simp -implicitDefEqProofs [↓gd_tt, ↓gd_ff, ↓gd_tf, ↓gd_ft, h, show ¬ (64 : Int) < (ls[i].cs.length : Int) by omega, c2]
    by_cases c3 : 1099511627776 < ls[i].m
    case pos =>
      rw [hbad (by simp [okLe, c1]; omega)]
      simp -implicitDefEqProofs [↓gd_tt, ↓gd_ff, ↓gd_tf, ↓gd_ft, h, show ¬ (64 : Int) < (ls[i].cs.length : Int) by omega, c2, c3]
    have c1' : ¬ (64 : Int) < (ls[i].cs.length : Int) := by omega
    have hoki : okLe ls[i] = true := okLe_iff.2 ⟨c1, by omega, by omega⟩
    have hgc : good (ls[i].cs.length : Int) ls[i].m = true := good_iff.2 ⟨⟨by omega, by omega⟩, by omega, by omega⟩
    have hnext : ∀ j (h : j < ls.length), j < i + 1 → okLe ls[j] = true := fun j hj hji => by
      by_cases e : j = i
      · subst e; exact hoki
      · exact hx j hj (by omega)
    generalize runA (ls.take i) = s at *
    obtain ⟨A, ov⟩ := s
    simp only at hlk hst
    have hadd := vadd_spec (lookA A ls[i].q).1 (lookA A ls[i].q).2 ls[i].cs.length ls[i].m hlk hgc
    have hf := encA_find ls[i].q A 0 0
    simp only [Nat.zero_add] at hf
    have hcost := cost_spec ls[i]
    have hlen : ∀ v, (putA A ls[i].q v).length = if ls[i].q ∈ A.map (·.1) then A.length else A.length + 1 := fun v => len_put _ v A
    have hmod := encA_modify ls[i].q
    have hadp := encA_append ls[i].q
    have hlk0 : ls[i].q ∉ A.map (·.1) → lookA A ls[i].q = (0, 0) := fun hn => by
      clear hadd hf hlen hst hlk
      induction A with
      | nil => rfl
      | cons p r ih =>
        simp only [List.map_cons, List.mem_cons, not_or] at hn
        unfold lookA
        rw [if_neg fun e => hn.1 e.symm]; exact ih hn.2
    have hltA : ∀ B : List (Int × Int × Int), V.ltL 1 ((encA 0 B).map fun x => x.2.2) = true := fun B => encA_lt B 0
    have hwi := wrap1 hl h
    by_cases hg : good ((lookA A ls[i].q).1 + ls[i].cs.length) ((lookA A ls[i].q).2 + ls[i].m) = true
    · have hrn : runA (ls.take (i + 1)) = (putA A ls[i].q ((lookA A ls[i].q).1 + ls[i].cs.length, (lookA A ls[i].q).2 + ls[i].m), ov) := by
        rw [hst]; unfold stepA nextV; rw [if_pos hg]
      rw [if_pos hg] at hadd
      by_cases hin : ls[i].q ∈ A.map (·.1)
      · rw [if_pos hin] at hf
        simp -implicitDefEqProofs [↓gd_tt, ↓gd_ff, ↓gd_tf, ↓gd_ft, h, c1', c2, c3, keyOK3, hf]
        refine free_pcall hcost rfl rfl ?_
        simp -implicitDefEqProofs [↓gd_tt, ↓gd_ff, ↓gd_tf, ↓gd_ft, h, c1', c2, c3, keyOK3, hf]
        refine free_pcall hadd rfl rfl ?_
        simp -implicitDefEqProofs [↓gd_tt, ↓gd_ff, ↓gd_tf, ↓gd_ft, h, c1', c2, c3, keyOK3, hf]
        refine any_endU (m := 8) ?e1 (by simp) (fun K0 hK0 => ?_) ?_
        case refine_1 =>
          simp -implicitDefEqProofs [↓gd_tt, ↓gd_ff, ↓gd_tf, ↓gd_ft, ag_zero, ag_succ, al_nil, al_cons, List.replicate]
          exact hK0
        simp -implicitDefEqProofs [↓gd_tt, ↓gd_ff, ↓gd_tf, ↓gd_ft, h, c1', c2, c3, keyOK3, hf]
        refine ⟨i + 1, ⟨by omega, hnext⟩, by omega, ⟨by rw [hrn], hwi⟩, hltA _, by rw [hrn]; simp [len_put, hin], ?_⟩
        rw [hrn]; exact hmod ((lookA A ls[i].q).1 + ls[i].cs.length, (lookA A ls[i].q).2 + ls[i].m) A 0 hin
      · rw [if_neg hin] at hf
        rw [hlk0 hin] at hadd hrn hg
        simp only [Int.zero_add] at hadd hrn hg
        simp -implicitDefEqProofs [↓gd_tt, ↓gd_ff, ↓gd_tf, ↓gd_ft, h, c1', c2, c3, keyOK3, hf]
        refine free_pcall hcost rfl rfl ?_
        simp -implicitDefEqProofs [↓gd_tt, ↓gd_ff, ↓gd_tf, ↓gd_ft, h, c1', c2, c3, keyOK3, hf]
        refine free_pcall hadd rfl rfl ?_
        simp -implicitDefEqProofs [↓gd_tt, ↓gd_ff, ↓gd_tf, ↓gd_ft, h, c1', c2, c3, keyOK3, hf]
        refine any_endU (m := 8) ?e2 (by simp) (fun K0 hK0 => ?_) ?_
        case refine_1 =>
          simp -implicitDefEqProofs [↓gd_tt, ↓gd_ff, ↓gd_tf, ↓gd_ft, ag_zero, ag_succ, al_nil, al_cons, List.replicate]
          exact hK0
        simp -implicitDefEqProofs [↓gd_tt, ↓gd_ff, ↓gd_tf, ↓gd_ft, h, c1', c2, c3, keyOK3, hf]
        refine ⟨i + 1, ⟨by omega, hnext⟩, by omega, ⟨by rw [hrn], hwi⟩, hltA _, by rw [hrn]; simp [len_put, hin], ?_⟩
        rw [hrn]
        have := hadp ((ls[i].cs.length : Int), ls[i].m) A 0 hin
        simpa using this
    · have hrn : runA (ls.take (i + 1)) = (putA A ls[i].q (lookA A ls[i].q), true) := by
        rw [hst]; unfold stepA nextV; rw [if_neg hg]
      rw [if_neg hg] at hadd
      by_cases hin : ls[i].q ∈ A.map (·.1)
      · rw [if_pos hin] at hf
        simp -implicitDefEqProofs [↓gd_tt, ↓gd_ff, ↓gd_tf, ↓gd_ft, h, c1', c2, c3, keyOK3, hf]
        refine free_pcall hcost rfl rfl ?_
        simp -implicitDefEqProofs [↓gd_tt, ↓gd_ff, ↓gd_tf, ↓gd_ft, h, c1', c2, c3, keyOK3, hf]
        refine free_pcall hadd rfl rfl ?_
        simp -implicitDefEqProofs [↓gd_tt, ↓gd_ff, ↓gd_tf, ↓gd_ft, h, c1', c2, c3, keyOK3, hf]
        refine any_endU (m := 8) ?e3 (by simp) (fun K0 hK0 => ?_) ?_
        case refine_1 =>
          simp -implicitDefEqProofs [↓gd_tt, ↓gd_ff, ↓gd_tf, ↓gd_ft, ag_zero, ag_succ, al_nil, al_cons, List.replicate]
          exact hK0
        simp -implicitDefEqProofs [↓gd_tt, ↓gd_ff, ↓gd_tf, ↓gd_ft, h, c1', c2, c3, keyOK3, hf]
        refine ⟨i + 1, ⟨by omega, hnext⟩, by omega, ⟨by rw [hrn], hwi⟩, hltA _, by rw [hrn]; simp [len_put, hin], ?_⟩
        rw [hrn]; exact hmod (lookA A ls[i].q) A 0 hin
      · exfalso
        rw [hlk0 hin] at hg
        simp only [Int.zero_add] at hg
        exact hg hgc
  · have htk : ls.take i = ls := by rw [h]; exact List.take_length
    rw [htk] at hok hrun
    have hov := over_iff hok
    have hany : ls.any (fun x => !okLe x) = false := List.any_eq_false.2 fun x hx' => by rw [hok x hx']; decide
    have hidl : (runA ls).1.length ≤ ls.length := hrun.len
    have hrng : ∀ q ∈ (runA ls).1.map (·.1), In64 q := fun q hq' => by
      obtain ⟨x, hx', rfl⟩ := (hrun.mem q).1 hq'
      exact hq x hx'
    have hnm := numMap_A hrun.nodup hrng (by omega)
    have hsk : sortedKeys (encA 0 (runA ls).1) = idsL ls := by unfold sortedKeys idsL; rw [encA_keys]
    have hsum := hrun.sums
    have hmem := hrun.mem
    have hidm : ∀ q, q ∈ idsL ls → q ∈ (runA ls).1.map (·.1) := fun q hq' => by
      rw [hmem]; exact (idsL_mem hok).1 hq'
    have hf := fun q => encA_find q (runA ls).1 0 0
    have hidn : (idsL ls).length = (runA ls).1.length := by unfold idsL; simp
    simp -implicitDefEqProofs [↓gd_tt, ↓gd_ff, ↓gd_tf, ↓gd_ft, h]
    generalize hr : runA ls = s at *
    obtain ⟨A, ov⟩ := s
    simp only at hov hidl hrng hnm hsk hsum hmem hidm hf hidn
    refine ⟨fun e => ?_, fun e => ?_⟩
    · have e2 : ls.any (fun x => !goodP (sumL ls x.q)) = true := by rw [← hov]; exact e
      have hE : vusesE ls = 2 := by unfold vusesE; rw [hany, e2]; rfl
      have : vusesV ls = .tup [.nil 3, .d (I 2)] := by unfold vusesV; rw [hE]; rfl
      rw [this]; simp
    · have e2 : ls.any (fun x => !goodP (sumL ls x.q)) = false := by rw [← hov]; exact e
      have hE : vusesE ls = 0 := by unfold vusesE; rw [hany, e2]; rfl
      have hv : vusesV ls = .tup [.d (.sl false 3 ((usesL ls).map encU)), .d (I 0)] := by unfold vusesV; rw [hE]; rfl
      rw [hv]
      have hsum := hsum e
      have hul : (usesL ls).length = (idsL ls).length := by simp [usesL]
      have hug : ∀ j (h : j < (idsL ls).length), (usesL ls)[j]'(by omega) = ⟨(idsL ls)[j], (sumL ls (idsL ls)[j]).1, (sumL ls (idsL ls)[j]).2⟩ := fun j h => by simp [usesL]
      have hil : (idsL ls).length ≤ maxLen := by omega
      refine vkeys_spec 0 _ _ ?_
      simp -implicitDefEqProofs [↓gd_tt, ↓gd_ff, ↓gd_tf, ↓gd_ft]
      refine sortedKeys_spec (id := 1) (m := 0) (clock := A.length) (es := encA 0 A) rfl rfl hnm ?_
      by_cases hA : A = []
      · have hid0 : idsL ls = [] := List.length_eq_zero_iff.1 (by rw [hidn, hA]; rfl)
        have he0 : encA 0 A = [] := by rw [hA]; rfl
        rw [if_pos he0]
        simp -implicitDefEqProofs [↓gd_tt, ↓gd_ff, ↓gd_tf, ↓gd_ft]
        refine loopA mixed [false, false, false, false, false, false, false, false, false, false, true, false, true, false, false, false, false, false, false, false, false, false, false, false, false, false, false, false, false, false, false, false, false, false, false, false, false, false, false, false, false, false, false, false, false, false, false, false, false, false, false, false, false, false, false, false, false, false, false, false, true, true, true, true, true, true, true, true, true, true, true, true, true] (fun (j : Nat) => [(60, .d (I j)), (58, .own 1 ((idsL ls).map fun n => .int .i64 n)), (59, .d (I (idsL ls).length)), (10, .own 3 (((usesL ls).take j).map encU))]) (fun (j : Nat) => [.map A.length (encA 0 A), .var [.map 0]]) (fun (j : Nat) => j ≤ (idsL ls).length) (fun (j : Nat) => (idsL ls).length - j) (0) (Nat.zero_le _) (by simp [hid0, encA_lt]) ?_
        rintro j hx
        rcases Nat.lt_or_eq_of_le hx with hj | hj
        · have hk := hidm _ (List.getElem_mem hj)
          have hfj := hf (idsL ls)[j]
          rw [if_pos hk, hsum] at hfj
          simp only [Nat.zero_add] at hfj
          have hb8 : (j + 1) * 24 ≤ 140737488355328 := by omega
          have hmin : min j (usesL ls).length = j := by omega
          simp -implicitDefEqProofs [↓gd_tt, ↓gd_ff, ↓gd_tf, ↓gd_ft, hj, hfj, keyOK3, wrap1 hil hj, hb8, hmin]
          refine ⟨j + 1, by omega, by omega, ⟨?_, rfl⟩, encA_lt A 0⟩
          rw [List.take_add_one, List.getElem?_eq_getElem (by simp; omega), Option.toList_some, List.getElem_map, hug j hj]
          rfl
        · simp -implicitDefEqProofs [↓gd_tt, ↓gd_ff, ↓gd_tf, ↓gd_ft, hj]
          exact List.take_of_length_le (by simp; omega)
      · have hne : encA 0 A ≠ [] := fun e => hA (by cases A with | nil => rfl | cons p r => cases e)
        rw [if_neg hne, hsk]
        simp -implicitDefEqProofs [↓gd_tt, ↓gd_ff, ↓gd_tf, ↓gd_ft]
        have hid0 : True := trivial
        refine loopA mixed [false, false, false, false, false, false, false, false, false, false, true, false, true, false, false, false, false, false, false, false, false, false, false, false, false, false, false, false, false, false, false, false, false, false, false, false, false, false, false, false, false, false, false, false, false, false, false, false, false, false, false, false, false, false, false, false, false, false, false, false, true, true, true, true, true, true, true, true, true, true, true, true, true] (fun (j : Nat) => [(60, .d (I j)), (58, .own 1 ((idsL ls).map fun n => .int .i64 n)), (59, .d (I (idsL ls).length)), (10, .own 3 (((usesL ls).take j).map encU))]) (fun (j : Nat) => [.map A.length (encA 0 A), .var [.map 0]]) (fun (j : Nat) => j ≤ (idsL ls).length) (fun (j : Nat) => (idsL ls).length - j) (0) (Nat.zero_le _) (by simp [hid0, encA_lt]) ?_
        rintro j hx
        rcases Nat.lt_or_eq_of_le hx with hj | hj
        · have hk := hidm _ (List.getElem_mem hj)
          have hfj := hf (idsL ls)[j]
          rw [if_pos hk, hsum] at hfj
          simp only [Nat.zero_add] at hfj
          have hb8 : (j + 1) * 24 ≤ 140737488355328 := by omega
          have hmin : min j (usesL ls).length = j := by omega
          simp -implicitDefEqProofs [↓gd_tt, ↓gd_ff, ↓gd_tf, ↓gd_ft, hj, hfj, keyOK3, wrap1 hil hj, hb8, hmin]
          refine ⟨j + 1, by omega, by omega, ⟨?_, rfl⟩, encA_lt A 0⟩
          rw [List.take_add_one, List.getElem?_eq_getElem (by simp; omega), Option.toList_some, List.getElem_map, hug j hj]
          rfl
        · simp -implicitDefEqProofs [↓gd_tt, ↓gd_ff, ↓gd_tf, ↓gd_ft, hj]
          exact List.take_of_length_le (by simp; omega)
end Go.Idl
