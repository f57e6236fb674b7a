/- The statement QueueTotals: what it computes. -/
import Derived.Test.YtdhifabhjlbjiaaQW
import Derived.Test.YtdhifabhjlbjiaaQJ
import Derived.Test.YtdhifabhjlbjiaaPT
set_option linter.all false
namespace Go.Idl
open Go.Proofs
set_option linter.unusedSimpArgs false
set_option linter.unusedVariables false
set_option maxRecDepth 8000

theorem eqV (a b c d : Int) : eqAt [.int .i64 a, .int .i64 b] [.int .i64 c, .int .i64 d] [(0, 0), (1, 0)] = some (decide (a = c ∧ b = d)) := by
  simp [eqAt]
theorem cnt_succ {l : List Q} {id : Int} {k : Nat} (h : k < l.length) : ((l.take (k + 1)).filter fun q => decide (q.Par = id)).length = ((l.take k).filter fun q => decide (q.Par = id)).length + (if l[k].Par = id then 1 else 0) := by
  rw [List.take_add_one, List.getElem?_eq_getElem h, Option.toList_some, List.filter_append, List.length_append]
  by_cases e : l[k].Par = id <;> simp [e]
theorem cnt_all (l : List Q) (id : Int) : (l.filter fun q => decide (q.Par = id)).length = (sonIds l id).length := by simp [sonIds]
set_option maxHeartbeats 4000000 in
theorem totals_spec (l : List Q) (uses : List U) (hl : l.length ≤ maxLen) (hr : l.length * 56 ≤ reachBytes) (hu : uses.length ≤ maxLen) (hur : uses.length * 24 ≤ reachBytes) : PCall Try.prog 13 [encL false l, encUs false uses] (.d (.bool true)) := by
  refine pcallS (fn := Try.f13) [] [(32, 9), (33, 9)] mixed (bodyOf Try.f13) [.tmp 4] Try.func13 rfl rfl (by decide) 157 rfl (by kernel_rfl) ?_
  simp -implicitDefEqProofs [↓gd_tt, ↓gd_ff, ↓gd_tf, ↓gd_ft, bodyOf, Try.f13, stripC, stripL, stripM, onsOf, upto, hintOf, freeOf, List.replicate]
  refine callK_pcall awake_spec rfl rfl ?_
  simp -implicitDefEqProofs [↓gd_tt, ↓gd_ff, ↓gd_tf, ↓gd_ft]
  by_cases hs : sumsE l uses = 0
  case neg =>
    have hv : sumsV l uses = .tup [.nil 2, .d (I (sumsE l uses))] := by simp [sumsV, hs]
    refine callK_pcall (qsums_spec false false l uses hl hu) rfl (by rw [hv]; rfl) ?_
    rw [hv]
    simp -implicitDefEqProofs [↓gd_tt, ↓gd_ff, ↓gd_tf, ↓gd_ft, hs]
  have hv : sumsV l uses = .tup [.d (encVs false (sumsL l uses)), .d (I 0)] := by simp [sumsV, hs]
  obtain ⟨hc, hu0, ho⟩ := sumsE_zero.1 hs
  have hf := check_form hc
  have h64 := check_len hc
  have hg := goods_of hu0
  have hsl : (sumsL l uses).length = l.length := by simp [sumsL]
  have htot : ∀ j (h : j < l.length), ((tot l uses l[j].Id).1 ≤ 1099511627776 ∧ 0 ≤ (tot l uses l[j].Id).1) ∧ (tot l uses l[j].Id).2 ≤ 1099511627776 ∧ 0 ≤ (tot l uses l[j].Id).2 := fun j h => by
    have := good_iff.1 (overs_iff.1 ho _ (List.getElem_mem h)); omega
  have hroot := tot_root hf hu0
  have ht0 := htot 0 h64.1
  rw [(form_root hf h64.1).1, hroot] at ht0
  simp only at ht0
  have hgc : ∀ u ∈ uses, 0 ≤ u.c := fun u h => (good_iff.1 (hg u h)).1.1
  have hgm : ∀ u ∈ uses, 0 ≤ u.m := fun u h => (good_iff.1 (hg u h)).2.1
  refine callK_pcall (qsums_spec false false l uses hl hu) rfl (by rw [hv]; rfl) ?_
  rw [hv]
  simp -implicitDefEqProofs [↓gd_tt, ↓gd_ff, ↓gd_tf, ↓gd_ft, hsl]
  refine loopA mixed [false, false, false, false, false, false, false, false, false, true, false, false, false, false, false, false, false, false, false, false, false, false, false, false, false, false, false, false, false, false, false, false, false, false, false, false, false, false, false, true, true, true, true, true, true, true, true, true, true, true, true, true, true, true, true, true, true, true] (fun (i : Nat) => [(39, .d (I i))]) (fun (i : Nat) => [.var [.d (I (sumI (fun u => u.c) (uses.take i))), .d (I (sumI (fun u => u.m) (uses.take i)))]]) (fun (i : Nat) => i ≤ uses.length) (fun (i : Nat) => uses.length - i) (0) (Nat.zero_le _) (by simp [sumI]) ?_
  rintro i hx
  rcases Nat.lt_or_eq_of_le hx with h | h
  · have b1 := sumI_take_le (f := fun u : U => u.c) hgc (i + 1)
    have b2 := sumI_take_le (f := fun u : U => u.m) hgm (i + 1)
    have b3 := sumI_nonneg (f := fun u : U => u.c) (l := uses.take (i + 1)) fun u hu' => hgc u (List.mem_of_mem_take hu')
    have b4 := sumI_nonneg (f := fun u : U => u.m) (l := uses.take (i + 1)) fun u hu' => hgm u (List.mem_of_mem_take hu')
    rw [sumI_take_succ _ h] at b1 b2 b3 b4
    have w1 : IntKind.i64.wrap (sumI (fun u => u.c) (uses.take i) + uses[i].c) = sumI (fun u => u.c) (uses.take i) + uses[i].c := by rw [wrap_i64 (by omega) (by omega)]
    have w2 : IntKind.i64.wrap (sumI (fun u => u.m) (uses.take i) + uses[i].m) = sumI (fun u => u.m) (uses.take i) + uses[i].m := by rw [wrap_i64 (by omega) (by omega)]
    simp -implicitDefEqProofs [↓gd_tt, ↓gd_ff, ↓gd_tf, ↓gd_ft, h, w1, w2, wrap1 hu h]
    refine ⟨i + 1, by omega, by omega, rfl, ?_⟩
    rw [sumI_take_succ _ h, sumI_take_succ _ h]
    simp
  simp -implicitDefEqProofs [↓gd_tt, ↓gd_ff, ↓gd_tf, ↓gd_ft, h]
  refine loopA mixed [false, false, false, false, true, false, false, false, false, false, true, true, true, true, true, false, true, true, true, false, false, false, false, false, false, false, false, false, false, false, false, false, false, false, false, false, false, false, false, false, false, false, false, false, false, false, false, false, false, false, false, false, false, false, false, false, false, false, false, false, true, true, true, true, true, true, true, true, true, true, true, true, true, true, true, true, true, true, true, true, true, true, true, true, true, true, true, true, true, true, true, true, true, true, true, true, true, true, true, true, true, true, true, true, true, true, true, true, true, true, true, true, true, true, true, true, true, true, true, true, true, true, true, true, true, true, true, true, true, true, true, true, true, true, true, true, true, true, true, true, true, true, true, true, true, true, true, true, true, true, true, true, true, true, true, true, true, true, true] (fun (i : Nat) => [(60, .d (I i))]) (fun (i : Nat) => [.var [.d (I (sumI (fun u => u.c) uses)), .d (I (sumI (fun u => u.m) uses))]]) (fun (i : Nat) => i ≤ l.length) (fun (i : Nat) => l.length - i) (0) (Nat.zero_le _) (by simp) ?_
  rintro i hx
  rcases Nat.lt_or_eq_of_le hx with h | h
  case inr => simp -implicitDefEqProofs [↓gd_tt, ↓gd_ff, ↓gd_tf, ↓gd_ft, h]
  have hq := has_at h
  have hti := htot i h
  have o1 : ∀ u ∈ uses, (if u.q = l[i].Id then u.c else 0) ≤ atC l l[i].Id u := fun u hu' => by
    have := hgc u hu'
    by_cases e : u.q = l[i].Id
    · have : l[i].Id ∈ path l u.q := by rw [e]; exact path_self hf hq
      simp [atC, e, path_self hf hq]
    · rw [if_neg e]; unfold atC; split <;> omega
  have o2 : ∀ u ∈ uses, (if u.q = l[i].Id then u.m else 0) ≤ atM l l[i].Id u := fun u hu' => by
    have := hgm u hu'
    by_cases e : u.q = l[i].Id
    · simp [atM, e, path_self hf hq]
    · rw [if_neg e]; unfold atM; split <;> omega
  have o3 := sumI_le o1
  have o4 := sumI_le o2
  have o5 := tot_sum l uses l[i].Id
  have o6 : ∀ u ∈ uses, 0 ≤ (if u.q = l[i].Id then u.c else 0) := fun u hu' => by have := hgc u hu'; split <;> omega
  have o7 : ∀ u ∈ uses, 0 ≤ (if u.q = l[i].Id then u.m else 0) := fun u hu' => by have := hgm u hu'; split <;> omega
  rw [o5] at hti
  simp only at hti
  simp -implicitDefEqProofs [↓gd_tt, ↓gd_ff, ↓gd_tf, ↓gd_ft, h]
  refine loopA mixed [false, false, false, false, false, false, false, false, false, false, false, false, false, false, false, false, true, false, false, false, false, false, false, false, false, false, false, false, false, false, false, false, false, false, false, false, false, false, false, false, false, false, false, false, false, false, false, false, false, false, false, false, false, false, false, false, false, false, false, false, false, false, false, false, false, false, false, true, true, true, true, true, true, true, true, true, true, true, true, true, true, true, true, true, true, true, true, true, true, true, true] (fun (k : Nat) => [(67, .d (I k))]) (fun (k : Nat) => [.var [.d (I (sumI (fun u => u.c) uses)), .d (I (sumI (fun u => u.m) uses))], .var [.d (I l[i].Id), .d (I l[i].Par), .d (I l[i].Wt), .d (I l[i].QC), .d (I l[i].QM), .d (I l[i].MC), .d (I l[i].MM)], .var [.d (I (sumI (fun u => if u.q = l[i].Id then u.c else 0) (uses.take k))), .d (I (sumI (fun u => if u.q = l[i].Id then u.m else 0) (uses.take k)))], .var [.d (I 0), .d (I 0)]]) (fun (k : Nat) => k ≤ uses.length) (fun (k : Nat) => uses.length - k) (0) (Nat.zero_le _) (by simp [sumI]) ?_
  rintro k hx
  rcases Nat.lt_or_eq_of_le hx with h' | h'
  · have b1 := sumI_take_le o6 (k + 1)
    have b2 := sumI_take_le o7 (k + 1)
    have b3 := sumI_nonneg (l := uses.take (k + 1)) fun u hu' => o6 u (List.mem_of_mem_take hu')
    have b4 := sumI_nonneg (l := uses.take (k + 1)) fun u hu' => o7 u (List.mem_of_mem_take hu')
    rw [sumI_take_succ _ h'] at b1 b2 b3 b4
    by_cases e : uses[k].q = l[i].Id
    · rw [if_pos e] at b1 b2 b3 b4
      have w1 : IntKind.i64.wrap (sumI (fun u => if u.q = l[i].Id then u.c else 0) (uses.take k) + uses[k].c) = sumI (fun u => if u.q = l[i].Id then u.c else 0) (uses.take k) + uses[k].c := by rw [wrap_i64 (by omega) (by omega)]
      have w2 : IntKind.i64.wrap (sumI (fun u => if u.q = l[i].Id then u.m else 0) (uses.take k) + uses[k].m) = sumI (fun u => if u.q = l[i].Id then u.m else 0) (uses.take k) + uses[k].m := by rw [wrap_i64 (by omega) (by omega)]
      simp -implicitDefEqProofs [↓gd_tt, ↓gd_ff, ↓gd_tf, ↓gd_ft, h', e, w1, w2, wrap1 hu h']
      refine ⟨k + 1, by omega, by omega, rfl, ?_⟩
      rw [sumI_take_succ _ h', sumI_take_succ _ h', if_pos e, if_pos e]
      simp
    · simp -implicitDefEqProofs [↓gd_tt, ↓gd_ff, ↓gd_tf, ↓gd_ft, h', e, wrap1 hu h']
      refine ⟨k + 1, by omega, by omega, rfl, ?_⟩
      rw [sumI_take_succ _ h', sumI_take_succ _ h', if_neg e, if_neg e]
      simp
  simp -implicitDefEqProofs [↓gd_tt, ↓gd_ff, ↓gd_tf, ↓gd_ft, h']
  have c1 : ∀ q ∈ l, 0 ≤ (if q.Par = l[i].Id then (tot l uses q.Id).1 else 0) := fun q _ => by have := (tot_nonneg (l := l) hg q.Id).1; split <;> omega
  have c2 : ∀ q ∈ l, 0 ≤ (if q.Par = l[i].Id then (tot l uses q.Id).2 else 0) := fun q _ => by have := (tot_nonneg (l := l) hg q.Id).2; split <;> omega
  have c3 : sumI (fun q : Q => if q.Par = l[i].Id then (tot l uses q.Id).1 else 0) l ≤ 1099511627776 ∧ sumI (fun q : Q => if q.Par = l[i].Id then (tot l uses q.Id).2 else 0) l ≤ 1099511627776 := by
    by_cases hs0 : sonIds l l[i].Id = []
    · have hz : ∀ q ∈ l, ¬ q.Par = l[i].Id := fun q hq' e => by
        have : q.Id ∈ sonIds l l[i].Id := by
          unfold sonIds
          exact List.mem_map.2 ⟨q, List.mem_filter.2 ⟨hq', by simpa using e⟩, rfl⟩
        rw [hs0] at this; cases this
      rw [sumI_zero fun q hq' => if_neg (hz q hq'), sumI_zero fun q hq' => if_neg (hz q hq')]
      decide
    · have e := tot_sons hf hq hs0 hu0
      have := htot i h
      rw [e] at this
      simp only at this; omega
  refine loopA mixed [false, false, false, false, false, false, false, false, false, false, false, false, false, false, true, false, false, true, true, false, false, false, false, false, false, false, false, false, false, false, false, false, false, false, false, false, false, false, false, false, false, false, false, false, false, false, false, false, false, false, false, false, false, false, false, false, false, false, false, false, false, false, false, false, false, false, false, false, false, false, false, false, false, false, false, false, false, false, false, false, false, false, false, false, false, false, false, false, false, false, false, false, false, true, true, true, true, true, true, true, true, true, true, true, true, true, true, true, true, true, true, true, true, true, true, true, true, true, true, true, true, true, true, true] (fun (k : Nat) => [(14, .d (I ((l.take k).filter fun q => decide (q.Par = l[i].Id)).length)), (93, .d (I k))]) (fun (k : Nat) => [.var [.d (I (sumI (fun u => u.c) uses)), .d (I (sumI (fun u => u.m) uses))], .var [.d (I l[i].Id), .d (I l[i].Par), .d (I l[i].Wt), .d (I l[i].QC), .d (I l[i].QM), .d (I l[i].MC), .d (I l[i].MM)], .var [.d (I (sumI (fun u => if u.q = l[i].Id then u.c else 0) uses)), .d (I (sumI (fun u => if u.q = l[i].Id then u.m else 0) uses))], .var [.d (I (sumI (fun q : Q => if q.Par = l[i].Id then (tot l uses q.Id).1 else 0) (l.take k))), .d (I (sumI (fun q : Q => if q.Par = l[i].Id then (tot l uses q.Id).2 else 0) (l.take k)))]]) (fun (k : Nat) => k ≤ l.length) (fun (k : Nat) => l.length - k) (0) (Nat.zero_le _) (by simp [sumI]) ?_
  rintro k hx
  rcases Nat.lt_or_eq_of_le hx with h' | h'
  · have b1 := sumI_take_le c1 (k + 1)
    have b2 := sumI_take_le c2 (k + 1)
    have b3 := sumI_nonneg (l := l.take (k + 1)) fun q hq' => c1 q (List.mem_of_mem_take hq')
    have b4 := sumI_nonneg (l := l.take (k + 1)) fun q hq' => c2 q (List.mem_of_mem_take hq')
    rw [sumI_take_succ _ h'] at b1 b2 b3 b4
    have hsl2 : k < (sumsL l uses).length := by omega
    have hval : (sumsL l uses)[k] = tot l uses l[k].Id := by simp [sumsL]
    have hcn := cnt_succ (id := l[i].Id) h'
    have hcl : ((l.take k).filter fun q => decide (q.Par = l[i].Id)).length ≤ k := by
      have := List.length_filter_le (fun q : Q => decide (q.Par = l[i].Id)) (l.take k)
      simp at this; omega
    by_cases e : l[k].Par = l[i].Id
    · rw [if_pos e] at b1 b2 b3 b4 hcn
      have w1 : IntKind.i64.wrap (sumI (fun q : Q => if q.Par = l[i].Id then (tot l uses q.Id).1 else 0) (l.take k) + (tot l uses l[k].Id).1) = sumI (fun q : Q => if q.Par = l[i].Id then (tot l uses q.Id).1 else 0) (l.take k) + (tot l uses l[k].Id).1 := by rw [wrap_i64 (by omega) (by omega)]
      have w2 : IntKind.i64.wrap (sumI (fun q : Q => if q.Par = l[i].Id then (tot l uses q.Id).2 else 0) (l.take k) + (tot l uses l[k].Id).2) = sumI (fun q : Q => if q.Par = l[i].Id then (tot l uses q.Id).2 else 0) (l.take k) + (tot l uses l[k].Id).2 := by rw [wrap_i64 (by omega) (by omega)]
      have w3 : IntKind.i64.wrap ((((l.take k).filter fun q => decide (q.Par = l[i].Id)).length : Int) + 1) = (((l.take k).filter fun q => decide (q.Par = l[i].Id)).length : Int) + 1 := by rw [wrap_i64 (by omega) (by omega)]
      simp -implicitDefEqProofs [↓gd_tt, ↓gd_ff, ↓gd_tf, ↓gd_ft, h', e, hsl2, hval, w1, w2, w3, wrap1 hl h']
      refine ⟨k + 1, by omega, by omega, ⟨by omega, rfl⟩, ?_, ?_⟩
      · rw [sumI_take_succ _ h', if_pos e]
      · rw [sumI_take_succ _ h', if_pos e]
    · rw [if_neg e] at b1 b2 b3 b4 hcn
      simp -implicitDefEqProofs [↓gd_tt, ↓gd_ff, ↓gd_tf, ↓gd_ft, h', e, wrap1 hl h']
      refine ⟨k + 1, by omega, by omega, ⟨by omega, rfl⟩, ?_, ?_⟩
      · rw [sumI_take_succ _ h', if_neg e]; simp
      · rw [sumI_take_succ _ h', if_neg e]; simp
  have hsl3 : i < (sumsL l uses).length := by omega
  have hvi : (sumsL l uses)[i] = tot l uses l[i].Id := by simp [sumsL]
  have hk0 : List.take k l = l := by rw [h', List.take_length]
  have hleaf : (l.filter fun q => decide (q.Par = l[i].Id)).length = 0 → tot l uses l[i].Id = (sumI (fun u => if u.q = l[i].Id then u.c else 0) uses, sumI (fun u => if u.q = l[i].Id then u.m else 0) uses) := fun e => by
    rw [cnt_all] at e
    exact tot_leaf hf (List.length_eq_zero_iff.1 e) hu0
  have hsons : 0 < (l.filter fun q => decide (q.Par = l[i].Id)).length → tot l uses l[i].Id = (sumI (fun q : Q => if q.Par = l[i].Id then (tot l uses q.Id).1 else 0) l, sumI (fun q : Q => if q.Par = l[i].Id then (tot l uses q.Id).2 else 0) l) := fun e => by
    rw [cnt_all] at e
    exact tot_sons hf hq (fun k => by rw [k] at e; simp at e) hu0
  have hroot2 : i = 0 → tot l uses l[i].Id = (sumI (fun u => u.c) uses, sumI (fun u => u.m) uses) := by
    rintro rfl
    rw [(form_root hf h64.1).1]; exact hroot
  simp only [hk0]
  generalize (l.filter fun q => decide (q.Par = l[i].Id)).length = n at hleaf hsons ⊢
  generalize sumI (fun q : Q => if q.Par = l[i].Id then (tot l uses q.Id).1 else 0) l = s1 at hsons ⊢
  generalize sumI (fun q : Q => if q.Par = l[i].Id then (tot l uses q.Id).2 else 0) l = s2 at hsons ⊢
  generalize sumI (fun u => if u.q = l[i].Id then u.c else 0) uses = p1 at hleaf ⊢
  generalize sumI (fun u => if u.q = l[i].Id then u.m else 0) uses = p2 at hleaf ⊢
  generalize sumI (fun u => u.c) uses = a1 at hroot2 ⊢
  generalize sumI (fun u => u.m) uses = a2 at hroot2 ⊢
  generalize tot l uses l[i].Id = T at hvi hleaf hsons hroot2
  obtain ⟨t1, t2⟩ := T
  have hend : ∃ j, j ≤ l.length ∧ l.length - j < l.length - i ∧ i + 1 = j := ⟨i + 1, by omega, by omega, rfl⟩
  rcases Nat.eq_zero_or_pos n with rfl | hn
  · have e := hleaf rfl
    rw [Prod.mk.injEq] at e
    obtain ⟨rfl, rfl⟩ := e
    by_cases hi0 : i = 0
    · have e := hroot2 hi0
      rw [Prod.mk.injEq] at e
      obtain ⟨rfl, rfl⟩ := e
      subst hi0
      have hw := wrap1 hl h
      simp at hw
      simp -implicitDefEqProofs [↓gd_tt, ↓gd_ff, ↓gd_tf, ↓gd_ft, h', hsl3, hvi, eqV, hw, h]
      omega
    · have hi1 : ¬ ((i : Int) = 0) := by omega
      simp -implicitDefEqProofs [↓gd_tt, ↓gd_ff, ↓gd_tf, ↓gd_ft, h', hsl3, hvi, eqV, wrap1 hl h, hi0, hi1]
      omega
  · have e := hsons hn
    rw [Prod.mk.injEq] at e
    obtain ⟨rfl, rfl⟩ := e
    have hn0 : ¬ n = 0 := by omega
    by_cases hi0 : i = 0
    · have e := hroot2 hi0
      rw [Prod.mk.injEq] at e
      obtain ⟨rfl, rfl⟩ := e
      subst hi0
      have hw := wrap1 hl h
      simp at hw
      simp -implicitDefEqProofs [↓gd_tt, ↓gd_ff, ↓gd_tf, ↓gd_ft, h', hsl3, hvi, eqV, hw, h, hn, hn0]
      omega
    · have hi1 : ¬ ((i : Int) = 0) := by omega
      simp -implicitDefEqProofs [↓gd_tt, ↓gd_ff, ↓gd_tf, ↓gd_ft, h', hsl3, hvi, eqV, wrap1 hl h, hi0, hi1, hn, hn0]
      omega
end Go.Idl
