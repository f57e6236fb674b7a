/- The document's audit: nodes, leases, times.; The document's audit: Check.; The document's answer for queues: Add.; What the statements on queues themselves compute: same, Ints, Has.; The statements on audits: states twinned and compared.; The program's audit: the makers of what it ranges over.; The program's audit: cores that stand in two leases. -/
import Derived.Test.YtkfpaffcglijeaaPart14
import Derived.Test.YtkfpaffcglijeaaPart16
import Derived.Test.YtkfpaffcglijeaaPart13
set_option linter.all false
section
namespace Go.Idl
open Go.Proofs
set_option linter.unusedSimpArgs false
set_option linter.unusedVariables false
set_option maxRecDepth 8000
set_option maxHeartbeats 2000000
variable (b : Bool)

theorem onN_take {id : Int} {ls : List Le} {i : Nat} (h : i < ls.length) : onN id (ls.take (i + 1)) = onN id (ls.take i) ++ if ls[i].n = id then [ls[i]] else [] := by
  unfold onN
  rw [filter_take h]
  simp
theorem rwrong_spec (s : Sta) (n : Nd) (hl6 : s.ls.length ≤ 1000000) (hw1 : ∀ x ∈ s.ls, x.cs.length ≤ maxLen) (hw2 : ∀ x ∈ s.ls, In64 x.m) (hm : In64 n.m) : PCall Try.prog 54 [encSt b s, encNd n] (.d (.bool (wrongN s.ls n))) := by
  have hll := small6 hl6
  have hM : ∀ i, ((onN n.id (s.ls.take i)).map (·.m)).length ≤ i := fun i => by
    unfold onN
    exact Nat.le_trans (filtmap_len2 _ _ _) (by simp; omega)
  refine pcallS (fn := Try.f54) [] [] mixed (bodyOf Try.f54) [.tmp 4] Try.func54 rfl rfl (by decide) 65 rfl (by kernel_rfl) ?_
  simp -implicitDefEqProofs [↓gd_tt, ↓gd_ff, ↓gd_tf, ↓gd_ft, bodyOf, Try.f54, stripC, stripL, stripM, onsOf, upto, hintOf, freeOf, List.replicate]
  refine loopA mixed [false, false, false, false, true, true, false, true, true, true, false, false, false, true, true, true, true, true, true, true, true, true, true, true, true, true, true, true, true, true, true, true, true, true, true, true, true, true, true, true, true, true, true, true, true, true, true, true, true, true, true, true, true, true, true, true, true, true, true, true, true, true] (fun (i : Nat) => [(5, .own 1 (((onN n.id (s.ls.take i)).map (·.m)).map I)), (13, .d (I i))]) (fun (i : Nat) => [stD b s, .var ((encNd n).flat.map V.d)]) (fun (i : Nat) => i ≤ s.ls.length ∧ (onN n.id (s.ls.take i)).any (badLe n) = false) (fun (i : Nat) => s.ls.length - i) (0) (⟨Nat.zero_le _, by simp [onN]⟩) (by simp [onN]) ?_
  rintro i hx
  obtain ⟨hi, hany⟩ := hx
  rcases Nat.lt_or_eq_of_le hi with h | h
  · have hwi := wrap1 hll h
    have e1 := onN_take (id := n.id) h
    have l1 := hM i
    have hmem := List.getElem_mem h
    have hcl := hw1 _ hmem
    have hwr : s.ls[i].n = n.id → badLe n s.ls[i] = true → wrongN s.ls n = true := fun e1 e => by
      have hin : s.ls[i] ∈ onN n.id s.ls := List.mem_filter.2 ⟨hmem, by simpa using e1⟩
      unfold wrongN
      rw [List.any_eq_true.2 ⟨s.ls[i], hin, e⟩]; rfl
    generalize onN n.id (s.ls.take i) = L at *
    generalize hx : s.ls[i] = x at *
    have b1 : ((L.map (·.m)).length + 1) * 8 ≤ 140737488355328 := by omega
    simp only [List.length_map] at b1
    by_cases hxn : x.n = n.id
    case neg =>
      rw [if_neg hxn, List.append_nil] at e1
      simp -implicitDefEqProofs [↓gd_tt, ↓gd_ff, ↓gd_tf, ↓gd_ft, h, hx, hxn, hwi]
      exact ⟨i + 1, ⟨by omega, by rw [e1]; simpa using hany⟩, by omega, by rw [e1], rfl⟩
    rw [if_pos hxn] at e1
    have hwr := hwr hxn
    simp -implicitDefEqProofs [↓gd_tt, ↓gd_ff, ↓gd_tf, ↓gd_ft, h, hx, hxn, b1]
    by_cases hc0 : x.cs = []
    · simp -implicitDefEqProofs [↓gd_tt, ↓gd_ff, ↓gd_tf, ↓gd_ft, hc0]
      exact hwr (by simp [badLe, hc0])
    by_cases hm0 : x.m < 0
    · have hcl0 : ¬ x.cs.length = 0 := by rw [List.length_eq_zero_iff]; exact hc0
      have hwt := hwr (by simp [badLe, hm0])
      simp -implicitDefEqProofs [↓gd_tt, ↓gd_ff, ↓gd_tf, ↓gd_ft, hc0, hcl0, hm0, hwt, show ¬ 0 ≤ x.m by omega]
    have hcl0 : ¬ x.cs.length = 0 := by rw [List.length_eq_zero_iff]; exact hc0
    simp -implicitDefEqProofs [↓gd_tt, ↓gd_ff, ↓gd_tf, ↓gd_ft, hc0, hcl0, hm0, show 0 ≤ x.m by omega]
    refine loopA mixed [false, false, false, false, true, false, false, false, true, true, false, false, false, false, false, false, false, false, false, false, false, false, false, false, false, false, false, false, false, false, false, false, false, false, false, false, false, false, false, true, true, true, true, true, true, true, true, true, true, true, true, true, true, true, true, true, true, true, true, true, true] (fun (j : Nat) => [(39, .d (I j))]) (fun (j : Nat) => [stD b s, .var ((encNd n).flat.map V.d), .var ((encLf b x).flat.map V.d)]) (fun (j : Nat) => j ≤ x.cs.length ∧ badCs n (x.cs.take j) = false) (fun (j : Nat) => x.cs.length - j) (0) (⟨Nat.zero_le _, by simp [badCs]⟩) (by simp [hxn]) ?_
    rintro j hx
    obtain ⟨hj, hbj⟩ := hx
    rcases Nat.lt_or_eq_of_le hj with hjl | hjl
    · have hst := badCs_take (n := n) hjl
      rw [hbj, Bool.false_or] at hst
      have hwj := wrap1 hcl hjl
      have hbd : badCs n (x.cs.take (j + 1)) = true → wrongN s.ls n = true := fun e => hwr (by unfold badLe; rw [badCs_mono e]; rfl)
      by_cases h1 : x.cs[j] < 0
      · have := hbd (by rw [hst]; simp [h1])
        simp -implicitDefEqProofs [↓gd_tt, ↓gd_ff, ↓gd_tf, ↓gd_ft, hjl, h1, this]
      by_cases h2 : n.k ≤ x.cs[j]
      · have := hbd (by rw [hst]; simp [h2])
        simp -implicitDefEqProofs [↓gd_tt, ↓gd_ff, ↓gd_tf, ↓gd_ft, hjl, h1, h2, this]
      simp -implicitDefEqProofs [↓gd_tt, ↓gd_ff, ↓gd_tf, ↓gd_ft, hjl, h1, h2]
      have hn := nhas_spec b (x.cs.take j) x.cs[j] (by simp; omega)
      refine ⟨hj, callK_pcall hn (by simp [List.map_take]) rfl ?_⟩
      by_cases h3 : x.cs[j] ∈ x.cs.take j
      · have := hbd (by rw [hst]; simp [h3])
        simp -implicitDefEqProofs [↓gd_tt, ↓gd_ff, ↓gd_tf, ↓gd_ft, hjl, h1, h2, h3, this]
      · simp -implicitDefEqProofs [↓gd_tt, ↓gd_ff, ↓gd_tf, ↓gd_ft, hjl, h1, h2, h3, hwj]
        exact ⟨⟨by omega, by rw [hst]; simp [h1, h2, h3]⟩, by omega⟩
    · have htj : x.cs.take j = x.cs := by rw [hjl]; exact List.take_length
      rw [htj] at hbj
      have hbl : badLe n x = false := by simp [badLe, hbj, hc0]; omega
      simp -implicitDefEqProofs [↓gd_tt, ↓gd_ff, ↓gd_tf, ↓gd_ft, hjl, hwi]
      exact ⟨i + 1, ⟨by omega, by rw [e1]; intro y hy; rcases List.mem_append.1 hy with hy | hy; exact (by simpa using List.any_eq_false.1 hany y hy); simp at hy; subst hy; exact hbl⟩, by omega, by rw [e1]; simp, rfl⟩
  · have ht : s.ls.take s.ls.length = s.ls := List.take_length
    rw [h, ht] at hany
    have l1 := hM s.ls.length
    rw [ht] at l1
    have a1 := rat_spec false ((onN n.id s.ls).map (·.m)) n.m (by omega) (fun y hy => by
      obtain ⟨x, hx, rfl⟩ := List.mem_map.1 hy
      exact hw2 x (List.mem_filter.1 hx).1) hm
    simp -implicitDefEqProofs [↓gd_tt, ↓gd_ff, ↓gd_tf, ↓gd_ft, h, ht]
    refine callK_pcall a1 (by simp) rfl ?_
    have hv : wrongN s.ls n = bey ((onN n.id s.ls).map (·.m)).sum n.m := by unfold wrongN; rw [hany]; rfl
    simp -implicitDefEqProofs [↓gd_tt, ↓gd_ff, ↓gd_tf, ↓gd_ft, hv]
/-- do two leases of a node have a core in common? -/
def touch (n : Nd) (x y : Le) : Bool := decide (x.n = n.id) && decide (y.n = n.id) && x.cs.any (fun c => decide (c ∈ y.cs))
theorem touch_yes {s : Sta} {n : Nd} {i j : Nat} (hi : i < s.ls.length) (hj : j < s.ls.length) (hji : j < i) (h : touch n s.ls[i] s.ls[j] = true) : twiceN s.ls n = true := by
  unfold twiceN
  simp only [Bool.not_eq_true', decide_eq_false_iff_not, apart_on]
  intro hA
  simp only [touch, Bool.and_eq_true, decide_eq_true_eq, List.any_eq_true] at h
  obtain ⟨⟨h1, h2⟩, c, h3, h4⟩ := h
  exact hA i j hi hj hji h1 h2 c h3 h4
theorem touch_no {s : Sta} {n : Nd} (h : ∀ i j (hi : i < s.ls.length) (hj : j < s.ls.length), j < i → touch n s.ls[i] s.ls[j] = false) : twiceN s.ls n = false := by
  unfold twiceN
  simp only [Bool.not_eq_false', decide_eq_true_eq, apart_on]
  intro i j hi hj hji h1 h2 c hc hc2
  have := h i j hi hj hji
  have h3 : touch n s.ls[i] s.ls[j] = true := by
    simp only [touch, Bool.and_eq_true, decide_eq_true_eq, List.any_eq_true]
    exact ⟨⟨h1, h2⟩, c, hc, hc2⟩
  rw [h3] at this; cases this
theorem rtwice_spec (s : Sta) (n : Nd) (hl6 : s.ls.length ≤ 1000000) (hw1 : ∀ x ∈ s.ls, x.cs.length ≤ maxLen) : PCall Try.prog 55 [encSt b s, encNd n] (.d (.bool (twiceN s.ls n))) := by
  have hll := small6 hl6
  refine pcallS (fn := Try.f55) [] [] mixed (bodyOf Try.f55) [.tmp 4] Try.func55 rfl rfl (by decide) 54 rfl (by kernel_rfl) ?_
  simp -implicitDefEqProofs [↓gd_tt, ↓gd_ff, ↓gd_tf, ↓gd_ft, bodyOf, Try.f55, stripC, stripL, stripM, onsOf, upto, hintOf, freeOf, List.replicate]
  refine loopA mixed [false, false, false, false, true, true, true, false, true, false, true, false, false, false, true, true, true, true, true, true, true, true, true, true, true, true, true, true, true, true, true, true, true, true, true, true, true, true, true, true, true, true, true, true, true, true, true, true, true, true, true, true, true, true, true, true] (fun (i : Nat) => [(14, .d (I i))]) (fun (i : Nat) => [stD b s, .var ((encNd n).flat.map V.d)]) (fun (i : Nat) => i ≤ s.ls.length ∧ ∀ p q (hp : p < s.ls.length) (hq : q < s.ls.length), p < i → q < p → touch n s.ls[p] s.ls[q] = false) (fun (i : Nat) => s.ls.length - i) (0) (⟨Nat.zero_le _, fun p q _ _ h => by omega⟩) (by simp) ?_
  rintro i hx
  obtain ⟨hi, hT⟩ := hx
  rcases Nat.lt_or_eq_of_le hi with h | h
  case inr =>
    have := touch_no (n := n) fun p q hp hq hqp => hT p q hp hq (by omega) hqp
    simp -implicitDefEqProofs [↓gd_tt, ↓gd_ff, ↓gd_tf, ↓gd_ft, h, this]
  have hwi := wrap1 hll h
  have hmin : min i s.ls.length = i := by omega
  have hcl := hw1 _ (List.getElem_mem h)
  simp -implicitDefEqProofs [↓gd_tt, ↓gd_ff, ↓gd_tf, ↓gd_ft, h, hmin]
  refine ⟨hi, ?_⟩
  refine loopA mixed [false, false, false, false, true, false, false, false, true, false, true, false, false, false, false, false, false, false, false, false, false, false, false, false, true, true, true, true, true, true, true, true, true, true, true, true, true, true, true, true, true, true, true, true, true, true, true, true, true, true, true, true, true, true, true] (fun (j : Nat) => [(24, .d (I j))]) (fun (j : Nat) => [stD b s, .var ((encNd n).flat.map V.d), .var ((encLf b s.ls[i]).flat.map V.d)]) (fun (j : Nat) => j ≤ i ∧ ∀ q (hq : q < s.ls.length), q < j → touch n s.ls[i] s.ls[q] = false) (fun (j : Nat) => i - j) (0) (⟨Nat.zero_le _, fun q _ h => by omega⟩) (by simp) ?_
  rintro j hx
  obtain ⟨hj, hT2⟩ := hx
  rcases Nat.lt_or_eq_of_le hj with hji | hji
  case inr =>
    simp -implicitDefEqProofs [↓gd_tt, ↓gd_ff, ↓gd_tf, ↓gd_ft, hji, hmin, hwi]
    refine ⟨⟨by omega, fun p q hp hq h1 h2 => ?_⟩, by omega⟩
    by_cases e : p = i
    · subst e; exact hT2 q hq (by omega)
    · exact hT p q hp hq (by omega) h2
  have hjl : j < s.ls.length := by omega
  have hwj := wrap1 hll hjl
  have hyes := touch_yes (n := n) h hjl hji
  simp -implicitDefEqProofs [↓gd_tt, ↓gd_ff, ↓gd_tf, ↓gd_ft, hji, hjl, hmin]
  generalize hx : s.ls[i] = x at *
  generalize hy : s.ls[j] = y at *
  refine loopA mixed [false, false, false, false, true, false, false, false, false, false, true, false, false, false, false, false, false, false, false, false, false, false, false, false, false, false, false, false, false, false, false, true, true, true, true, true, true, true, true, true, true, true, true, true, true, true, true, true, true, true, true, true, true, true] (fun (k : Nat) => [(31, .d (I k))]) (fun (k : Nat) => [stD b s, .var ((encNd n).flat.map V.d), .var ((encLf b x).flat.map V.d), .var ((encLf b y).flat.map V.d)]) (fun (k : Nat) => k ≤ x.cs.length ∧ (x.n = n.id → y.n = n.id → ∀ c ∈ x.cs.take k, c ∉ y.cs)) (fun (k : Nat) => x.cs.length - k) (0) (⟨Nat.zero_le _, by simp⟩) (by simp) ?_
  rintro k hx
  obtain ⟨hk, hK⟩ := hx
  rcases Nat.lt_or_eq_of_le hk with hkl | hkl
  case inr =>
    have htn : touch n x y = false := by
      rw [hkl, List.take_length] at hK
      unfold touch
      by_cases q1 : x.n = n.id
      · by_cases q2 : y.n = n.id
        · have := hK q1 q2
          simp [q1, q2]
          exact this
        · simp [q2]
      · simp [q1]
    simp -implicitDefEqProofs [↓gd_tt, ↓gd_ff, ↓gd_tf, ↓gd_ft, hkl, hwj]
    refine ⟨⟨by omega, fun q hq h1 => ?_⟩, by omega⟩
    by_cases e : q = j
    · subst e; rw [hy]; exact htn
    · exact hT2 q hq (by omega)
  have hwk := wrap1 hcl hkl
  have hst : x.cs.take (k + 1) = x.cs.take k ++ [x.cs[k]] := by rw [List.take_add_one, List.getElem?_eq_getElem hkl]; rfl
  by_cases q1 : x.n = n.id
  case neg =>
    simp -implicitDefEqProofs [↓gd_tt, ↓gd_ff, ↓gd_tf, ↓gd_ft, hkl, q1, hwk]
    omega
  by_cases q2 : y.n = n.id
  case neg =>
    simp -implicitDefEqProofs [↓gd_tt, ↓gd_ff, ↓gd_tf, ↓gd_ft, hkl, q1, q2, hwk]
    omega
  simp -implicitDefEqProofs [↓gd_tt, ↓gd_ff, ↓gd_tf, ↓gd_ft, hkl, q1, q2]
  refine callK_pcall (nhas_spec b y.cs x.cs[k] (by rw [← hy]; exact hw1 _ (List.getElem_mem hjl))) (by simp) rfl ?_
  by_cases q3 : x.cs[k] ∈ y.cs
  · have htt : twiceN s.ls n = true := hyes (by
      simp only [touch, Bool.and_eq_true, decide_eq_true_eq, List.any_eq_true]
      exact ⟨⟨q1, q2⟩, x.cs[k], List.getElem_mem hkl, q3⟩)
    simp -implicitDefEqProofs [↓gd_tt, ↓gd_ff, ↓gd_tf, ↓gd_ft, hkl, q1, q2, q3, htt]
  · simp -implicitDefEqProofs [↓gd_tt, ↓gd_ff, ↓gd_tf, ↓gd_ft, hkl, q1, q2, q3, hwk]
    refine ⟨⟨by omega, ?_⟩, by omega⟩
    intro c hc
    rw [hst] at hc
    rcases List.mem_append.1 hc with hc | hc
    · exact hK q1 q2 c hc
    · simp at hc; subst hc; exact q3
theorem find_hit {α : Type} {l : List α} {p : α → Bool} {i : Nat} (h : i < l.length) (hb : ∀ j (hj : j < l.length), j < i → p l[j] = false) (hp : p l[i] = true) : l.find? p = some l[i] := List.find?_eq_some_iff_getElem.2 ⟨hp, i, h, rfl, fun j hj => by simpa using hb j (by omega) hj⟩
theorem rnode_spec (l : List Nd) (id : Int) (hl : l.length ≤ maxLen) : PCall Try.prog 112 [encNs b l, I id] (.tup [.d (encNd (nodeOf l id)), .d (.bool (l.any fun n => decide (n.id = id)))]) := by
  refine pcallS (fn := Try.f112) [] [] mixed (bodyOf Try.f112) [.cell 4 87, .tmp 5] Try.func112 rfl rfl (by decide) 19 rfl (by kernel_rfl) ?_
  simp -implicitDefEqProofs [↓gd_tt, ↓gd_ff, ↓gd_tf, ↓gd_ft, bodyOf, Try.f112, stripC, stripL, stripM, onsOf, upto, hintOf, freeOf, List.replicate]
  refine loopA mixed [false, false, false, false, false, true, false, true, false, false, true, true, true, true, true, true, true, true, true, true] (fun (i : Nat) => [(10, .d (I i))]) (fun (i : Nat) => [.var [.d (I 0), .d (I 0), .d (I 0), .d (I 0), .d (I 0)]]) (fun (i : Nat) => i ≤ l.length ∧ ∀ j (hj : j < l.length), j < i → l[j].id ≠ id) (fun (i : Nat) => l.length - i) (0) (⟨Nat.zero_le _, fun j _ h => by omega⟩) (by simp) ?_
  rintro i hx
  obtain ⟨hi, hb⟩ := hx
  rcases Nat.lt_or_eq_of_le hi with h | h
  · have hwi := wrap1 hl h
    by_cases e : l[i].id = id
    · have h1 : nodeOf l id = l[i] := by unfold nodeOf; rw [find_hit h (fun j hj hji => by simpa using hb j hj hji) (by simpa using e)]; rfl
      have h2 : (l.any fun n => decide (n.id = id)) = true := List.any_eq_true.2 ⟨l[i], List.getElem_mem h, by simpa using e⟩
      simp -implicitDefEqProofs [↓gd_tt, ↓gd_ff, ↓gd_tf, ↓gd_ft, h, e, h1, h2]
    · simp -implicitDefEqProofs [↓gd_tt, ↓gd_ff, ↓gd_tf, ↓gd_ft, h, e, hwi]
      exact ⟨⟨by omega, fun j hj hji => by
        by_cases e2 : j = i
        · subst e2; exact e
        · exact hb j hj (by omega)⟩, by omega⟩
  · have h1 : nodeOf l id = ⟨0, 0, 0, 0, 0⟩ := by
      unfold nodeOf
      rw [List.find?_eq_none.2 fun x hx => by
        obtain ⟨j, hj, rfl⟩ := List.getElem_of_mem hx
        simpa using hb j hj (by omega)]; rfl
    have h2 : (l.any fun n => decide (n.id = id)) = false := List.any_eq_false.2 fun x hx => by
      obtain ⟨j, hj, rfl⟩ := List.getElem_of_mem hx
      simpa using hb j hj (by omega)
    simp -implicitDefEqProofs [↓gd_tt, ↓gd_ff, ↓gd_tf, ↓gd_ft, h, h1, h2]
theorem rplace_spec (s : Sta) (id : Int) (hl : s.ts.length ≤ maxLen) : PCall Try.prog 113 [encSt b s, I id] (.d (I (plOf (·.id) s.ts id))) := by
  refine pcallS (fn := Try.f113) [] [] mixed (bodyOf Try.f113) [.tmp 4] Try.func113 rfl rfl (by decide) 19 rfl (by kernel_rfl) ?_
  simp -implicitDefEqProofs [↓gd_tt, ↓gd_ff, ↓gd_tf, ↓gd_ft, bodyOf, Try.f113, stripC, stripL, stripM, onsOf, upto, hintOf, freeOf, List.replicate]
  refine loopA mixed [false, false, false, false, true, true, true, false, false, false, true, true, true, true, true, true, true, true, true, true, true] (fun (i : Nat) => [(10, .d (I i))]) (fun (i : Nat) => [stD b s]) (fun (i : Nat) => i ≤ s.ts.length ∧ ∀ j (hj : j < s.ts.length), j < i → s.ts[j].id ≠ id) (fun (i : Nat) => s.ts.length - i) (0) (⟨Nat.zero_le _, fun j _ h => by omega⟩) (by simp) ?_
  rintro i hx
  obtain ⟨hi, hb⟩ := hx
  rcases Nat.lt_or_eq_of_le hi with h | h
  · have hwi := wrap1 hl h
    by_cases e : s.ts[i].id = id
    · have h1 := plOf_at (g := (·.id)) h e hb
      simp -implicitDefEqProofs [↓gd_tt, ↓gd_ff, ↓gd_tf, ↓gd_ft, h, e, h1]
    · simp -implicitDefEqProofs [↓gd_tt, ↓gd_ff, ↓gd_tf, ↓gd_ft, h, e, hwi]
      exact ⟨⟨by omega, fun j hj hji => by
        by_cases e2 : j = i
        · subst e2; exact e
        · exact hb j hj (by omega)⟩, by omega⟩
  · have h1 := plOf_none (g := (·.id)) (l := s.ts) (id := id) fun j hj => hb j hj (by omega)
    simp -implicitDefEqProofs [↓gd_tt, ↓gd_ff, ↓gd_tf, ↓gd_ft, h, h1]
theorem rleaseOf_spec (s : Sta) (id : Int) (hl : s.ls.length ≤ maxLen) : PCall Try.prog 57 [encSt b s, I id] (.d (I (plOf (·.t) s.ls id))) := by
  refine pcallS (fn := Try.f57) [] [] mixed (bodyOf Try.f57) [.tmp 4] Try.func57 rfl rfl (by decide) 19 rfl (by kernel_rfl) ?_
  simp -implicitDefEqProofs [↓gd_tt, ↓gd_ff, ↓gd_tf, ↓gd_ft, bodyOf, Try.f57, stripC, stripL, stripM, onsOf, upto, hintOf, freeOf, List.replicate]
  refine loopA mixed [false, false, false, false, true, true, true, false, false, false, true, true, true, true, true, true, true, true, true, true, true] (fun (i : Nat) => [(10, .d (I i))]) (fun (i : Nat) => [stD b s]) (fun (i : Nat) => i ≤ s.ls.length ∧ ∀ j (hj : j < s.ls.length), j < i → s.ls[j].t ≠ id) (fun (i : Nat) => s.ls.length - i) (0) (⟨Nat.zero_le _, fun j _ h => by omega⟩) (by simp) ?_
  rintro i hx
  obtain ⟨hi, hb⟩ := hx
  rcases Nat.lt_or_eq_of_le hi with h | h
  · have hwi := wrap1 hl h
    by_cases e : s.ls[i].t = id
    · have h1 := plOf_at (g := (·.t)) h e hb
      simp -implicitDefEqProofs [↓gd_tt, ↓gd_ff, ↓gd_tf, ↓gd_ft, h, e, h1]
    · simp -implicitDefEqProofs [↓gd_tt, ↓gd_ff, ↓gd_tf, ↓gd_ft, h, e, hwi]
      exact ⟨⟨by omega, fun j hj hji => by
        by_cases e2 : j = i
        · subst e2; exact e
        · exact hb j hj (by omega)⟩, by omega⟩
  · have h1 := plOf_none (g := (·.t)) (l := s.ls) (id := id) fun j hj => hb j hj (by omega)
    simp -implicitDefEqProofs [↓gd_tt, ↓gd_ff, ↓gd_tf, ↓gd_ft, h, h1]
theorem rastray_spec (s : Sta) (x : Le) (hn : s.ns.length ≤ maxLen) (ht : s.ts.length ≤ maxLen) (hl : x.cs.length ≤ maxLen) : PCall Try.prog 56 [encSt b s, encLf b x] (.d (.bool (astrayB s.ns s.ts x))) := by
  refine pcallS (fn := Try.f56) [] [] mixed (bodyOf Try.f56) [.tmp 4] Try.func56 rfl rfl (by decide) 62 rfl (by kernel_rfl) ?_
  simp -implicitDefEqProofs [↓gd_tt, ↓gd_ff, ↓gd_tf, ↓gd_ft, bodyOf, Try.f56, stripC, stripL, stripM, onsOf, upto, hintOf, freeOf, List.replicate]
  refine callK_pcall (rnode_spec b s.ns x.n hn) rfl rfl ?_
  simp -implicitDefEqProofs [↓gd_tt, ↓gd_ff, ↓gd_tf, ↓gd_ft]
  refine callK_pcall (rplace_spec b s x.t ht) (by simp) rfl ?_
  by_cases hex : (s.ns.any fun n => decide (n.id = x.n)) = true
  case neg =>
    have ea : astrayB s.ns s.ts x = true := by unfold astrayB; simp only [Bool.not_eq_true] at hex; rw [hex]; rfl
    simp only [Bool.not_eq_true] at hex
    simp -implicitDefEqProofs [↓gd_tt, ↓gd_ff, ↓gd_tf, ↓gd_ft, hex, ea]
  rcases plOf_cases (fun t : Tk => t.id) s.ts x.t with ⟨i, hi, e1, e2, e3⟩ | ⟨e1, _, e3⟩
  · have ea : astrayB s.ns s.ts x = !fitT x s.ts[i] := by unfold astrayB; rw [hex]; unfold tkOf; rw [e3]; rfl
    rw [ea, e1]
    unfold fitT
    have hi0 : ¬ ((i : Int) < 0) := by omega
    simp -implicitDefEqProofs [↓gd_tt, ↓gd_ff, ↓gd_tf, ↓gd_ft, hex, hi, hi0]
    generalize s.ts[i] = t
    by_cases q1 : t.st = 2 <;> by_cases q2 : t.st = 4 <;> by_cases q3 : t.q = x.q <;> by_cases q4 : t.c = (x.cs.length : Int) <;> by_cases q5 : t.m = x.m <;> simp_all
  · have ea : astrayB s.ns s.ts x = true := by unfold astrayB; unfold tkOf; rw [e3]; simp
    rw [ea, e1]
    simp -implicitDefEqProofs [↓gd_tt, ↓gd_ff, ↓gd_tf, ↓gd_ft, hex]
end Go.Idl
end
section
namespace Go.Idl
open Go.Proofs
set_option linter.unusedSimpArgs false
set_option linter.unusedVariables false
set_option maxRecDepth 8000
set_option maxHeartbeats 4000000
variable (b : Bool)

theorem xor_ones {m : Nat} (h : m < 18446744073709551616) : 18446744073709551615 ^^^ m = 18446744073709551615 - m := by
  have h1 := congrArg BitVec.toNat (BitVec.xor_allOnes (x := BitVec.ofNat 64 m))
  rw [BitVec.toNat_xor, BitVec.toNat_not, BitVec.toNat_allOnes, BitVec.toNat_ofNat, Nat.mod_eq_of_lt (show m < 2 ^ 64 from h), Nat.xor_comm] at h1
  exact h1
theorem xor_i64 {n : Int} (h1 : -9223372036854775808 ≤ n) (h2 : n ≤ 9223372036854775807) : IntKind.i64.wrap (((if IntKind.i64.signed = true then -1 else 9223372036854775807) % 2 ^ IntKind.i64.bits : Int).toNat ^^^ (n % 2 ^ IntKind.i64.bits).toNat : Nat) = -1 - n := by
  have e1 : IntKind.i64.signed = true := rfl
  have e2 : IntKind.i64.bits = 64 := rfl
  rw [if_pos e1, e2]
  have e3 : ((-1 : Int) % 2 ^ 64).toNat = 18446744073709551615 := by decide
  have e4 : (n % 2 ^ 64).toNat < 18446744073709551616 := by omega
  rw [e3, xor_ones e4]
  have e5 : ((18446744073709551615 - (n % 2 ^ 64).toNat : Nat) : Int) = 18446744073709551615 - n % 18446744073709551616 := by omega
  rw [e5]
  have ew : ∀ n : Int, IntKind.i64.wrap n = (if (true && decide (n % 18446744073709551616 ≥ 9223372036854775808)) = true then n % 18446744073709551616 - 18446744073709551616 else n % 18446744073709551616) := fun _ => rfl
  rw [ew]; simp only [Bool.true_and, decide_eq_true_eq]
  split <;> omega
theorem xor_u64 {n : Int} (h1 : 0 ≤ n) (h2 : n < 18446744073709551616) : IntKind.u64.wrap (((if IntKind.u64.signed = true then -1 else IntKind.u64.max) % 2 ^ IntKind.u64.bits : Int).toNat ^^^ (n % 2 ^ IntKind.u64.bits).toNat : Nat) = 18446744073709551615 - n := by
  have e1 : ¬ IntKind.u64.signed = true := by decide
  have e2 : IntKind.u64.bits = 64 := rfl
  have e0 : IntKind.u64.max = 18446744073709551615 := rfl
  rw [if_neg e1, e2, e0]
  have e3 : ((18446744073709551615 : Int) % 2 ^ 64).toNat = 18446744073709551615 := by decide
  have e4 : (n % 2 ^ 64).toNat < 18446744073709551616 := by omega
  rw [e3, xor_ones e4, u64w]
  omega
theorem rminus_spec (x y : Int) (hx : -36893488147419103232 ≤ x ∧ x ≤ 36893488147419103232) (hy : -36893488147419103232 ≤ y ∧ y ≤ 36893488147419103232) : PCall Try.prog 116 [wideR x, wideR y] (.d (wideR (x - y))) := by
  have p1 := rplusS_spec (-1 - y) 1 (by omega) (by omega)
  have p2 := rplusS_spec x (-1 - y + 1) (by omega) (by omega)
  rw [show x + (-1 - y + 1) = x - y by omega] at p2
  have e1 : (-1 - y) / 18446744073709551616 = -1 - y / 18446744073709551616 := by omega
  have e2 : (-1 - y) % 18446744073709551616 = 18446744073709551615 - y % 18446744073709551616 := by omega
  unfold wideR at p1 p2 ⊢
  rw [e1, e2] at p1
  have x1 := xor_i64 (n := y / 18446744073709551616) (by omega) (by omega)
  have x2 := xor_u64 (n := y % 18446744073709551616) (by omega) (by omega)
  refine pcallS (fn := Try.f116) [] [(1, 11)] mixed (bodyOf Try.f116) [.cell 4 183] Try.func116 rfl rfl (by decide) 14 rfl (by kernel_rfl) ?_
  simp -implicitDefEqProofs [↓gd_tt, ↓gd_ff, ↓gd_tf, ↓gd_ft, bodyOf, Try.f116, stripC, stripL, stripM, onsOf, upto, hintOf, freeOf, List.replicate]
  simp only [x1, x2]
  refine free_pcall p1 rfl rfl ?_
  simp -implicitDefEqProofs [↓gd_tt, ↓gd_ff, ↓gd_tf, ↓gd_ft]
  refine free_pcall p2 rfl rfl ?_
  simp -implicitDefEqProofs [↓gd_tt, ↓gd_ff, ↓gd_tf, ↓gd_ft]
theorem rtimeless_spec (s : Sta) (x : Le) (hn : In64 s.now) (hu : In64 x.u) (hlg : In64 s.long) : PCall Try.prog 58 [encSt b s, encLf b x] (.d (.bool (timelessB s.now s.long x))) := by
  have f1 := rof_spec s.long hlg
  have f2 := rof_spec x.u hu
  have f3 := rof_spec s.now hn
  obtain ⟨n1, n2⟩ := hn
  obtain ⟨u1, u2⟩ := hu
  have f4 := rminus_spec x.u s.now (by omega) (by omega)
  have f5 := rless_spec s.long (x.u - s.now)
  unfold wideR at f1 f2 f3 f4 f5
  refine pcallS (fn := Try.f58) [] [(1, 11)] mixed (bodyOf Try.f58) [.tmp 4] Try.func58 rfl rfl (by decide) 30 rfl (by kernel_rfl) ?_
  simp -implicitDefEqProofs [↓gd_tt, ↓gd_ff, ↓gd_tf, ↓gd_ft, bodyOf, Try.f58, stripC, stripL, stripM, onsOf, upto, hintOf, freeOf, List.replicate]
  refine free_pcall f1 rfl rfl ?_
  simp -implicitDefEqProofs [↓gd_tt, ↓gd_ff, ↓gd_tf, ↓gd_ft]
  refine free_pcall f2 rfl rfl ?_
  simp -implicitDefEqProofs [↓gd_tt, ↓gd_ff, ↓gd_tf, ↓gd_ft]
  refine free_pcall f3 rfl rfl ?_
  simp -implicitDefEqProofs [↓gd_tt, ↓gd_ff, ↓gd_tf, ↓gd_ft]
  refine free_pcall f4 rfl rfl ?_
  simp -implicitDefEqProofs [↓gd_tt, ↓gd_ff, ↓gd_tf, ↓gd_ft]
  refine free_pcall f5 rfl rfl ?_
  simp -implicitDefEqProofs [↓gd_tt, ↓gd_ff, ↓gd_tf, ↓gd_ft]
  unfold timelessB
  refine ⟨fun h => ⟨fun h2 => ?_, fun h2 => ?_⟩, fun h => ?_⟩
  · rw [show decide (x.u ≤ s.now) = false by simp; omega, show decide (s.long < x.u - s.now) = false by simp; omega]; rfl
  · simp [h2]
  · simp [h]
theorem map_take_snoc2 {α β : Type} (f : α → β) {l : List α} {i : Nat} (h : i < l.length) : (l.take (i + 1)).map f = (l.take i).map f ++ [f l[i]] := by
  rw [List.take_add_one, List.getElem?_eq_getElem h, Option.toList_some, List.map_append]; rfl
open Classical in
theorem rform_spec (s : Sta) (hq : s.qs.length ≤ maxLen) (h6 : s.ns.length ≤ 1000000 ∧ s.ts.length ≤ 1000000 ∧ s.ls.length ≤ 1000000 ∧ s.hs.length ≤ 17592186044415) : PCall Try.prog 52 [encSt b s] (.d (.bool (decide (formA s)))) := by
  have h0 : s.ns.length ≤ maxLen := Nat.le_trans h6.1 (by decide)
  have h1 : s.ts.length ≤ maxLen := Nat.le_trans h6.2.1 (by decide)
  have h2 : s.ls.length ≤ maxLen := Nat.le_trans h6.2.2.1 (by decide)
  have h3 : s.hs.length ≤ maxLen := Nat.le_trans h6.2.2.2 (by decide)
  have e : decide (formA s) = (decide (check s.qs = 0) && (decide (Rising (s.ns.map (·.id))) && (decide (Rising (s.ts.map (·.id))) && (decide (Rising (s.ls.map (·.t))) && decide (Rising (s.hs.map (·.q))))))) := by
    unfold formA; simp only [Bool.decide_and]
  rw [e]
  refine pcallS (fn := Try.f52) [] [] mixed (bodyOf Try.f52) [.tmp 2] Try.func52 rfl rfl (by decide) 86 rfl (by kernel_rfl) ?_
  simp -implicitDefEqProofs [↓gd_tt, ↓gd_ff, ↓gd_tf, ↓gd_ft, bodyOf, Try.f52, stripC, stripL, stripM, onsOf, upto, hintOf, freeOf, List.replicate]
  refine loopA mixed [false, false, false, true, false, false, false, false, true, false, false, false, false, false, false, false, false, false, true, true, true, true, true, true, true, true, true, true] (fun (i : Nat) => [(3, .own 1 (((s.ns.take i).map (·.id)).map I)), (18, .d (I i))]) (fun (i : Nat) => [stD b s]) (fun (i : Nat) => i ≤ s.ns.length) (fun (i : Nat) => s.ns.length - i) (0) (Nat.zero_le _) (by simp) ?_
  rintro i hx
  rcases Nat.lt_or_eq_of_le hx with h | h
  · have hwi := wrap1 h0 h
    have hst := map_take_snoc2 (·.id) h
    have hbl : ((s.ns.take i).map (·.id)).length ≤ i := by simp; omega
    generalize (s.ns.take i).map (·.id) = L at *
    have b1 : (L.length + 1) * 8 ≤ 140737488355328 := by omega
    simp -implicitDefEqProofs [↓gd_tt, ↓gd_ff, ↓gd_tf, ↓gd_ft, h, hwi, b1]
    exact ⟨i + 1, by omega, by omega, by have h3 := congrArg (List.map I) hst; simpa using h3.symm, rfl⟩
  rw [h, List.take_length]
  simp -implicitDefEqProofs [↓gd_tt, ↓gd_ff, ↓gd_tf, ↓gd_ft]
  clear hx h
  refine loopA mixed [false, false, false, false, true, false, false, false, false, false, true, false, false, false, false, false, false, false, false, false, false, false, false, false, false, false, false, false, false, false, false, true, true, true, true, true, true, true, true, true, true] (fun (i : Nat) => [(4, .own 1 (((s.ts.take i).map (·.id)).map I)), (31, .d (I i))]) (fun (i : Nat) => [stD b s]) (fun (i : Nat) => i ≤ s.ts.length) (fun (i : Nat) => s.ts.length - i) (0) (Nat.zero_le _) (by simp) ?_
  rintro i hx
  rcases Nat.lt_or_eq_of_le hx with h | h
  · have hwi := wrap1 h1 h
    have hst := map_take_snoc2 (·.id) h
    have hbl : ((s.ts.take i).map (·.id)).length ≤ i := by simp; omega
    generalize (s.ts.take i).map (·.id) = L at *
    have b1 : (L.length + 1) * 8 ≤ 140737488355328 := by omega
    simp -implicitDefEqProofs [↓gd_tt, ↓gd_ff, ↓gd_tf, ↓gd_ft, h, hwi, b1]
    exact ⟨i + 1, by omega, by omega, by have h3 := congrArg (List.map I) hst; simpa using h3.symm, rfl⟩
  rw [h, List.take_length]
  simp -implicitDefEqProofs [↓gd_tt, ↓gd_ff, ↓gd_tf, ↓gd_ft]
  clear hx h
  refine loopA mixed [false, false, false, false, false, true, false, false, false, false, false, false, true, false, false, false, false, false, false, false, false, false, false, false, false, false, false, false, false, false, false, false, false, false, false, false, false, false, false, false, false, false, false, false, true, true, true, true, true, true, true, true, true, true] (fun (i : Nat) => [(5, .own 1 (((s.ls.take i).map (·.t)).map I)), (44, .d (I i))]) (fun (i : Nat) => [stD b s]) (fun (i : Nat) => i ≤ s.ls.length) (fun (i : Nat) => s.ls.length - i) (0) (Nat.zero_le _) (by simp) ?_
  rintro i hx
  rcases Nat.lt_or_eq_of_le hx with h | h
  · have hwi := wrap1 h2 h
    have hst := map_take_snoc2 (·.t) h
    have hbl : ((s.ls.take i).map (·.t)).length ≤ i := by simp; omega
    generalize (s.ls.take i).map (·.t) = L at *
    have b1 : (L.length + 1) * 8 ≤ 140737488355328 := by omega
    simp -implicitDefEqProofs [↓gd_tt, ↓gd_ff, ↓gd_tf, ↓gd_ft, h, hwi, b1]
    exact ⟨i + 1, by omega, by omega, by have h3 := congrArg (List.map I) hst; simpa using h3.symm, rfl⟩
  rw [h, List.take_length]
  simp -implicitDefEqProofs [↓gd_tt, ↓gd_ff, ↓gd_tf, ↓gd_ft]
  clear hx h
  refine loopA mixed [false, false, false, false, false, false, true, false, false, false, false, false, false, false, true, false, false, false, false, false, false, false, false, false, false, false, false, false, false, false, false, false, false, false, false, false, false, false, false, false, false, false, false, false, false, false, false, false, false, false, false, false, false, false, false, false, false, true, true, true, true, true, true, true, true, true, true] (fun (i : Nat) => [(6, .own 1 (((s.hs.take i).map (·.q)).map I)), (57, .d (I i))]) (fun (i : Nat) => [stD b s]) (fun (i : Nat) => i ≤ s.hs.length) (fun (i : Nat) => s.hs.length - i) (0) (Nat.zero_le _) (by simp) ?_
  rintro i hx
  rcases Nat.lt_or_eq_of_le hx with h | h
  · have hwi := wrap1 h3 h
    have hst := map_take_snoc2 (·.q) h
    have hbl : ((s.hs.take i).map (·.q)).length ≤ i := by simp; omega
    generalize (s.hs.take i).map (·.q) = L at *
    have b1 : (L.length + 1) * 8 ≤ 140737488355328 := by omega
    simp -implicitDefEqProofs [↓gd_tt, ↓gd_ff, ↓gd_tf, ↓gd_ft, h, hwi, b1]
    exact ⟨i + 1, by omega, by omega, by have h3 := congrArg (List.map I) hst; simpa using h3.symm, rfl⟩
  rw [h, List.take_length]
  simp -implicitDefEqProofs [↓gd_tt, ↓gd_ff, ↓gd_tf, ↓gd_ft]
  clear hx h
  refine callK_pcall (refCheck_spec b s.qs hq) rfl rfl ?_
  by_cases hc : check s.qs = 0
  case neg => simp -implicitDefEqProofs [↓gd_tt, ↓gd_ff, ↓gd_tf, ↓gd_ft, hc]
  simp -implicitDefEqProofs [↓gd_tt, ↓gd_ff, ↓gd_tf, ↓gd_ft, hc]
  refine callK_pcall (rrises_spec false (s.ns.map (·.id)) (by simp; omega)) (by simp) rfl ?_
  by_cases g1 : Rising (s.ns.map (·.id))
  case neg => simp -implicitDefEqProofs [↓gd_tt, ↓gd_ff, ↓gd_tf, ↓gd_ft, g1]
  simp -implicitDefEqProofs [↓gd_tt, ↓gd_ff, ↓gd_tf, ↓gd_ft, g1]
  refine callK_pcall (rrises_spec false (s.ts.map (·.id)) (by simp; omega)) (by simp) rfl ?_
  by_cases g2 : Rising (s.ts.map (·.id))
  case neg => simp -implicitDefEqProofs [↓gd_tt, ↓gd_ff, ↓gd_tf, ↓gd_ft, g2]
  simp -implicitDefEqProofs [↓gd_tt, ↓gd_ff, ↓gd_tf, ↓gd_ft, g2]
  refine callK_pcall (rrises_spec false (s.ls.map (·.t)) (by simp; omega)) (by simp) rfl ?_
  by_cases g3 : Rising (s.ls.map (·.t))
  case neg => simp -implicitDefEqProofs [↓gd_tt, ↓gd_ff, ↓gd_tf, ↓gd_ft, g3]
  simp -implicitDefEqProofs [↓gd_tt, ↓gd_ff, ↓gd_tf, ↓gd_ft, g3]
  refine callK_pcall (rrises_spec false (s.hs.map (·.q)) (by simp; omega)) (by simp) rfl ?_
  simp -implicitDefEqProofs [↓gd_tt, ↓gd_ff, ↓gd_tf, ↓gd_ft]
theorem rcheckA_spec (s : Sta) (hsm : s.small) : PCall Try.prog 15 [encSt b s] (.d (.sl false 2 ((auditL s).map encV))) := by
  have hl0 := hsm.qs
  have hl1 := small6 hsm.ns
  have hl2 := small6 hsm.ns
  have hl3 := small6 hsm.ls
  have hl4 := small6 hsm.ts
  have hl5 := small6 hsm.ls
  have n6 := hsm.ns; have t6 := hsm.ts; have s6 := hsm.ls
  refine pcallS (fn := Try.f15) [] [] mixed (bodyOf Try.f15) [.tmp 2] Try.func15 rfl rfl (by decide) 130 rfl (by kernel_rfl) ?_
  simp -implicitDefEqProofs [↓gd_tt, ↓gd_ff, ↓gd_tf, ↓gd_ft, bodyOf, Try.f15, stripC, stripL, stripM, onsOf, upto, hintOf, freeOf, List.replicate]
  refine callK_pcall (rform_spec b s hl0 ⟨hsm.ns, hsm.ts, hsm.ls, hsm.hs⟩) rfl rfl ?_
  by_cases hf : formA s
  case neg => simp -implicitDefEqProofs [↓gd_tt, ↓gd_ff, ↓gd_tf, ↓gd_ft, hf, auditL]
  have hau : auditL s = probs s := by unfold auditL; rw [if_pos hf]
  rw [hau]
  obtain ⟨hc, r1, r2, r3, r4⟩ := id hf
  have h64 := check_len hc
  simp -implicitDefEqProofs [↓gd_tt, ↓gd_ff, ↓gd_tf, ↓gd_ft, hf]
  generalize hA : ([] : List (Int × Int)) = A
  have a1 : A.length ≤ 0 := by subst hA; simp
  have hlen0 : ∀ i, A.length + (((s.qs.take i).filter (overQ s.qs s.ls)).map fun x => ((2 : Int), x.Id)).length ≤ A.length + s.qs.length := fun i => by
    have := filtmap_len2 (overQ s.qs s.ls) (fun x => ((2 : Int), x.Id)) (s.qs.take i)
    have h2 : (s.qs.take i).length ≤ s.qs.length := by simp; omega
    omega
  refine loopA mixed [false, false, false, true, false, true, false, false, false, false, false, false, false, false, false, false, false, false, false, false, false, false, false, false, true, true, true, true, true, true, true, true, true, true, true, true, true, true] (fun (i : Nat) => [(3, .own 2 ((A ++ ((s.qs.take i).filter (overQ s.qs s.ls)).map fun x => ((2 : Int), x.Id)).map encV)), (24, .d (I i))]) (fun (i : Nat) => [stD b s]) (fun (i : Nat) => i ≤ s.qs.length) (fun (i : Nat) => s.qs.length - i) (0) (Nat.zero_le _) (by simp [← hA]) ?_
  rintro i hx
  rcases Nat.lt_or_eq_of_le hx with h | h
  · have hwi := wrap1 hl0 h
    have hst := filtmap_take (p := (overQ s.qs s.ls)) (f := fun x => ((2 : Int), x.Id)) h
    have hbl := hlen0 i
    rw [← List.length_append] at hbl
    have hst2 : A ++ ((s.qs.take (i + 1)).filter (overQ s.qs s.ls)).map (fun x => ((2 : Int), x.Id)) = (A ++ ((s.qs.take i).filter (overQ s.qs s.ls)).map (fun x => ((2 : Int), x.Id))) ++ (if (overQ s.qs s.ls) s.qs[i] = true then [((2 : Int), s.qs[i].Id)] else []) := by rw [hst, List.append_assoc]
    generalize A ++ ((s.qs.take i).filter (overQ s.qs s.ls)).map (fun x => ((2 : Int), x.Id)) = Y at *
    have b1 : (Y.length + 1) * 16 ≤ 140737488355328 := by omega
    simp -implicitDefEqProofs [↓gd_tt, ↓gd_ff, ↓gd_tf, ↓gd_ft, h]
    refine callK_pcall (rover_spec b s s.qs[i] hc hsm.ls hsm.cs hsm.m (hsm.qc _ (List.getElem_mem h)).1 (hsm.qc _ (List.getElem_mem h)).2) (by simp) rfl ?_
    by_cases hf : (overQ s.qs s.ls) s.qs[i] = true
    · simp -implicitDefEqProofs [↓gd_tt, ↓gd_ff, ↓gd_tf, ↓gd_ft, h, hf, hwi, b1]
      rw [if_pos hf] at hst2
      have h3 := congrArg (List.map encV) hst2
      simp only [List.map_append, List.map_map] at h3
      exact ⟨i + 1, by omega, by omega, by simpa using h3.symm, rfl⟩
    · simp -implicitDefEqProofs [↓gd_tt, ↓gd_ff, ↓gd_tf, ↓gd_ft, h, hf, hwi, b1]
      rw [if_neg hf, List.append_nil] at hst2
      have h3 := congrArg (List.map encV) hst2
      simp only [List.map_append, List.map_map] at h3
      exact ⟨i + 1, by omega, by omega, by simpa using h3.symm, rfl⟩
  rw [h, List.take_length]
  have hn0 := hlen0 s.qs.length
  rw [List.take_length, ← List.length_append] at hn0
  generalize hB0 : A ++ (s.qs.filter (overQ s.qs s.ls)).map (fun x => ((2 : Int), x.Id)) = B0 at hn0 ⊢
  simp -implicitDefEqProofs [↓gd_tt, ↓gd_ff, ↓gd_tf, ↓gd_ft]
  clear hx h
  have hlen1 : ∀ i, B0.length + (((s.ns.take i).filter (wrongN s.ls)).map fun x => ((3 : Int), x.id)).length ≤ B0.length + s.ns.length := fun i => by
    have := filtmap_len2 (wrongN s.ls) (fun x => ((3 : Int), x.id)) (s.ns.take i)
    have h2 : (s.ns.take i).length ≤ s.ns.length := by simp; omega
    omega
  refine loopA mixed [false, false, false, true, false, false, false, true, false, false, false, false, false, false, false, false, false, false, false, false, false, false, false, false, false, false, false, false, false, false, false, false, false, false, false, false, false, false, false, false, false, true, true, true, true, true, true, true, true, true, true, true, true, true, true] (fun (i : Nat) => [(3, .own 2 ((B0 ++ ((s.ns.take i).filter (wrongN s.ls)).map fun x => ((3 : Int), x.id)).map encV)), (41, .d (I i))]) (fun (i : Nat) => [stD b s]) (fun (i : Nat) => i ≤ s.ns.length) (fun (i : Nat) => s.ns.length - i) (0) (Nat.zero_le _) (by simp) ?_
  rintro i hx
  rcases Nat.lt_or_eq_of_le hx with h | h
  · have hwi := wrap1 hl1 h
    have hst := filtmap_take (p := (wrongN s.ls)) (f := fun x => ((3 : Int), x.id)) h
    have hbl := hlen1 i
    rw [← List.length_append] at hbl
    have hst2 : B0 ++ ((s.ns.take (i + 1)).filter (wrongN s.ls)).map (fun x => ((3 : Int), x.id)) = (B0 ++ ((s.ns.take i).filter (wrongN s.ls)).map (fun x => ((3 : Int), x.id))) ++ (if (wrongN s.ls) s.ns[i] = true then [((3 : Int), s.ns[i].id)] else []) := by rw [hst, List.append_assoc]
    generalize B0 ++ ((s.ns.take i).filter (wrongN s.ls)).map (fun x => ((3 : Int), x.id)) = Y at *
    have b1 : (Y.length + 1) * 16 ≤ 140737488355328 := by omega
    simp -implicitDefEqProofs [↓gd_tt, ↓gd_ff, ↓gd_tf, ↓gd_ft, h]
    refine callK_pcall (rwrong_spec b s s.ns[i] hsm.ls hsm.cs hsm.m (hsm.nm _ (List.getElem_mem h))) (by simp) rfl ?_
    by_cases hf : (wrongN s.ls) s.ns[i] = true
    · simp -implicitDefEqProofs [↓gd_tt, ↓gd_ff, ↓gd_tf, ↓gd_ft, h, hf, hwi, b1]
      rw [if_pos hf] at hst2
      have h3 := congrArg (List.map encV) hst2
      simp only [List.map_append, List.map_map] at h3
      exact ⟨i + 1, by omega, by omega, by simpa using h3.symm, rfl⟩
    · simp -implicitDefEqProofs [↓gd_tt, ↓gd_ff, ↓gd_tf, ↓gd_ft, h, hf, hwi, b1]
      rw [if_neg hf, List.append_nil] at hst2
      have h3 := congrArg (List.map encV) hst2
      simp only [List.map_append, List.map_map] at h3
      exact ⟨i + 1, by omega, by omega, by simpa using h3.symm, rfl⟩
  rw [h, List.take_length]
  have hn1 := hlen1 s.ns.length
  rw [List.take_length, ← List.length_append] at hn1
  generalize hB1 : B0 ++ (s.ns.filter (wrongN s.ls)).map (fun x => ((3 : Int), x.id)) = B1 at hn1 ⊢
  simp -implicitDefEqProofs [↓gd_tt, ↓gd_ff, ↓gd_tf, ↓gd_ft]
  clear hx h
  have hlen2 : ∀ i, B1.length + (((s.ns.take i).filter (twiceN s.ls)).map fun x => ((4 : Int), x.id)).length ≤ B1.length + s.ns.length := fun i => by
    have := filtmap_len2 (twiceN s.ls) (fun x => ((4 : Int), x.id)) (s.ns.take i)
    have h2 : (s.ns.take i).length ≤ s.ns.length := by simp; omega
    omega
  refine loopA mixed [false, false, false, true, false, false, false, false, false, true, false, false, false, false, false, false, false, false, false, false, false, false, false, false, false, false, false, false, false, false, false, false, false, false, false, false, false, false, false, false, false, false, false, false, false, false, false, false, false, false, false, false, false, false, false, false, false, false, true, true, true, true, true, true, true, true, true, true, true, true, true, true] (fun (i : Nat) => [(3, .own 2 ((B1 ++ ((s.ns.take i).filter (twiceN s.ls)).map fun x => ((4 : Int), x.id)).map encV)), (58, .d (I i))]) (fun (i : Nat) => [stD b s]) (fun (i : Nat) => i ≤ s.ns.length) (fun (i : Nat) => s.ns.length - i) (0) (Nat.zero_le _) (by simp) ?_
  rintro i hx
  rcases Nat.lt_or_eq_of_le hx with h | h
  · have hwi := wrap1 hl2 h
    have hst := filtmap_take (p := (twiceN s.ls)) (f := fun x => ((4 : Int), x.id)) h
    have hbl := hlen2 i
    rw [← List.length_append] at hbl
    have hst2 : B1 ++ ((s.ns.take (i + 1)).filter (twiceN s.ls)).map (fun x => ((4 : Int), x.id)) = (B1 ++ ((s.ns.take i).filter (twiceN s.ls)).map (fun x => ((4 : Int), x.id))) ++ (if (twiceN s.ls) s.ns[i] = true then [((4 : Int), s.ns[i].id)] else []) := by rw [hst, List.append_assoc]
    generalize B1 ++ ((s.ns.take i).filter (twiceN s.ls)).map (fun x => ((4 : Int), x.id)) = Y at *
    have b1 : (Y.length + 1) * 16 ≤ 140737488355328 := by omega
    simp -implicitDefEqProofs [↓gd_tt, ↓gd_ff, ↓gd_tf, ↓gd_ft, h]
    refine callK_pcall (rtwice_spec b s s.ns[i] hsm.ls hsm.cs) (by simp) rfl ?_
    by_cases hf : (twiceN s.ls) s.ns[i] = true
    · simp -implicitDefEqProofs [↓gd_tt, ↓gd_ff, ↓gd_tf, ↓gd_ft, h, hf, hwi, b1]
      rw [if_pos hf] at hst2
      have h3 := congrArg (List.map encV) hst2
      simp only [List.map_append, List.map_map] at h3
      exact ⟨i + 1, by omega, by omega, by simpa using h3.symm, rfl⟩
    · simp -implicitDefEqProofs [↓gd_tt, ↓gd_ff, ↓gd_tf, ↓gd_ft, h, hf, hwi, b1]
      rw [if_neg hf, List.append_nil] at hst2
      have h3 := congrArg (List.map encV) hst2
      simp only [List.map_append, List.map_map] at h3
      exact ⟨i + 1, by omega, by omega, by simpa using h3.symm, rfl⟩
  rw [h, List.take_length]
  have hn2 := hlen2 s.ns.length
  rw [List.take_length, ← List.length_append] at hn2
  generalize hB2 : B1 ++ (s.ns.filter (twiceN s.ls)).map (fun x => ((4 : Int), x.id)) = B2 at hn2 ⊢
  simp -implicitDefEqProofs [↓gd_tt, ↓gd_ff, ↓gd_tf, ↓gd_ft]
  clear hx h
  have hlen3 : ∀ i, B2.length + (((s.ls.take i).filter (astrayB s.ns s.ts)).map fun x => ((5 : Int), x.t)).length ≤ B2.length + s.ls.length := fun i => by
    have := filtmap_len2 (astrayB s.ns s.ts) (fun x => ((5 : Int), x.t)) (s.ls.take i)
    have h2 : (s.ls.take i).length ≤ s.ls.length := by simp; omega
    omega
  refine loopA mixed [false, false, false, true, false, false, false, false, false, false, false, true, false, false, false, false, false, false, false, false, false, false, false, false, false, false, false, false, false, false, false, false, false, false, false, false, false, false, false, false, false, false, false, false, false, false, false, false, false, false, false, false, false, false, false, false, false, false, false, false, false, false, false, false, false, false, false, false, false, false, false, false, false, false, false, true, true, true, true, true, true, true, true, true, true, true, true, true, true] (fun (i : Nat) => [(3, .own 2 ((B2 ++ ((s.ls.take i).filter (astrayB s.ns s.ts)).map fun x => ((5 : Int), x.t)).map encV)), (75, .d (I i))]) (fun (i : Nat) => [stD b s]) (fun (i : Nat) => i ≤ s.ls.length) (fun (i : Nat) => s.ls.length - i) (0) (Nat.zero_le _) (by simp) ?_
  rintro i hx
  rcases Nat.lt_or_eq_of_le hx with h | h
  · have hwi := wrap1 hl3 h
    have hst := filtmap_take (p := (astrayB s.ns s.ts)) (f := fun x => ((5 : Int), x.t)) h
    have hbl := hlen3 i
    rw [← List.length_append] at hbl
    have hst2 : B2 ++ ((s.ls.take (i + 1)).filter (astrayB s.ns s.ts)).map (fun x => ((5 : Int), x.t)) = (B2 ++ ((s.ls.take i).filter (astrayB s.ns s.ts)).map (fun x => ((5 : Int), x.t))) ++ (if (astrayB s.ns s.ts) s.ls[i] = true then [((5 : Int), s.ls[i].t)] else []) := by rw [hst, List.append_assoc]
    generalize B2 ++ ((s.ls.take i).filter (astrayB s.ns s.ts)).map (fun x => ((5 : Int), x.t)) = Y at *
    have b1 : (Y.length + 1) * 16 ≤ 140737488355328 := by omega
    simp -implicitDefEqProofs [↓gd_tt, ↓gd_ff, ↓gd_tf, ↓gd_ft, h]
    refine callK_pcall (rastray_spec b s s.ls[i] hl1 hl4 (hsm.cs _ (List.getElem_mem h))) (by simp) rfl ?_
    by_cases hf : (astrayB s.ns s.ts) s.ls[i] = true
    · simp -implicitDefEqProofs [↓gd_tt, ↓gd_ff, ↓gd_tf, ↓gd_ft, h, hf, hwi, b1]
      rw [if_pos hf] at hst2
      have h3 := congrArg (List.map encV) hst2
      simp only [List.map_append, List.map_map] at h3
      exact ⟨i + 1, by omega, by omega, by simpa using h3.symm, rfl⟩
    · simp -implicitDefEqProofs [↓gd_tt, ↓gd_ff, ↓gd_tf, ↓gd_ft, h, hf, hwi, b1]
      rw [if_neg hf, List.append_nil] at hst2
      have h3 := congrArg (List.map encV) hst2
      simp only [List.map_append, List.map_map] at h3
      exact ⟨i + 1, by omega, by omega, by simpa using h3.symm, rfl⟩
  rw [h, List.take_length]
  have hn3 := hlen3 s.ls.length
  rw [List.take_length, ← List.length_append] at hn3
  generalize hB3 : B2 ++ (s.ls.filter (astrayB s.ns s.ts)).map (fun x => ((5 : Int), x.t)) = B3 at hn3 ⊢
  simp -implicitDefEqProofs [↓gd_tt, ↓gd_ff, ↓gd_tf, ↓gd_ft]
  clear hx h
  have hlen4 : ∀ i, B3.length + (((s.ts.take i).filter (bareB s.ls)).map fun x => ((6 : Int), x.id)).length ≤ B3.length + s.ts.length := fun i => by
    have := filtmap_len2 (bareB s.ls) (fun x => ((6 : Int), x.id)) (s.ts.take i)
    have h2 : (s.ts.take i).length ≤ s.ts.length := by simp; omega
    omega
  refine loopA mixed [false, false, false, true, false, false, false, false, false, false, false, false, false, true, false, false, false, false, false, false, false, false, false, false, false, false, false, false, false, false, false, false, false, false, false, false, false, false, false, false, false, false, false, false, false, false, false, false, false, false, false, false, false, false, false, false, false, false, false, false, false, false, false, false, false, false, false, false, false, false, false, false, false, false, false, false, false, false, false, false, false, false, false, false, false, false, false, false, false, false, false, false, true, true, true, true, true, true, true, true, true, true, true, true, true, true, true, true, true, true, true, true, true] (fun (i : Nat) => [(3, .own 2 ((B3 ++ ((s.ts.take i).filter (bareB s.ls)).map fun x => ((6 : Int), x.id)).map encV)), (92, .d (I i))]) (fun (i : Nat) => [stD b s]) (fun (i : Nat) => i ≤ s.ts.length) (fun (i : Nat) => s.ts.length - i) (0) (Nat.zero_le _) (by simp) ?_
  rintro i hx
  rcases Nat.lt_or_eq_of_le hx with h | h
  · have hwi := wrap1 hl4 h
    have hst := filtmap_take (p := (bareB s.ls)) (f := fun x => ((6 : Int), x.id)) h
    have hbl := hlen4 i
    rw [← List.length_append] at hbl
    have hst2 : B3 ++ ((s.ts.take (i + 1)).filter (bareB s.ls)).map (fun x => ((6 : Int), x.id)) = (B3 ++ ((s.ts.take i).filter (bareB s.ls)).map (fun x => ((6 : Int), x.id))) ++ (if (bareB s.ls) s.ts[i] = true then [((6 : Int), s.ts[i].id)] else []) := by rw [hst, List.append_assoc]
    generalize B3 ++ ((s.ts.take i).filter (bareB s.ls)).map (fun x => ((6 : Int), x.id)) = Y at *
    have b1 : (Y.length + 1) * 16 ≤ 140737488355328 := by omega
    simp -implicitDefEqProofs [↓gd_tt, ↓gd_ff, ↓gd_tf, ↓gd_ft, h]
    by_cases hst0 : s.ts[i].st = 2
    case neg =>
      have hf : ¬ bareB s.ls s.ts[i] = true := by simp [bareB, hst0]
      simp -implicitDefEqProofs [↓gd_tt, ↓gd_ff, ↓gd_tf, ↓gd_ft, h, hst0, hwi]
      rw [if_neg hf, List.append_nil] at hst2
      have h3 := congrArg (List.map encV) hst2
      simp only [List.map_append, List.map_map] at h3
      exact ⟨i + 1, by omega, by omega, by simpa using h3.symm, rfl⟩
    simp -implicitDefEqProofs [↓gd_tt, ↓gd_ff, ↓gd_tf, ↓gd_ft, h, hst0]
    refine callK_pcall (rleaseOf_spec b s s.ts[i].id hl5) (by simp) rfl ?_
    rcases plOf_cases (fun x : Le => x.t) s.ls s.ts[i].id with ⟨j, hj, e1, e2, e3⟩ | ⟨e1, e2, e3⟩
    · have hf : ¬ bareB s.ls s.ts[i] = true := by
        have : (s.ls.any fun x => decide (x.t = s.ts[i].id)) = true := List.any_eq_true.2 ⟨s.ls[j], List.getElem_mem hj, by simpa using e2⟩
        unfold bareB; rw [this]; simp
      rw [e1]
      have hj0 : ¬ ((j : Int) < 0) := by omega
      simp -implicitDefEqProofs [↓gd_tt, ↓gd_ff, ↓gd_tf, ↓gd_ft, h, hst0, hwi, hj0]
      rw [if_neg hf, List.append_nil] at hst2
      have h3 := congrArg (List.map encV) hst2
      simp only [List.map_append, List.map_map] at h3
      exact ⟨i + 1, by omega, by omega, by simpa using h3.symm, rfl⟩
    · have hf : bareB s.ls s.ts[i] = true := by
        have : (s.ls.any fun x => decide (x.t = s.ts[i].id)) = false := List.any_eq_false.2 fun x hx => by simpa using e2 x hx
        unfold bareB; rw [this, hst0]; rfl
      rw [e1]
      simp -implicitDefEqProofs [↓gd_tt, ↓gd_ff, ↓gd_tf, ↓gd_ft, h, hst0, hwi, b1]
      rw [if_pos hf] at hst2
      have h3 := congrArg (List.map encV) hst2
      simp only [List.map_append, List.map_map] at h3
      exact ⟨i + 1, by omega, by omega, by simpa using h3.symm, rfl⟩
  rw [h, List.take_length]
  have hn4 := hlen4 s.ts.length
  rw [List.take_length, ← List.length_append] at hn4
  generalize hB4 : B3 ++ (s.ts.filter (bareB s.ls)).map (fun x => ((6 : Int), x.id)) = B4 at hn4 ⊢
  simp -implicitDefEqProofs [↓gd_tt, ↓gd_ff, ↓gd_tf, ↓gd_ft]
  clear hx h
  have hlen5 : ∀ i, B4.length + (((s.ls.take i).filter (timelessB s.now s.long)).map fun x => ((7 : Int), x.t)).length ≤ B4.length + s.ls.length := fun i => by
    have := filtmap_len2 (timelessB s.now s.long) (fun x => ((7 : Int), x.t)) (s.ls.take i)
    have h2 : (s.ls.take i).length ≤ s.ls.length := by simp; omega
    omega
  refine loopA mixed [false, false, false, true, false, false, false, false, false, false, false, false, false, false, false, true, false, false, false, false, false, false, false, false, false, false, false, false, false, false, false, false, false, false, false, false, false, false, false, false, false, false, false, false, false, false, false, false, false, false, false, false, false, false, false, false, false, false, false, false, false, false, false, false, false, false, false, false, false, false, false, false, false, false, false, false, false, false, false, false, false, false, false, false, false, false, false, false, false, false, false, false, false, false, false, false, false, false, false, false, false, false, false, false, false, false, false, false, false, false, false, false, false, false, false, false, true, true, true, true, true, true, true, true, true, true, true, true, true, true] (fun (i : Nat) => [(3, .own 2 ((B4 ++ ((s.ls.take i).filter (timelessB s.now s.long)).map fun x => ((7 : Int), x.t)).map encV)), (116, .d (I i))]) (fun (i : Nat) => [stD b s]) (fun (i : Nat) => i ≤ s.ls.length) (fun (i : Nat) => s.ls.length - i) (0) (Nat.zero_le _) (by simp) ?_
  rintro i hx
  rcases Nat.lt_or_eq_of_le hx with h | h
  · have hwi := wrap1 hl5 h
    have hst := filtmap_take (p := (timelessB s.now s.long)) (f := fun x => ((7 : Int), x.t)) h
    have hbl := hlen5 i
    rw [← List.length_append] at hbl
    have hst2 : B4 ++ ((s.ls.take (i + 1)).filter (timelessB s.now s.long)).map (fun x => ((7 : Int), x.t)) = (B4 ++ ((s.ls.take i).filter (timelessB s.now s.long)).map (fun x => ((7 : Int), x.t))) ++ (if (timelessB s.now s.long) s.ls[i] = true then [((7 : Int), s.ls[i].t)] else []) := by rw [hst, List.append_assoc]
    generalize B4 ++ ((s.ls.take i).filter (timelessB s.now s.long)).map (fun x => ((7 : Int), x.t)) = Y at *
    have b1 : (Y.length + 1) * 16 ≤ 140737488355328 := by omega
    simp -implicitDefEqProofs [↓gd_tt, ↓gd_ff, ↓gd_tf, ↓gd_ft, h]
    refine callK_pcall (rtimeless_spec b s s.ls[i] hsm.now (hsm.u _ (List.getElem_mem h)) hsm.long) (by simp) rfl ?_
    by_cases hf : (timelessB s.now s.long) s.ls[i] = true
    · simp -implicitDefEqProofs [↓gd_tt, ↓gd_ff, ↓gd_tf, ↓gd_ft, h, hf, hwi, b1]
      rw [if_pos hf] at hst2
      have h3 := congrArg (List.map encV) hst2
      simp only [List.map_append, List.map_map] at h3
      exact ⟨i + 1, by omega, by omega, by simpa using h3.symm, rfl⟩
    · simp -implicitDefEqProofs [↓gd_tt, ↓gd_ff, ↓gd_tf, ↓gd_ft, h, hf, hwi, b1]
      rw [if_neg hf, List.append_nil] at hst2
      have h3 := congrArg (List.map encV) hst2
      simp only [List.map_append, List.map_map] at h3
      exact ⟨i + 1, by omega, by omega, by simpa using h3.symm, rfl⟩
  rw [h, List.take_length]
  have hn5 := hlen5 s.ls.length
  rw [List.take_length, ← List.length_append] at hn5
  generalize hB5 : B4 ++ (s.ls.filter (timelessB s.now s.long)).map (fun x => ((7 : Int), x.t)) = B5 at hn5 ⊢
  simp -implicitDefEqProofs [↓gd_tt, ↓gd_ff, ↓gd_tf, ↓gd_ft]
  clear hx h
  have hP : B5 = probs s := by
    rw [← hB5, ← hB4, ← hB3, ← hB2, ← hB1, ← hB0, ← hA]
    unfold probs probQ probN probT probA probB probL
    simp
  rw [hP]
end Go.Idl
end
section
namespace Go.Idl
open Go.Proofs
set_option linter.unusedSimpArgs false
set_option linter.unusedVariables false
set_option maxRecDepth 8000
set_option maxHeartbeats 1000000
variable (b : Bool)

end Go.Idl
end
section
namespace Go.Idl
open Go.Proofs
set_option linter.unusedSimpArgs false
set_option linter.unusedVariables false
set_option maxRecDepth 8000
set_option maxHeartbeats 1000000
variable (b c : Bool)

theorem eqQ (x y : Q) : eqAt [.int .i64 x.Id, .int .i64 x.Par, .int .i64 x.Wt, .int .i64 x.QC, .int .i64 x.QM, .int .i64 x.MC, .int .i64 x.MM] [.int .i64 y.Id, .int .i64 y.Par, .int .i64 y.Wt, .int .i64 y.QC, .int .i64 y.QM, .int .i64 y.MC, .int .i64 y.MM] [(0, 0), (1, 0), (2, 0), (3, 0), (4, 0), (5, 0), (6, 0)] = some (decide (x = y)) := by
  cases x; cases y
  simp [eqAt]
theorem take_one {α : Type} {l m : List α} {i : Nat} (h : i < l.length) (h' : i < m.length) (hp : l.take i = m.take i) (e : l[i] = m[i]) : l.take (i + 1) = m.take (i + 1) := by
  rw [List.take_add_one, List.take_add_one, hp, List.getElem?_eq_getElem h, List.getElem?_eq_getElem h', e]
theorem ints_spec (l m : List Int) (hl : l.length ≤ maxLen) : PCall Try.prog 26 [encI b l, encI c m] (.d (.bool (decide (l = m)))) := by
  refine pcallS (fn := Try.f26) [] [] mixed (bodyOf Try.f26) [.tmp 4] Try.func26 rfl rfl (by decide) 24 rfl (by kernel_rfl) ?_
  simp -implicitDefEqProofs [↓gd_tt, ↓gd_ff, ↓gd_tf, ↓gd_ft, bodyOf, Try.f26, stripC, stripL, stripM, onsOf, upto, hintOf, freeOf, List.replicate]
  refine ⟨fun h => by rintro rfl; exact h rfl, fun h => ?_⟩
  have hlm : l.length = m.length := by omega
  refine loopA mixed [false, false, false, false, true, true, false, false, false, false, false, false, false, true, true, true, true, true, true, true, true, true, true, true, true, true] (fun (i : Nat) => [(13, .d (I i))]) (fun (i : Nat) => []) (fun (i : Nat) => i ≤ l.length ∧ l.take i = m.take i) (fun (i : Nat) => l.length - i) (0) (⟨Nat.zero_le _, rfl⟩) (by simp) ?_
  rintro i hx
  obtain ⟨hi, hp⟩ := hx
  rcases Nat.lt_or_eq_of_le hi with h | h
  · have h' : i < m.length := by omega
    simp -implicitDefEqProofs [↓gd_tt, ↓gd_ff, ↓gd_tf, ↓gd_ft, h, h', wrap1 hl h]
    refine ⟨fun e => by rintro rfl; exact e rfl, fun e => ⟨⟨by omega, take_one h h' hp e⟩, by omega⟩⟩
  · simp -implicitDefEqProofs [↓gd_tt, ↓gd_ff, ↓gd_tf, ↓gd_ft, h]
    rw [h, List.take_length, hlm, List.take_length] at hp
    exact hp

end Go.Idl
end
section
namespace Go.Idl
open Go.Proofs
set_option linter.unusedSimpArgs false
set_option linter.unusedVariables false
set_option maxRecDepth 8000
set_option maxHeartbeats 2000000
variable (b c : Bool)

theorem eqV2 (x y : Int) : eqAt [.int .i64 x, .int .i64 y] [.int .i64 x, .int .i64 y] [(0, 0), (1, 0)] = some true := by simp [eqAt]
theorem eqN5 (x y z u v : Int) : eqAt [.int .i64 x, .int .i64 y, .int .i64 z, .int .i64 u, .int .i64 v] [.int .i64 x, .int .i64 y, .int .i64 z, .int .i64 u, .int .i64 v] [(0, 0), (1, 0), (2, 0), (3, 0), (4, 0)] = some true := by simp [eqAt]
theorem twinTask_spec (t : Tk) (h : t.tk.length * 8 ≤ reachBytes) : PCall Try.prog 40 [encTk b t] (.d (encTk false t)) := by
  have hr : reachBytes = 140737488351232 := rfl
  rw [hr] at h
  have h2 : t.tk.length * 8 ≤ 140737488355328 := by omega
  refine pcallS (fn := Try.f40) [] [] mixed (bodyOf Try.f40) [.cell 2 91] Try.func40 rfl rfl (by decide) 8 rfl (by kernel_rfl) ?_
  simp -implicitDefEqProofs [↓gd_tt, ↓gd_ff, ↓gd_tf, ↓gd_ft, bodyOf, Try.f40, stripC, stripL, stripM, onsOf, upto, hintOf, freeOf, List.replicate]
  exact h2
theorem map_take_snoc {α β : Type} (f : α → β) {l : List α} {i : Nat} (h : i < l.length) : (l.take (i + 1)).map f = (l.take i).map f ++ [f l[i]] := by
  rw [List.take_add_one, List.getElem?_eq_getElem h, Option.toList_some, List.map_append]; rfl
theorem twinLeases_spec (l : List Le) (hl : l.length ≤ 1000000) (h : ∀ x ∈ l, x.cs.length * 8 ≤ reachBytes) : PCall Try.prog 41 [encLfs b l] (.d (encLfs false l)) := by
  have hll : l.length ≤ maxLen := Nat.le_trans hl (by decide)
  refine pcallS (fn := Try.f41) [] [] mixed (bodyOf Try.f41) [.tmp 2] Try.func41 rfl rfl (by decide) 22 rfl (by kernel_rfl) ?_
  simp -implicitDefEqProofs [↓gd_tt, ↓gd_ff, ↓gd_tf, ↓gd_ft, bodyOf, Try.f41, stripC, stripL, stripM, onsOf, upto, hintOf, freeOf, List.replicate]
  refine loopA mixed [false, false, false, true, false, true, false, false, true, true, true, true, true, true, true, true, true, true, true, true, true, true] (fun (i : Nat) => [(3, .own 8 ((l.take i).map (encLf false))), (8, .d (I i))]) (fun (i : Nat) => []) (fun (i : Nat) => i ≤ l.length) (fun (i : Nat) => l.length - i) (0) (Nat.zero_le _) (by simp) ?_
  rintro i hx
  rcases Nat.lt_or_eq_of_le hx with hi | hi
  · have hwi := wrap1 hll hi
    have hb := h _ (List.getElem_mem hi)
    have hr : reachBytes = 140737488351232 := rfl
    rw [hr] at hb
    have hb2 : l[i].cs.length * 8 ≤ 140737488355328 := by omega
    have hst := map_take_snoc (encLf false) hi
    have hln : ((l.take i).map (encLf false)).length ≤ i := by simp; omega
    generalize (l.take i).map (encLf false) = L at *
    have b1 : (L.length + 1) * 80 ≤ 140737488355328 := by omega
    simp -implicitDefEqProofs [↓gd_tt, ↓gd_ff, ↓gd_tf, ↓gd_ft, hi, hwi, hb2, b1]
    exact ⟨i + 1, by omega, by omega, by rw [← List.map_take, hst]; exact ⟨rfl, rfl⟩⟩
  · rw [hi, List.take_length]
    simp -implicitDefEqProofs [↓gd_tt, ↓gd_ff, ↓gd_tf, ↓gd_ft]
theorem twinState_spec (s : Sta) (h1 : s.qs.length * 56 ≤ reachBytes) (h2 : s.ns.length * 40 ≤ reachBytes) (h3 : s.hs.length * 16 ≤ reachBytes) (ht : s.ts.length ≤ 1000000) (ht2 : ∀ x ∈ s.ts, x.tk.length * 8 ≤ reachBytes) (hl : s.ls.length ≤ 1000000) (hl2 : ∀ x ∈ s.ls, x.cs.length * 8 ≤ reachBytes) : PCall Try.prog 12 [encSt b s] (.d (encSt false s)) := by
  have hll : s.ts.length ≤ maxLen := Nat.le_trans ht (by decide)
  have hr : reachBytes = 140737488351232 := rfl
  rw [hr] at h1 h2 h3
  have k1 : s.qs.length * 56 ≤ 140737488355328 := by omega
  have k2 : s.ns.length * 40 ≤ 140737488355328 := by omega
  have k3 : s.hs.length * 16 ≤ 140737488355328 := by omega
  refine pcallS (fn := Try.f12) [] [] mixed (bodyOf Try.f12) [.cell 2 28] Try.func12 rfl rfl (by decide) 40 rfl (by kernel_rfl) ?_
  simp -implicitDefEqProofs [↓gd_tt, ↓gd_ff, ↓gd_tf, ↓gd_ft, bodyOf, Try.f12, stripC, stripL, stripM, onsOf, upto, hintOf, freeOf, List.replicate, k1, k2, k3]
  refine loopA mixed [false, false, false, true, false, true, false, false, false, false, false, false, false, false, false, false, false, false, false, true, true, true, true, true, true, true, true, true, true] (fun (i : Nat) => [(3, .own 7 ((s.ts.take i).map (encTk false))), (19, .d (I i))]) (fun (i : Nat) => [.var [.d (I s.long), .d (I s.pat), .d (I s.now), .own 7 (s.qs.map encQ), .own 5 (s.ns.map encNd), .d (.sl b 7 (s.ts.map (encTk b))), .d (.sl b 8 (s.ls.map (encLf b))), .d (.sl b 2 (s.hs.map encHu))], .var [.d (I 0), .d (I 0), .d (I 0), .nil 7, .nil 5, .nil 7, .nil 8, .nil 2]]) (fun (i : Nat) => i ≤ s.ts.length) (fun (i : Nat) => s.ts.length - i) (0) (Nat.zero_le _) (by simp) ?_
  rintro i hx
  rcases Nat.lt_or_eq_of_le hx with hi | hi
  · have hwi := wrap1 hll hi
    have h1 := twinTask_spec b s.ts[i] (ht2 _ (List.getElem_mem hi))
    have hst := map_take_snoc (encTk false) hi
    have hln : ((s.ts.take i).map (encTk false)).length ≤ i := by simp; omega
    generalize (s.ts.take i).map (encTk false) = L at *
    have b1 : (L.length + 1) * 72 ≤ 140737488355328 := by omega
    simp -implicitDefEqProofs [↓gd_tt, ↓gd_ff, ↓gd_tf, ↓gd_ft, hi]
    refine callK_pcall h1 rfl rfl ?_
    simp -implicitDefEqProofs [↓gd_tt, ↓gd_ff, ↓gd_tf, ↓gd_ft, hi, hwi, b1]
    exact ⟨i + 1, by omega, by omega, by rw [← List.map_take, hst]; exact ⟨rfl, rfl⟩⟩
  rw [hi, List.take_length]
  simp -implicitDefEqProofs [↓gd_tt, ↓gd_ff, ↓gd_tf, ↓gd_ft]
  refine callK_pcall (twinLeases_spec b s.ls hl hl2) rfl rfl ?_
  simp -implicitDefEqProofs [↓gd_tt, ↓gd_ff, ↓gd_tf, ↓gd_ft, k3]
theorem sameTask_spec (t : Tk) (h : t.tk.length ≤ maxLen) : PCall Try.prog 59 [encTk b t, encTk c t] (.d (.bool true)) := by
  have h1 := ints_spec b c t.tk t.tk h
  refine pcallS (fn := Try.f59) [] [] mixed (bodyOf Try.f59) [.tmp 4] Try.func59 rfl rfl (by decide) 43 rfl (by kernel_rfl) ?_
  simp -implicitDefEqProofs [↓gd_tt, ↓gd_ff, ↓gd_tf, ↓gd_ft, bodyOf, Try.f59, stripC, stripL, stripM, onsOf, upto, hintOf, freeOf, List.replicate]
  simp -implicitDefEqProofs [↓gd_tt, ↓gd_ff, ↓gd_tf, ↓gd_ft, eqAt]
  refine callK_pcall h1 rfl rfl ?_
  simp -implicitDefEqProofs [↓gd_tt, ↓gd_ff, ↓gd_tf, ↓gd_ft]
theorem sameLease_spec (x : Le) (h : x.cs.length ≤ maxLen) : PCall Try.prog 117 [encLf b x, encLf c x] (.d (.bool true)) := by
  have h1 := ints_spec b c x.cs x.cs h
  refine pcallS (fn := Try.f117) [] [] mixed (bodyOf Try.f117) [.tmp 4] Try.func117 rfl rfl (by decide) 57 rfl (by kernel_rfl) ?_
  simp -implicitDefEqProofs [↓gd_tt, ↓gd_ff, ↓gd_tf, ↓gd_ft, bodyOf, Try.f117, stripC, stripL, stripM, onsOf, upto, hintOf, freeOf, List.replicate]
  refine callK_pcall h1 rfl rfl ?_
  simp -implicitDefEqProofs [↓gd_tt, ↓gd_ff, ↓gd_tf, ↓gd_ft]
theorem sameLeases_spec (l : List Le) (hl : l.length ≤ maxLen) (h : ∀ x ∈ l, x.cs.length ≤ maxLen) : PCall Try.prog 61 [encLfs b l, encLfs c l] (.d (.bool true)) := by
  refine pcallS (fn := Try.f61) [] [] mixed (bodyOf Try.f61) [.tmp 4] Try.func61 rfl rfl (by decide) 25 rfl (by kernel_rfl) ?_
  simp -implicitDefEqProofs [↓gd_tt, ↓gd_ff, ↓gd_tf, ↓gd_ft, bodyOf, Try.f61, stripC, stripL, stripM, onsOf, upto, hintOf, freeOf, List.replicate]
  refine loopA mixed [false, false, false, false, true, true, false, false, false, false, false, false, false, true, true, true, true, true, true, true, true, true, true, true, true, true, true] (fun (i : Nat) => [(13, .d (I i))]) (fun (i : Nat) => []) (fun (i : Nat) => i ≤ l.length) (fun (i : Nat) => l.length - i) (0) (Nat.zero_le _) (by simp) ?_
  rintro i hx
  rcases Nat.lt_or_eq_of_le hx with hi | hi
  · have hwi := wrap1 hl hi
    have h1 := sameLease_spec b c l[i] (h _ (List.getElem_mem hi))
    simp -implicitDefEqProofs [↓gd_tt, ↓gd_ff, ↓gd_tf, ↓gd_ft, hi]
    refine free_pcall h1 rfl rfl ?_
    simp -implicitDefEqProofs [↓gd_tt, ↓gd_ff, ↓gd_tf, ↓gd_ft, hi, hwi]
    omega
  · simp -implicitDefEqProofs [↓gd_tt, ↓gd_ff, ↓gd_tf, ↓gd_ft, hi]
theorem sameQs_spec (l : List Q) (hl : l.length ≤ maxLen) : PCall Try.prog 60 [encL b l, encL c l] (.d (.bool true)) := by
  refine pcallS (fn := Try.f60) [] [] mixed (bodyOf Try.f60) [.tmp 4] Try.func60 rfl rfl (by decide) 24 rfl (by kernel_rfl) ?_
  simp -implicitDefEqProofs [↓gd_tt, ↓gd_ff, ↓gd_tf, ↓gd_ft, bodyOf, Try.f60, stripC, stripL, stripM, onsOf, upto, hintOf, freeOf, List.replicate]
  refine loopA mixed [false, false, false, false, true, true, false, false, false, false, false, false, false, true, true, true, true, true, true, true, true, true, true, true, true, true] (fun (i : Nat) => [(13, .d (I i))]) (fun (i : Nat) => []) (fun (i : Nat) => i ≤ l.length) (fun (i : Nat) => l.length - i) (0) (Nat.zero_le _) (by simp) ?_
  rintro i hx
  rcases Nat.lt_or_eq_of_le hx with hi | hi
  · have hwi := wrap1 hl hi
    simp -implicitDefEqProofs [↓gd_tt, ↓gd_ff, ↓gd_tf, ↓gd_ft, hi, hwi, eqQ]
    omega
  · simp -implicitDefEqProofs [↓gd_tt, ↓gd_ff, ↓gd_tf, ↓gd_ft, hi]
theorem samePr_spec (l : List (Int × Int)) (hl : l.length ≤ maxLen) : PCall Try.prog 14 [.sl b 2 (l.map encV), .sl c 2 (l.map encV)] (.d (.bool true)) := by
  refine pcallS (fn := Try.f14) [] [] mixed (bodyOf Try.f14) [.tmp 4] Try.func14 rfl rfl (by decide) 39 rfl (by kernel_rfl) ?_
  simp -implicitDefEqProofs [↓gd_tt, ↓gd_ff, ↓gd_tf, ↓gd_ft, bodyOf, Try.f14, stripC, stripL, stripM, onsOf, upto, hintOf, freeOf, List.replicate]
  refine loopA mixed [false, false, false, false, true, true, false, false, false, false, false, false, false, true, true, true, true, true, true, true, true, true, true, true, true, true, true, true, true, true, true, true, true, true, true, true, true, true, true, true, true] (fun (i : Nat) => [(13, .d (I i))]) (fun (i : Nat) => []) (fun (i : Nat) => i ≤ l.length) (fun (i : Nat) => l.length - i) (0) (Nat.zero_le _) (by simp) ?_
  rintro i hx
  rcases Nat.lt_or_eq_of_le hx with hi | hi
  · have hwi := wrap1 hl hi
    simp -implicitDefEqProofs [↓gd_tt, ↓gd_ff, ↓gd_tf, ↓gd_ft, hi, hwi]
    omega
  · simp -implicitDefEqProofs [↓gd_tt, ↓gd_ff, ↓gd_tf, ↓gd_ft, hi]
abbrev stD' (b : Bool) (s : Sta) : IObj := .var [.d (.int .i64 s.long), .d (.int .i64 s.pat), .d (.int .i64 s.now), .d (.sl b 7 (s.qs.map encQ)), .d (.sl b 5 (s.ns.map encNd)), .d (.sl b 7 (s.ts.map (encTk b))), .d (.sl b 8 (s.ls.map (encLf b))), .d (.sl b 2 (s.hs.map encHu))]
theorem sameState_spec (s : Sta) (hq : s.qs.length ≤ maxLen) (hn : s.ns.length ≤ maxLen) (ht : s.ts.length ≤ maxLen) (hl : s.ls.length ≤ maxLen) (hh : s.hs.length ≤ maxLen) (ht2 : ∀ x ∈ s.ts, x.tk.length ≤ maxLen) (hl2 : ∀ x ∈ s.ls, x.cs.length ≤ maxLen) : PCall Try.prog 16 [encSt b s, encSt c s] (.d (.bool true)) := by
  refine pcallS (fn := Try.f16) [] [] mixed (bodyOf Try.f16) [.tmp 4] Try.func16 rfl rfl (by decide) 119 rfl (by kernel_rfl) ?_
  simp -implicitDefEqProofs [↓gd_tt, ↓gd_ff, ↓gd_tf, ↓gd_ft, bodyOf, Try.f16, stripC, stripL, stripM, onsOf, upto, hintOf, freeOf, List.replicate]
  refine loopA mixed [false, false, false, false, true, true, false, false, false, false, false, false, false, false, false, false, false, false, false, false, false, false, false, false, false, false, false, false, false, false, false, false, false, false, false, false, false, false, false, false, false, false, false, false, false, false, false, false, false, false, false, false, false, false, false, false, false, true, true, true, true, true, true, true, true, true, true, true, true, true, true, true] (fun (i : Nat) => [(57, .d (I i))]) (fun (i : Nat) => [stD' b s, stD' c s]) (fun (i : Nat) => i ≤ s.ns.length) (fun (i : Nat) => s.ns.length - i) (0) (Nat.zero_le _) (by simp) ?_
  rintro i hx
  rcases Nat.lt_or_eq_of_le hx with hi | hi
  · have hwi := wrap1 hn hi
    simp -implicitDefEqProofs [↓gd_tt, ↓gd_ff, ↓gd_tf, ↓gd_ft, hi, hwi, eqN5]
    omega
  simp -implicitDefEqProofs [↓gd_tt, ↓gd_ff, ↓gd_tf, ↓gd_ft, hi]
  clear hx hi
  refine loopA mixed [false, false, false, false, true, false, true, false, false, false, false, false, false, false, false, false, false, false, false, false, false, false, false, false, false, false, false, false, false, false, false, false, false, false, false, false, false, false, false, false, false, false, false, false, false, false, false, false, false, false, false, false, false, false, false, false, false, false, false, false, false, false, false, false, false, false, false, false, false, false, false, false, false, false, false, true, true, true, true, true, true, true, true, true, true, true, true, true, true, true, true] (fun (i : Nat) => [(75, .d (I i))]) (fun (i : Nat) => [stD' b s, stD' c s]) (fun (i : Nat) => i ≤ s.ts.length) (fun (i : Nat) => s.ts.length - i) (0) (Nat.zero_le _) (by simp) ?_
  rintro i hx
  rcases Nat.lt_or_eq_of_le hx with hi | hi
  · have hwi := wrap1 ht hi
    have h1 := sameTask_spec b c s.ts[i] (ht2 _ (List.getElem_mem hi))
    simp -implicitDefEqProofs [↓gd_tt, ↓gd_ff, ↓gd_tf, ↓gd_ft, hi]
    refine free_pcall h1 rfl rfl ?_
    simp -implicitDefEqProofs [↓gd_tt, ↓gd_ff, ↓gd_tf, ↓gd_ft, hi, hwi]
    omega
  simp -implicitDefEqProofs [↓gd_tt, ↓gd_ff, ↓gd_tf, ↓gd_ft, hi]
  clear hx hi
  refine loopA mixed [false, false, false, false, true, false, false, true, false, false, false, false, false, false, false, false, false, false, false, false, false, false, false, false, false, false, false, false, false, false, false, false, false, false, false, false, false, false, false, false, false, false, false, false, false, false, false, false, false, false, false, false, false, false, false, false, false, false, false, false, false, false, false, false, false, false, false, false, false, false, false, false, false, false, false, false, false, false, false, false, false, false, false, false, false, false, false, false, false, false, false, false, false, false, true, true, true, true, true, true, true, true, true, true, true, true, true, true, true] (fun (i : Nat) => [(94, .d (I i))]) (fun (i : Nat) => [stD' b s, stD' c s]) (fun (i : Nat) => i ≤ s.hs.length) (fun (i : Nat) => s.hs.length - i) (0) (Nat.zero_le _) (by simp) ?_
  rintro i hx
  rcases Nat.lt_or_eq_of_le hx with hi | hi
  · have hwi := wrap1 hh hi
    simp -implicitDefEqProofs [↓gd_tt, ↓gd_ff, ↓gd_tf, ↓gd_ft, hi, hwi, eqV2]
    omega
  simp -implicitDefEqProofs [↓gd_tt, ↓gd_ff, ↓gd_tf, ↓gd_ft, hi]
  clear hx hi
  refine callK_pcall (sameQs_spec b c s.qs hq) rfl rfl ?_
  simp -implicitDefEqProofs [↓gd_tt, ↓gd_ff, ↓gd_tf, ↓gd_ft]
  refine callK_pcall (sameLeases_spec b c s.ls hl hl2) rfl rfl ?_
  simp -implicitDefEqProofs [↓gd_tt, ↓gd_ff, ↓gd_tf, ↓gd_ft]
end Go.Idl
end
section
namespace Go.Idl
open Go.Proofs
set_option linter.unusedSimpArgs false
set_option linter.unusedVariables false
set_option maxRecDepth 8000
set_option maxHeartbeats 2000000
variable (b : Bool)

theorem nodes_spec (s : Sta) (what : Int) (f : Fn) (caps : List V) (hp : List IObj) (K : V → List IObj → Prop) (hc : caps.all V.bare = true) (hk : K (.fn (.func 103) [.ptr hp.length 0, .ptr (hp.length + 2) 0, .ptr (hp.length + 1) 0]) (hp ++ [stC b s, .var [.d (I what)], .var [.fn f caps]])) : CallK Try.prog 46 [.d (encSt b s), .d (I what), .fn f caps] hp K := by
  refine callS (fn := Try.f46) [] [] mixed (bodyOf Try.f46) [.tmp 6] Try.func46 rfl rfl (by decide) 5 rfl (by kernel_rfl) ?_
  simp -implicitDefEqProofs [↓gd_tt, ↓gd_ff, ↓gd_tf, ↓gd_ft, bodyOf, Try.f46, stripC, stripL, stripM, onsOf, upto, hintOf, freeOf, List.replicate]
  simpa [hc] using hk
theorem leases_spec (s : Sta) (what : Int) (f : Fn) (caps : List V) (hp : List IObj) (K : V → List IObj → Prop) (hc : caps.all V.bare = true) (hk : K (.fn (.func 105) [.ptr hp.length 0, .ptr (hp.length + 2) 0, .ptr (hp.length + 1) 0]) (hp ++ [stC b s, .var [.d (I what)], .var [.fn f caps]])) : CallK Try.prog 49 [.d (encSt b s), .d (I what), .fn f caps] hp K := by
  refine callS (fn := Try.f49) [] [] mixed (bodyOf Try.f49) [.tmp 6] Try.func49 rfl rfl (by decide) 5 rfl (by kernel_rfl) ?_
  simp -implicitDefEqProofs [↓gd_tt, ↓gd_ff, ↓gd_tf, ↓gd_ft, bodyOf, Try.f49, stripC, stripL, stripM, onsOf, upto, hintOf, freeOf, List.replicate]
  simpa [hc] using hk
/-- the tasks that leases are of, marked -/
theorem mark1_numA (l : List Int) : mark1 l (encM I (numA (fun _ => 1) l)) := fun q => by
  refine ⟨3, 3, by kernel_rfl, ?_⟩
  rcases numA_find (fun _ => 1) q l with ⟨h1, h2⟩ | ⟨h1, i, h2⟩
  · exact Or.inr ⟨h1, h2⟩
  · exact Or.inl ⟨h1, i, h2⟩
theorem rising_fresh {α : Type} (g : α → Int) {l : List α} (hr : Rising (l.map g)) {i : Nat} (hi : i < l.length) : g l[i] ∉ (l.take i).map g := by
  intro hm
  have hp := rising_pair hr
  rw [List.pairwise_iff_getElem] at hp
  obtain ⟨x, hx, e⟩ := List.mem_map.1 hm
  obtain ⟨j, hj, e2⟩ := List.getElem_of_mem hx
  rw [List.length_take] at hj
  have h1 := hp j i (by simp; omega) (by simp; omega) (by omega)
  rw [List.getElem_take] at e2
  simp only [List.getElem_map, e2, e] at h1
  omega
theorem bare_spec (s : Sta) (hl : s.ls.length ≤ maxLen) (hr : Rising (s.ls.map (·.t))) (hp : List IObj) (hlt : ltObjs hp.length hp = true) (K : V → List IObj → Prop) (hk : K (.fn (.func 107) [.ptr hp.length 0, .ptr (hp.length + 2) 0]) (hp ++ [stC b s, .map s.ls.length (encM I (numA (fun _ => 1) (s.ls.map (·.t)))), .var [.map (hp.length + 1)]])) : CallK Try.prog 51 [.d (encSt b s)] hp K := by
  refine callS (fn := Try.f51) [] [] mixed (bodyOf Try.f51) [.tmp 2] Try.func51 rfl rfl (by decide) 18 rfl (by kernel_rfl) ?_
  simp -implicitDefEqProofs [↓gd_tt, ↓gd_ff, ↓gd_tf, ↓gd_ft, bodyOf, Try.f51, stripC, stripL, stripM, onsOf, upto, hintOf, freeOf, List.replicate]
  refine loopA mixed [false, false, false, false, false, true, false, false, false, false, true, true, true, true, true, true, true, true] (fun (j : Nat) => [(10, .d (I j))]) (fun (j : Nat) => hp ++ [stC b s, .map j (encM I (numA (fun _ => 1) ((s.ls.map (·.t)).take j))), .var [.map (hp.length + 1)]]) (fun (j : Nat) => j ≤ s.ls.length) (fun (j : Nat) => s.ls.length - j) (0) (Nat.zero_le _) (by simp [ltObjs_append, ltObjs, IObj.lt, V.ltL, V.lt, numA, encM, constV_nilf]; exact ⟨ltObjs_mono (by simp) hlt, by rw [List.take_of_length_le (by simp)]⟩) ?_
  rintro j hx
  rcases Nat.lt_or_eq_of_le hx with hjl | hjl
  · have hfd := numA_find (fun _ => 1) s.ls[j].t ((s.ls.map (·.t)).take j)
    have hfr := rising_fresh (fun x : Le => x.t) hr hjl
    have hwj := wrap1 hl hjl
    have hta : (s.ls.map (·.t)).take (j + 1) = (s.ls.map (·.t)).take j ++ [s.ls[j].t] := by rw [List.take_add_one, List.getElem?_eq_getElem (by simpa using hjl)]; simp
    rcases hfd with ⟨h3, h4⟩ | ⟨h3, q, h4⟩
    · simp -implicitDefEqProofs [↓gd_tt, ↓gd_ff, ↓gd_tf, ↓gd_ft, hjl, keyOKI, h4, hwj]
      refine ⟨j + 1, by omega, by omega, rfl, by simp [constV_nilf], ?_, ?_⟩
      · rw [ltObjs_append, Bool.and_eq_true]
        exact ⟨ltObjs_mono (by simp) hlt, by simp [ltObjs, IObj.lt, V.ltL, V.lt, numA_lt]⟩
      · have hlen : ((s.ls.map (·.t)).take j).length = j := by simp; omega
        have htk : ∀ (A : List IObj) (a c d e : IObj), (A ++ [a, c, d, e]).take (A.length + 3) = A ++ [a, c, d] := fun A a c d e => by
          rw [show A ++ [a, c, d, e] = (A ++ [a, c, d]) ++ [e] by simp]
          exact List.take_left' (by simp)
        rw [htk, hta, numA_snoc, ← encM_append, hlen]
    · exact absurd h3 (by rw [← List.map_take]; exact hfr)
  · have htj : (s.ls.map (·.t)).take j = s.ls.map (·.t) := by rw [hjl, ← List.length_map (f := fun x : Le => x.t)]; exact List.take_length
    rw [hjl] at htj
    simp -implicitDefEqProofs [↓gd_tt, ↓gd_ff, ↓gd_tf, ↓gd_ft, hjl, htj]
    exact hk
end Go.Idl
end
section
namespace Go.Idl
open Go.Proofs
set_option linter.unusedSimpArgs false
set_option linter.unusedVariables false
set_option maxRecDepth 8000
set_option maxHeartbeats 2000000
variable (b : Bool)

/-- whose the cores are -/
def ownI (ls : List Le) (A : AL Int) : Prop := (∀ q : Int, (aLook q A = none ∧ ∀ x ∈ ls, q ∉ x.cs) ∨ ∃ x ∈ ls, q ∈ x.cs ∧ aLook q A = some (.d (I x.t))) ∧ ∀ e ∈ A, ∃ t : Int, e.2.2 = .d (I t)
theorem ownI_lt {m : Nat} {ls : List Le} {A : AL Int} (h : ownI ls A) : V.ltL m ((encM I A).map fun x => x.2.2) = true := by
  have h2 := h.2
  clear h
  induction A with
  | nil => rfl
  | cons a A ih =>
    obtain ⟨t, e⟩ := h2 a (by simp)
    have := ih fun e he => h2 e (by simp [he])
    simp only [encM, List.map_cons, V.ltL] at this ⊢
    rw [this, e]; rfl
theorem ownI_nil : ownI [] [] := ⟨fun q => .inl ⟨rfl, by simp⟩, by simp⟩
/-- a part of a lease's cores -/
def partLe (x : Le) (j : Nat) : Le := { x with cs := x.cs.take j }
theorem ownI_zero {L : List Le} {A : AL Int} {x : Le} (h : ownI L A) : ownI (L ++ [partLe x 0]) A := ⟨fun q => by
  rcases h.1 q with ⟨h1, h2⟩ | ⟨y, h1, h2, h3⟩
  · refine .inl ⟨h1, fun y hy => ?_⟩
    rcases List.mem_append.1 hy with hy | hy
    · exact h2 y hy
    · rw [List.mem_singleton] at hy; subst hy; simp [partLe]
  · exact .inr ⟨y, List.mem_append_left _ h1, h2, h3⟩, h.2⟩
theorem ownI_all {L : List Le} {A : AL Int} {x : Le} {j : Nat} (hj : x.cs.length ≤ j) (h : ownI (L ++ [partLe x j]) A) : ownI (L ++ [x]) A := by
  have : partLe x j = x := by unfold partLe; rw [List.take_of_length_le hj]
  rwa [this] at h
theorem ownI_step {L : List Le} {A B : AL Int} {x : Le} {j : Nat} (hj : j < x.cs.length) (h : ownI (L ++ [partLe x j]) A) (hB : ∀ q, aLook q B = if q = x.cs[j] then some (.d (I x.t)) else aLook q A) (hv : ∀ e ∈ B, ∃ t : Int, e.2.2 = .d (I t)) : ownI (L ++ [partLe x (j + 1)]) B := by
  have hta : x.cs.take (j + 1) = x.cs.take j ++ [x.cs[j]] := by rw [List.take_add_one, List.getElem?_eq_getElem hj]; rfl
  refine ⟨fun q => ?_, hv⟩
  rw [hB]
  by_cases hq : q = x.cs[j]
  · rw [if_pos hq]
    exact .inr ⟨partLe x (j + 1), by simp, by show q ∈ x.cs.take (j + 1); rw [hta]; exact List.mem_append_right _ (List.mem_singleton.2 hq), rfl⟩
  · rw [if_neg hq]
    rcases h.1 q with ⟨h1, h2⟩ | ⟨y, h1, h2, h3⟩
    · refine .inl ⟨h1, fun y hy => ?_⟩
      rcases List.mem_append.1 hy with hy | hy
      · exact h2 y (List.mem_append_left _ hy)
      · rw [List.mem_singleton] at hy; subst hy
        have := h2 (partLe x j) (by simp)
        simp only [partLe] at this ⊢
        rw [hta, List.mem_append]
        rintro (h4 | h4)
        · exact this h4
        · exact hq (List.mem_singleton.1 h4)
    · rcases List.mem_append.1 h1 with hy | hy
      · exact .inr ⟨y, List.mem_append_left _ hy, h2, h3⟩
      · rw [List.mem_singleton] at hy; subst hy
        refine .inr ⟨partLe x (j + 1), by simp, ?_, h3⟩
        simp only [partLe] at h2 ⊢
        rw [hta]; exact List.mem_append_left _ h2
theorem two_spec (s : Sta) (n : Nd) (hl6 : s.ls.length ≤ 1000000) (hw1 : ∀ x ∈ s.ls, x.cs.length ≤ maxLen) (hr : Rising (s.ls.map (·.t))) : PCall Try.prog 48 [encSt b s, encNd n] (.d (.bool (twiceN s.ls n))) := by
  have hll := small6 hl6
  have hF : (onN n.id s.ls).length ≤ s.ls.length := List.length_filter_le _ _
  refine pcallS (fn := Try.f48) [] [] mixed (bodyOf Try.f48) [.cell 4 4] Try.func48 rfl rfl (by decide) 40 rfl (by kernel_rfl) ?_
  simp -implicitDefEqProofs [↓gd_tt, ↓gd_ff, ↓gd_tf, ↓gd_ft, bodyOf, Try.f48, stripC, stripL, stripM, onsOf, upto, hintOf, freeOf, List.replicate]
  refine on_spec b s n.id _ _ ?_
  simp -implicitDefEqProofs [↓gd_tt, ↓gd_ff, ↓gd_tf, ↓gd_ft]
  refine rangeYl mixed (on_yields b s n.id 5 6 hll) (by simp) (by simp) (by simp) (by simp [constV_nilf]) (by simp) (by intro y hy; obtain ⟨p, _, rfl⟩ := List.mem_map.1 hy; simp)
    (fun k hp => ∃ A : AL Int, ∃ c, hp = [stC b s, .var ((encNd n).flat.map V.d), .var [.d (.bool false)], .map c (encM I A), .var [.map 3], stC b s, .var [.d (I n.id)]] ∧ k ≤ (onN n.id s.ls).length ∧ ownI ((onN n.id s.ls).take k) A ∧ apart ((onN n.id s.ls).take k)) ⟨[], 0, rfl, Nat.zero_le _, ownI_nil, by simp [apart]⟩ (by rintro k hp ⟨A, c, rfl, _, ho, _⟩; have := ownI_lt (m := 7) ho; simp [ltObjs, IObj.lt, V.ltL, V.lt, this]) ?_ ?_
  · rintro k hp ⟨A, c, rfl, hk, ho, hap⟩ hik L0 L1 hL1
    have hk' : k < (onN n.id s.ls).length := by simpa using hik
    have hmem : (onN n.id s.ls)[k] ∈ s.ls := (List.mem_filter.1 (List.getElem_mem hk')).1
    have hcl := hw1 _ hmem
    simp only [List.getElem_map]
    have hL9 : L1.lt 9 = true := IObj.lt_mono (by simp) hL1
    have hsp : (onN n.id s.ls).take (k + 1) = (onN n.id s.ls).take k ++ [(onN n.id s.ls)[k]] := by rw [List.take_add_one, List.getElem?_eq_getElem hk']; rfl
    have htk : ∀ z ∈ (onN n.id s.ls).take k, z.t ≠ (onN n.id s.ls)[k].t := fun z hz e => by
      have hp0 := rising_pair hr
      rw [List.pairwise_map] at hp0
      have hp1 := (hp0.filter fun x => decide (x.n = n.id)).sublist (List.take_sublist (k + 1) _)
      have hsp2 := hsp
      unfold onN at hsp2 hz e
      rw [hsp2, List.pairwise_append] at hp1
      have := hp1.2.2 z hz _ (List.mem_singleton.2 rfl)
      omega
    have htw : ∀ z ∈ (onN n.id s.ls).take k, ∀ c ∈ (onN n.id s.ls)[k].cs, c ∈ z.cs → twiceN s.ls n = true := fun z hz c hc hcz => by
      unfold twiceN
      rw [Bool.not_eq_true', decide_eq_false_iff_not]
      intro h
      have h2 : ((onN n.id s.ls).take (k + 1)).Pairwise (fun y x => ∀ c ∈ x.cs, c ∉ y.cs) := List.Pairwise.sublist (List.take_sublist (k + 1) _) h
      rw [hsp, List.pairwise_append] at h2
      exact h2.2.2 z hz _ (List.mem_singleton.2 rfl) c hc hcz
    have hol : ∀ {L : List Le} {A : AL Int} {m : Nat}, ownI L A → V.ltL m ((encM I A).map fun x => x.2.2) = true := fun h => ownI_lt h
    rw [hsp]
    generalize (onN n.id s.ls)[k] = x at *
    generalize (onN n.id s.ls).take k = L at *
    simp -implicitDefEqProofs [↓gd_tt, ↓gd_ff, ↓gd_tf, ↓gd_ft]
    refine loopA mixed [false, false, false, false, false, false, false, false, true, true, true, false, false, false, false, false, false, false, false, false, true, true, true, true, true, true, true, true, true, true, true, true, true, true, true, true, true, true, true, true, true, true] (fun (y : Nat × AL Int × Nat) => [(20, .d (I y.1))]) (fun (y : Nat × AL Int × Nat) => [stC b s, .var ((encNd n).flat.map V.d), .var [.d (.bool false)], .map y.2.2 (encM I y.2.1), .var [.map 3], stC b s, .var [.d (I n.id)], L1, .var ((encLf b x).flat.map V.d)]) (fun (y : Nat × AL Int × Nat) => y.1 ≤ x.cs.length ∧ ownI (L ++ [partLe x y.1]) y.2.1 ∧ ∀ z ∈ L, ∀ c ∈ x.cs.take y.1, c ∉ z.cs) (fun (y : Nat × AL Int × Nat) => x.cs.length - y.1) ((0, A, c)) (⟨Nat.zero_le _, ownI_zero ho, by simp⟩) (by simp [ltObjs, IObj.lt, V.ltL, V.lt, constV_nilf, hol ho]; exact hL9) ?_
    rintro y hx
    obtain ⟨j, B, d⟩ := y
    obtain ⟨hj, ho2, hap2⟩ := hx
    simp only at hj ho2 hap2 ⊢
    rcases Nat.lt_or_eq_of_le hj with hjl | hjl
    · have hwj := wrap1 hcl hjl
      have hta : x.cs.take (j + 1) = x.cs.take j ++ [x.cs[j]] := by rw [List.take_add_one, List.getElem?_eq_getElem hjl]; rfl
      have hmf := mfind_enc (P := Try.prog) (kt := 3) (enck := I) keyEqI x.cs[j] B 0
      cases hf : aFind x.cs[j] B 0 with
      | none =>
        rw [hf] at hmf
        have hnl := aFind_none.1 hf
        have hst := ownI_step (B := B ++ [(d, x.cs[j], .d (I x.t))]) hjl ho2 (aLook_append hnl) (by
          intro e he
          rcases List.mem_append.1 he with he | he
          · exact ho2.2 e he
          · rw [List.mem_singleton] at he; subst he; exact ⟨_, rfl⟩)
        have hnx : ∀ z ∈ L ++ [partLe x j], x.cs[j] ∉ z.cs := by
          rcases ho2.1 x.cs[j] with ⟨_, h⟩ | ⟨_, _, _, h⟩
          · exact h
          · rw [hnl] at h; cases h
        simp -implicitDefEqProofs [↓gd_tt, ↓gd_ff, ↓gd_tf, ↓gd_ft, hjl, keyOKI, hmf, hwj]
        refine ⟨j + 1, _, ⟨by omega, hst, ?_⟩, by omega, rfl, ⟨ownI_lt hst, hL9⟩, encM_append _ _ _ _⟩
        intro z hz q hq
        rw [hta] at hq
        rcases List.mem_append.1 hq with hq | hq
        · exact hap2 z hz q hq
        · rw [List.mem_singleton.1 hq]; exact hnx z (List.mem_append_left _ hz)
      | some p =>
        obtain ⟨i, v⟩ := p
        rw [hf] at hmf
        have hlk : aLook x.cs[j] B = some v := by unfold aLook; rw [hf]; rfl
        rcases ho2.1 x.cs[j] with ⟨h, _⟩ | ⟨z, hz, hcz, h⟩
        · rw [hlk] at h; cases h
        rw [hlk] at h
        injection h with h; subst h
        rcases List.mem_append.1 hz with hz | hz
        · have ht := htw z hz x.cs[j] (List.getElem_mem hjl) hcz
          have hne := htk z hz
          simp -implicitDefEqProofs [↓gd_tt, ↓gd_ff, ↓gd_tf, ↓gd_ft, hjl, keyOKI, hmf, hwj, ht, hne]
          exact hol ho2
        · rw [List.mem_singleton] at hz; subst hz
          simp -implicitDefEqProofs [↓gd_tt, ↓gd_ff, ↓gd_tf, ↓gd_ft, hjl, keyOKI, hmf, hwj, show (partLe x j).t = x.t from rfl]
          have hst := ownI_step (B := B.modify i fun e => (e.1, e.2.1, .d (I x.t))) hjl ho2 (aLook_modify hf) (by
            intro e he
            obtain ⟨q, hq, rfl⟩ := List.getElem_of_mem he
            rw [List.getElem_modify]
            split
            · exact ⟨_, rfl⟩
            · exact ho2.2 _ (List.getElem_mem _))
          refine ⟨j + 1, _, ⟨by omega, hst, ?_⟩, by omega, rfl, ⟨ownI_lt hst, hL9⟩, encM_modify _ _⟩
          intro w hw q hq
          rw [hta] at hq
          rcases List.mem_append.1 hq with hq | hq
          · exact hap2 w hw q hq
          · rw [List.mem_singleton.1 hq]; exact hap2 w hw _ hcz
    · simp -implicitDefEqProofs [↓gd_tt, ↓gd_ff, ↓gd_tf, ↓gd_ft, hjl]
      rw [hjl] at ho2 hap2
      refine ⟨hol ho2, B, rfl, by omega, ownI_all (Nat.le_refl _) ho2, ?_⟩
      unfold apart at hap ⊢
      rw [List.pairwise_append]
      refine ⟨hap, by simp, fun z hz y hy => ?_⟩
      rw [List.mem_singleton.1 hy]
      intro q hq
      exact hap2 z hz q (by rw [List.take_length]; exact hq)
  · rintro hp ⟨A, c, rfl, hk, ho, hap⟩
    have ht : (onN n.id s.ls).take ((onN n.id s.ls).map fun x => [V.d (encLf b x)]).length = onN n.id s.ls := List.take_of_length_le (by simp)
    rw [ht] at hap
    simp -implicitDefEqProofs [↓gd_tt, ↓gd_ff, ↓gd_tf, ↓gd_ft, twiceN, hap]
end Go.Idl
end
