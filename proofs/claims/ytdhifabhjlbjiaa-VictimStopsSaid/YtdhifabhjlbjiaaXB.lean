/- What leaves use by their leases: the document's answer. -/
import Derived.Test.YtdhifabhjlbjiaaMVall
import Derived.Test.YtdhifabhjlbjiaaQA
import Derived.Test.YtdhifabhjlbjiaaQD
import Derived.Test.YtdhifabhjlbjiaaQJ
set_option linter.all false
namespace Go.Idl
open Go.Proofs
set_option linter.unusedSimpArgs false
set_option linter.unusedVariables false
set_option maxRecDepth 8000
set_option maxHeartbeats 2000000
variable (b c : Bool)

def insN : List Int → Int → List Int
  | [], n => [n]
  | x :: r, n => if n < x then n :: x :: r else x :: insN r n
theorem insN_mem (n : Int) : ∀ (l : List Int) (x : Int), x ∈ insN l n ↔ x = n ∨ x ∈ l
  | [], x => by simp [insN]
  | y :: r, x => by
    have ih := insN_mem n r x
    unfold insN
    split
    · simp
    · simp only [List.mem_cons, ih]
      constructor
      · rintro (h | h | h) <;> simp [h]
      · rintro (h | h | h) <;> simp [h]
theorem insN_len (n : Int) : ∀ (l : List Int), (insN l n).length = l.length + 1
  | [] => rfl
  | y :: r => by
    unfold insN
    split
    · simp
    · simp [insN_len n r]
theorem insN_sorted {n : Int} : ∀ {l : List Int}, l.Pairwise (· < ·) → n ∉ l → (insN l n).Pairwise (· < ·)
  | [], _, _ => by simp [insN]
  | y :: r, h, hn => by
    rw [List.pairwise_cons] at h
    simp only [List.mem_cons, not_or] at hn
    unfold insN
    split
    · rename_i hlt
      refine List.pairwise_cons.2 ⟨fun x hx => ?_, List.pairwise_cons.2 h⟩
      rcases List.mem_cons.1 hx with rfl | hx
      · exact hlt
      · have := h.1 x hx; omega
    · rename_i hlt
      refine List.pairwise_cons.2 ⟨fun x hx => ?_, insN_sorted h.2 hn.2⟩
      rcases (insN_mem n r x).1 hx with rfl | hx
      · have := hn.1; omega
      · exact h.1 x hx
theorem insert_spec (l : List Int) (n : Int) (hl : l.length ≤ maxLen) (hb : (l.length + 1) * 8 ≤ 140737488355328) : PCall Try.prog 145 [encI b l, I n] (.d (encI false (insN l n))) := by
  refine pcallS (fn := Try.f145) [] [] mixed (bodyOf Try.f145) [.tmp 4] Try.func145 rfl rfl (by decide) 36 rfl (by kernel_rfl) ?_
  simp -implicitDefEqProofs [↓gd_tt, ↓gd_ff, ↓gd_tf, ↓gd_ft, bodyOf, Try.f145, stripC, stripL, stripM, onsOf, upto, hintOf, freeOf, List.replicate]
  refine loopA mixed [false, false, false, false, false, true, true, false, true, false, false, true, true, true, true, true, true, true, true, true, true, true, true, true, true, true, true, true, true, true, true] (fun (x : Nat × List Int × Bool) => [(11, .d (I x.1)), (5, .own 1 (x.2.1.map fun n => .int .i64 n)), (6, .d (.bool x.2.2))]) (fun (x : Nat × List Int × Bool) => []) (fun (x : Nat × List Int × Bool) => x.1 ≤ l.length ∧ x.2.1.length ≤ x.1 + (if x.2.2 then 1 else 0) ∧ x.2.1 ++ (if x.2.2 then l.drop x.1 else insN (l.drop x.1) n) = insN l n) (fun (x : Nat × List Int × Bool) => l.length - x.1) ((0, [], false)) (⟨Nat.zero_le _, by simp, by simp⟩) (by simp) ?_
  rintro x hx
  obtain ⟨k, m, put⟩ := x
  obtain ⟨hk, hm, he⟩ := hx
  simp only at hk hm he
  rcases Nat.lt_or_eq_of_le hk with h | h
  · rw [List.drop_eq_getElem_cons h] at he
    have hwi := wrap1 hl h
    cases put with
    | true =>
      simp only [if_true] at hm he
      have b1 : (m.length + 1) * 8 ≤ 140737488355328 := by omega
      simp -implicitDefEqProofs [↓gd_tt, ↓gd_ff, ↓gd_tf, ↓gd_ft, h, hwi, b1]
      exact ⟨k + 1, m ++ [l[k]], ⟨by omega, by simp; omega, by simpa using he⟩, by omega, by simp, rfl⟩
    | false =>
      simp only [Bool.false_eq_true, if_false] at hm he
      rw [show insN (l[k] :: l.drop (k + 1)) n = if n < l[k] then n :: l[k] :: l.drop (k + 1) else l[k] :: insN (l.drop (k + 1)) n from rfl] at he
      by_cases c1 : n < l[k]
      · rw [if_pos c1] at he
        have b1 : (m.length + 1) * 8 ≤ 140737488355328 := by omega
        have b2 : (m.length + 1 + 1) * 8 ≤ 140737488355328 := by omega
        simp -implicitDefEqProofs [↓gd_tt, ↓gd_ff, ↓gd_tf, ↓gd_ft, h, hwi, b1, b2, c1]
        exact ⟨k + 1, m ++ [n, l[k]], ⟨by omega, by simp; omega, by simpa using he⟩, by omega, by simp, rfl⟩
      · rw [if_neg c1] at he
        have b1 : (m.length + 1) * 8 ≤ 140737488355328 := by omega
        simp -implicitDefEqProofs [↓gd_tt, ↓gd_ff, ↓gd_tf, ↓gd_ft, h, hwi, b1, c1]
        exact ⟨k + 1, m ++ [l[k]], ⟨by omega, by simp; omega, by simpa using he⟩, by omega, by simp, rfl⟩
  · rw [h, List.drop_length] at he
    cases put with
    | true =>
      simp only [if_true, List.append_nil] at he
      simp -implicitDefEqProofs [↓gd_tt, ↓gd_ff, ↓gd_tf, ↓gd_ft, h, he]
    | false =>
      simp only [Bool.false_eq_true, if_false, insN] at he hm
      have b1 : (m.length + 1) * 8 ≤ 140737488355328 := by omega
      simp -implicitDefEqProofs [↓gd_tt, ↓gd_ff, ↓gd_tf, ↓gd_ft, h, ← he, b1]
def stepR (ids : List Int) (x : Le) : List Int := if x.q ∈ ids then ids else insN ids x.q
def idsR (ls : List Le) : List Int := ls.foldl stepR []
theorem idsR_take {ls : List Le} {i : Nat} (h : i < ls.length) : idsR (ls.take (i + 1)) = stepR (idsR (ls.take i)) ls[i] := by
  rw [List.take_add_one, List.getElem?_eq_getElem h, Option.toList_some]
  unfold idsR
  rw [List.foldl_append]; rfl
theorem idsR_ok : ∀ (ls : List Le), (idsR ls).Pairwise (· < ·) ∧ (∀ q, q ∈ idsR ls ↔ ∃ x ∈ ls, x.q = q) ∧ (idsR ls).length ≤ ls.length := by
  refine snoc_ind ⟨List.Pairwise.nil, fun q => by simp [idsR], by simp [idsR]⟩ ?_
  rintro ls x ⟨h1, h2, h3⟩
  have e : idsR (ls ++ [x]) = stepR (idsR ls) x := by simp [idsR]
  have e1 : ∀ q, (∃ y ∈ ls ++ [x], y.q = q) ↔ x.q = q ∨ ∃ y ∈ ls, y.q = q := fun q => by
    constructor
    · rintro ⟨y, hy, e2⟩
      rcases List.mem_append.1 hy with hy | hy
      · exact .inr ⟨y, hy, e2⟩
      · rw [List.mem_singleton] at hy
        rw [hy] at e2; exact .inl e2
    · rintro (e2 | ⟨y, hy, e2⟩)
      · exact ⟨x, by simp, e2⟩
      · exact ⟨y, by simp [hy], e2⟩
  rw [e]
  unfold stepR
  split
  · rename_i h
    refine ⟨h1, fun q => ?_, by simp; omega⟩
    rw [e1, ← h2]
    constructor
    · exact .inr
    · rintro (rfl | h4)
      · exact h
      · exact h4
  · rename_i h
    refine ⟨insN_sorted h1 h, fun q => ?_, by rw [insN_len]; simp; omega⟩
    rw [e1, insN_mem, h2]
    constructor
    · rintro (rfl | h4)
      · exact .inl rfl
      · exact .inr h4
    · rintro (rfl | h4)
      · exact .inl rfl
      · exact .inr h4
theorem idsR_idsL {ls : List Le} (h : ∀ x ∈ ls, okLe x = true) : idsR ls = idsL ls :=
  rising_ext (idsR_ok ls).1 (idsL_sorted h) fun x => by rw [(idsR_ok ls).2.1, idsL_mem h]
theorem sumL_take {ls : List Le} {i : Nat} (h : i < ls.length) (q : Int) : sumL (ls.take (i + 1)) q = if ls[i].q = q then ((sumL (ls.take i) q).1 + ls[i].cs.length, (sumL (ls.take i) q).2 + ls[i].m) else sumL (ls.take i) q := by
  rw [List.take_add_one, List.getElem?_eq_getElem h, Option.toList_some, sumL_snoc]
/-- a sum that stops above what may be -/
def sat (x : Int) : Int := if 1099511627777 < x then 1099511627777 else x
theorem sat_add {s x : Int} (hx : 0 ≤ x) : sat (sat s + x) = sat (s + x) := by unfold sat; split <;> split <;> (try split) <;> omega
theorem satV_good {x y : Int} (hx : 0 ≤ x) (hy : 0 ≤ y) : good (sat x) (sat y) = good x y := by
  have : good (sat x) (sat y) = true ↔ good x y = true := by
    rw [good_iff, good_iff]; unfold sat; split <;> split <;> omega
  cases h1 : good (sat x) (sat y) <;> cases h2 : good x y <;> simp_all
theorem refUses_spec (ls : List Le) (hl : ls.length ≤ maxLen) (hb : ls.length * 80 ≤ reachBytes) : PCall Try.prog 68 [encLs b ls] (vusesV ls) := by
  have hrb : reachBytes = 140737488351232 := rfl
  refine pcallS (fn := Try.f68) [] [] mixed (bodyOf Try.f68) [.tmp 2, .tmp 3] Try.func68 rfl rfl (by decide) 90 rfl (by kernel_rfl) ?_
  simp -implicitDefEqProofs [↓gd_tt, ↓gd_ff, ↓gd_tf, ↓gd_ft, bodyOf, Try.f68, stripC, stripL, stripM, onsOf, upto, hintOf, freeOf, List.replicate]
  refine loopA mixed [false, false, true, true, true, false, true, false, false, false, false, false, false, false, false, true, true, true, true, true, true, true, true, true, true, true, true, true, true, true, true, true, true, true, true, true, true, true, true, true, true, true, true] (fun (i : Nat) => [(15, .d (I i)), (4, .d (encI false (idsR (ls.take i))))]) (fun (i : Nat) => []) (fun (i : Nat) => i ≤ ls.length ∧ ∀ j (h : j < ls.length), j < i → okLe ls[j] = true) (fun (i : Nat) => ls.length - i) (0) (⟨Nat.zero_le _, fun j _ h => by omega⟩) (by simp [idsR]) ?_
  rintro i hx
  obtain ⟨hi, hx⟩ := hx
  rcases Nat.lt_or_eq_of_le hi with h | h
  · have hbad : okLe ls[i] = false → vusesV ls = .tup [.nil 3, .d (I 1)] := fun e => by
      have : ls.any (fun x => !okLe x) = true := List.any_eq_true.2 ⟨ls[i], List.getElem_mem h, by rw [e]; rfl⟩
      unfold vusesV vusesE; rw [if_pos this]; rfl
    by_cases c2 : ls[i].m < 0
    case pos =>
      rw [hbad (by simp [okLe]; omega)]
      simp -implicitDefEqProofs [↓gd_tt, ↓gd_ff, ↓gd_tf, ↓gd_ft, h, c2]
    by_cases c3 : 1099511627776 < ls[i].m
    case pos =>
      rw [hbad (by simp [okLe]; omega)]
      simp -implicitDefEqProofs [↓gd_tt, ↓gd_ff, ↓gd_tf, ↓gd_ft, h, c2, c3]
    by_cases c1 : ls[i].cs.length ≤ 64
    case neg =>
      rw [hbad (by simp [okLe, c1])]
      simp -implicitDefEqProofs [↓gd_tt, ↓gd_ff, ↓gd_tf, ↓gd_ft, h, c2, c3, show (64 : Int) < (ls[i].cs.length : Int) by omega]
    have c1' : ¬ (64 : Int) < (ls[i].cs.length : Int) := by omega
    have hoki : okLe ls[i] = true := okLe_iff.2 ⟨c1, by omega, by omega⟩
    have hnext : ∀ j (h : j < ls.length), j < i + 1 → okLe ls[j] = true := fun j hj hji => by
      by_cases e : j = i
      · subst e; exact hoki
      · exact hx j hj (by omega)
    obtain ⟨g1, g2, g3⟩ := idsR_ok (ls.take i)
    have hst := idsR_take h
    simp only [List.length_take] at g3
    generalize idsR (ls.take i) = ids at *
    simp -implicitDefEqProofs [↓gd_tt, ↓gd_ff, ↓gd_tf, ↓gd_ft, h, c2, c3, c1']
    refine callK_pcall (nhas_spec false ids ls[i].q (by omega)) rfl rfl ?_
    have hwi := wrap1 hl h
    unfold stepR at hst
    by_cases hin : ls[i].q ∈ ids
    · rw [if_pos hin] at hst
      simp -implicitDefEqProofs [↓gd_tt, ↓gd_ff, ↓gd_tf, ↓gd_ft, h, c2, c3, c1', hin, hwi, hst]
      exact ⟨i + 1, ⟨by omega, hnext⟩, by omega, by rw [hst], rfl⟩
    · rw [if_neg hin] at hst
      simp -implicitDefEqProofs [↓gd_tt, ↓gd_ff, ↓gd_tf, ↓gd_ft, h, c2, c3, c1', hin, hwi]
      refine callK_pcall (insert_spec false ids ls[i].q (by omega) (by omega)) rfl rfl ?_
      simp -implicitDefEqProofs [↓gd_tt, ↓gd_ff, ↓gd_tf, ↓gd_ft, h, c2, c3, c1', hin, hwi]
      exact ⟨i + 1, ⟨by omega, hnext⟩, by omega, by rw [hst], rfl⟩
  · have htk : ls.take i = ls := by rw [h]; exact List.take_length
    have hok : ∀ x ∈ ls, okLe x = true := fun x hx' => by
      obtain ⟨j, hj, rfl⟩ := List.getElem_of_mem hx'
      exact hx j hj (by omega)
    have hany : ls.any (fun x => !okLe x) = false := List.any_eq_false.2 fun x hx' => by rw [hok x hx']; decide
    have hid := idsR_idsL hok
    have hil : (idsL ls).length ≤ ls.length := by rw [← hid]; exact (idsR_ok ls).2.2
    have hiln : (idsL ls).length ≤ maxLen := by omega
    have hul : (usesL ls).length = (idsL ls).length := by simp [usesL]
    have hug : ∀ j (h : j < (idsL ls).length), (usesL ls)[j]'(by omega) = ⟨(idsL ls)[j], (sumL ls (idsL ls)[j]).1, (sumL ls (idsL ls)[j]).2⟩ := fun j h => by simp [usesL]
    simp -implicitDefEqProofs [↓gd_tt, ↓gd_ff, ↓gd_tf, ↓gd_ft, h, hid]
    refine loopA mixed [false, false, true, true, false, false, false, true, false, true, true, false, true, false, false, false, false, false, false, false, false, false, false, false, false, false, false, false, false, false, false, false, false, false, false, false, false, false, false, false, false, false, false, false, false, true, true, true, true, true, true, true, true, true, true, true, true, true, true, true, true, true, true, true, true, true, true, true, true, true, true, true, true, true, true, true, true, true, true, true, true, true, true, true, true, true, true, true, true, true] (fun (j : Nat) => [(45, .d (I j)), (7, .own 3 (((usesL ls).take j).map encU))]) (fun (j : Nat) => []) (fun (j : Nat) => j ≤ (idsL ls).length ∧ ∀ t (h : t < (idsL ls).length), t < j → goodP (sumL ls (idsL ls)[t]) = true) (fun (j : Nat) => (idsL ls).length - j) (0) (⟨Nat.zero_le _, fun t _ h => by omega⟩) (by simp) ?_
    rintro j hx
    obtain ⟨hj, hgs⟩ := hx
    rcases Nat.lt_or_eq_of_le hj with hj | hj
    case inr =>
      have hov : ls.any (fun x => !goodP (sumL ls x.q)) = false := List.any_eq_false.2 fun x hx' => by
        have hm : x.q ∈ idsL ls := (idsL_mem hok).2 ⟨x, hx', rfl⟩
        obtain ⟨t, ht, e⟩ := List.getElem_of_mem hm
        rw [← e, hgs t ht (by omega)]; decide
      have hE : vusesE ls = 0 := by unfold vusesE; rw [hany, hov]; rfl
      have hv : vusesV ls = .tup [.d (.sl false 3 ((usesL ls).map encU)), .d (I 0)] := by unfold vusesV; rw [hE]; rfl
      rw [hv]
      simp -implicitDefEqProofs [↓gd_tt, ↓gd_ff, ↓gd_tf, ↓gd_ft, hj]
      exact List.take_of_length_le (by simp; omega)
    have hmem := (idsL_mem hok).1 (List.getElem_mem hj)
    have hb8 : (j + 1) * 24 ≤ 140737488355328 := by omega
    have hmin : min j (usesL ls).length = j := by omega
    have hugj := hug j hj
    simp -implicitDefEqProofs [↓gd_tt, ↓gd_ff, ↓gd_tf, ↓gd_ft, hj]
    refine loopA mixed [false, false, false, false, false, false, false, false, false, false, false, false, true, false, false, false, false, false, false, false, false, false, false, false, false, false, false, false, false, false, false, false, false, false, false, false, false, false, false, false, false, false, false, false, false, false, false, false, false, false, false, false, false, true, true, true, true, true, true, true, true, true, true, true, true, true, true, true, true, true, true, true, true, true, true, true, true, true, true, true, true] (fun (k : Nat) => [(53, .d (I k))]) (fun (k : Nat) => [.var [.d (I (idsL ls)[j]), .d (I (sat (sumL (ls.take k) (idsL ls)[j]).1)), .d (I (sat (sumL (ls.take k) (idsL ls)[j]).2))]]) (fun (k : Nat) => k ≤ ls.length) (fun (k : Nat) => ls.length - k) (0) (Nat.zero_le _) (by simp [sumL, sumI, sat]) ?_
    rintro k hx
    have hokk : ∀ x ∈ ls.take k, okLe x = true := fun x hx' => hok x (List.mem_of_mem_take hx')
    have hnn := sumL_nonneg hokk (idsL ls)[j]
    rcases Nat.lt_or_eq_of_le hx with hk | hk
    · have hst := sumL_take hk (idsL ls)[j]
      have hokk2 := okLe_iff.1 (hok _ (List.getElem_mem hk))
      have hwk := wrap1 hl hk
      by_cases c1 : ls[k].q = (idsL ls)[j]
      · rw [if_pos c1] at hst
        have hs1 : sat (sumL (ls.take k) (idsL ls)[j]).1 ≤ 1099511627777 ∧ 0 ≤ sat (sumL (ls.take k) (idsL ls)[j]).1 := by unfold sat; split <;> omega
        have hs2 : sat (sumL (ls.take k) (idsL ls)[j]).2 ≤ 1099511627777 ∧ 0 ≤ sat (sumL (ls.take k) (idsL ls)[j]).2 := by unfold sat; split <;> omega
        have w1 : IntKind.i64.wrap (sat (sumL (ls.take k) (idsL ls)[j]).1 + ls[k].cs.length) = sat (sumL (ls.take k) (idsL ls)[j]).1 + ls[k].cs.length := wrap_i64 (by omega) (by omega)
        have w2 : IntKind.i64.wrap (sat (sumL (ls.take k) (idsL ls)[j]).2 + ls[k].m) = sat (sumL (ls.take k) (idsL ls)[j]).2 + ls[k].m := wrap_i64 (by omega) (by omega)
        simp -implicitDefEqProofs [↓gd_tt, ↓gd_ff, ↓gd_tf, ↓gd_ft, hk, c1, hwk, w1, w2]
        refine ⟨k + 1, by omega, by omega, rfl, ?_, ?_⟩
        · rw [hst]; exact sat_add (by omega)
        · rw [hst]; exact sat_add (by omega)
      · rw [if_neg c1] at hst
        simp -implicitDefEqProofs [↓gd_tt, ↓gd_ff, ↓gd_tf, ↓gd_ft, hk, c1, hwk]
        exact ⟨k + 1, by omega, by omega, rfl, by rw [hst], by rw [hst]⟩
    · have htk2 : ls.take k = ls := by rw [hk]; exact List.take_length
      rw [htk2] at hnn
      have hsg := satV_good hnn.1 hnn.2
      have hgsp := good_spec (sat (sumL ls (idsL ls)[j]).1) (sat (sumL ls (idsL ls)[j]).2)
      simp -implicitDefEqProofs [↓gd_tt, ↓gd_ff, ↓gd_tf, ↓gd_ft, hk]
      refine callK_pcall hgsp rfl rfl ?_
      rw [hsg]
      by_cases hg : good (sumL ls (idsL ls)[j]).1 (sumL ls (idsL ls)[j]).2 = true
      · have hsat1 : sat (sumL ls (idsL ls)[j]).1 = (sumL ls (idsL ls)[j]).1 := by have := good_iff.1 hg; unfold sat; rw [if_neg (by omega)]
        have hsat2 : sat (sumL ls (idsL ls)[j]).2 = (sumL ls (idsL ls)[j]).2 := by have := good_iff.1 hg; unfold sat; rw [if_neg (by omega)]
        simp -implicitDefEqProofs [↓gd_tt, ↓gd_ff, ↓gd_tf, ↓gd_ft, hg, hb8, hmin, wrap1 hiln hj, hsat1, hsat2]
        refine ⟨j + 1, ⟨by omega, fun t ht htj => ?_⟩, by omega, ?_, rfl⟩
        · by_cases e : t = j
          · subst e; exact hg
          · exact hgs t ht (by omega)
        · rw [List.take_add_one, List.getElem?_eq_getElem (by simp; omega), Option.toList_some, List.getElem_map, hugj]
          rfl
      · have hov : ls.any (fun x => !goodP (sumL ls x.q)) = true := by
          obtain ⟨x, hx', e⟩ := hmem
          refine List.any_eq_true.2 ⟨x, hx', ?_⟩
          rw [e]; simp only [goodP]; simpa using hg
        have hE : vusesE ls = 2 := by unfold vusesE; rw [hany, hov]; rfl
        have hv : vusesV ls = .tup [.nil 3, .d (I 2)] := by unfold vusesV; rw [hE]; rfl
        rw [hv]
        simp -implicitDefEqProofs [↓gd_tt, ↓gd_ff, ↓gd_tf, ↓gd_ft, hg]
end Go.Idl
