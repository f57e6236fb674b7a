/- The program's queues, what it computes: contracts of the packages queue, vec.; The program's queues: what is wrong with a list.; What the model itself answers: slices.overlaps of two rows that lie apart.; The program's queues: Clone, Insert, Delete of the library, in memory.; Queues as plain data, part 2: lists with a queue more, changed, less. No program here.; The program's queues: Add, Set, Drop.; Queues as plain data, part 3: ways to the root, what is below a queue, the leaves. No program here. -/
import Derived.Lib.Overlaps
import Derived.Test.YtkfpaffcglijeaaQueueApartPart14
import Derived.Test.YtkfpaffcglijeaaQueueApartPart13
set_option linter.all false
section
namespace Go.Idl
open Go.Proofs
set_option linter.unusedSimpArgs false
set_option linter.unusedVariables false
set_option maxRecDepth 8000
variable (b : Bool)

theorem half {i j : Nat} (h : i + j ≤ 281474976710656) : IntKind.i64.wrap ((IntKind.u64.wrap (IntKind.i64.wrap ((i : Int) + (j : Int)))).fdiv (2 ^ min 1 IntKind.u64.bits)) = (((i + j) / 2 : Nat) : Int) := by
  have e : ∀ n : Int, IntKind.u64.wrap n = n % 18446744073709551616 := fun n => rfl
  rw [wrap_i64 (n := (i : Int) + j) (by omega) (by omega), e, show (2 : Int) ^ min 1 IntKind.u64.bits = 2 by decide, Int.emod_eq_of_lt (by omega) (by omega)]
  have : ((i : Int) + j).fdiv 2 = (((i + j) / 2 : Nat) : Int) := by
    rw [Int.fdiv_eq_ediv_of_nonneg _ (by decide)]; omega
  rw [this, wrap_i64 (by omega) (by omega)]

theorem bsearchQ_spec (g : FuncId) (l : List Q) (t : Int) (c : Nat → Int) (k : Nat) (hb : hasBody Try.prog g = true) (hl : l.length ≤ 140737488355328) (hk : k ≤ l.length) (hlo : ∀ i, i < k → c i < 0) (hhi : ∀ i, k ≤ i → i < l.length → 0 ≤ c i) (hc : ∀ i (h : i < l.length), PCall Try.prog g [encQ l[i], I t] (.d (I (c i)))) :
    FCall Try.prog 124 [.d (encL b l), .d (I t), .fn (.func g) []] (.tup [.d (I k), .d (.bool (decide (k < l.length) && decide (c k = 0)))]) := by
  refine fcallS (fn := Try.f124) [] [] mixed (bodyOf Try.f124) [.tmp 6, .tmp 7] Try.func124 rfl rfl (by decide) 46 rfl (by kernel_rfl) ?_
  simp -implicitDefEqProofs [↓gd_tt, ↓gd_ff, ↓gd_tf, ↓gd_ft, bodyOf, Try.f124, stripC, stripL, stripM, onsOf, upto, hintOf, freeOf, List.replicate]
  refine loopA mixed [false, false, false, false, false, false, false, false, false, true, true, true, false, false, false, true, true, true, true, true, true, true, true, true, true, true, true, true, true, true, true, true, true, true, true] (fun (p : Nat × Nat) => [(9, .d (I p.1)), (10, .d (I p.2))]) (fun (p : Nat × Nat) => []) (fun (p : Nat × Nat) => p.1 ≤ k ∧ k ≤ p.2 ∧ p.2 ≤ l.length) (fun (p : Nat × Nat) => p.2 - p.1) ((0, l.length)) (⟨Nat.zero_le _, hk, Nat.le_refl _⟩) (by simp) ?_
  rintro p hx
  obtain ⟨i, j⟩ := p
  obtain ⟨h1, h2, h3⟩ := hx
  simp only at h1 h2 h3 ⊢
  by_cases h : i < j
  · have hh := half (i := i) (j := j) (by omega)
    obtain ⟨m, hm⟩ : ∃ m, m = (i + j) / 2 := ⟨_, rfl⟩
    rw [← hm] at hh
    have h4 : m < l.length := by omega
    simp -implicitDefEqProofs [↓gd_tt, ↓gd_ff, ↓gd_tf, ↓gd_ft, h, hh, h4, encQ, hb]
    refine callK_pcall (hc m h4) rfl rfl ?_
    have hw : IntKind.i64.wrap ((m : Int) + 1) = ((m + 1 : Nat) : Int) := by rw [wrap_i64 (by omega) (by omega)]; omega
    simp -implicitDefEqProofs [↓gd_tt, ↓gd_ff, ↓gd_tf, ↓gd_ft, hw]
    refine ⟨fun e => ⟨m + 1, j, ⟨?_, h2, h3⟩, by omega, rfl, rfl⟩, fun e => ⟨i, m, ⟨h1, ?_, by omega⟩, by omega, rfl, rfl⟩⟩
    · rcases Nat.lt_or_ge m k with q | q
      · omega
      · have := hhi m q h4; omega
    · rcases Nat.lt_or_ge m k with q | q
      · have := hlo m q; omega
      · exact q
  · have h5 : i = k := by omega
    subst h5
    by_cases hi : i < l.length
    · simp -implicitDefEqProofs [↓gd_tt, ↓gd_ff, ↓gd_tf, ↓gd_ft, h, hi, encQ, hb]
      refine callK_pcall (hc i hi) rfl rfl ?_
      simp -implicitDefEqProofs [↓gd_tt, ↓gd_ff, ↓gd_tf, ↓gd_ft]
    · simp -implicitDefEqProofs [↓gd_tt, ↓gd_ff, ↓gd_tf, ↓gd_ft, h, hi]

theorem find1_spec (q : Q) (id : Int) : PCall Try.prog 125 [encQ q, I id] (.d (I (if q.Id < id then -1 else if id < q.Id then 1 else 0))) := by
  refine pcallS (fn := Try.f125) [] [] mixed (bodyOf Try.f125) [.tmp 4] Try.func125 rfl rfl (by decide) 13 rfl (by kernel_rfl) ?_
  simp -implicitDefEqProofs [↓gd_tt, ↓gd_ff, ↓gd_tf, ↓gd_ft, bodyOf, Try.f125, stripC, stripL, stripM, onsOf, upto, hintOf, freeOf, List.replicate]
  (repeat' (first | apply And.intro | intro _)) <;> first | omega | (simp_all; done) | (simp_all; omega) | (split <;> omega)

theorem qfind_spec (l : List Q) (id : Int) (hl : l.length ≤ 140737488355328) (hr : Rises l) : PCall Try.prog 65 [encL b l, I id] (.tup [.d (I (pos l id)), .d (.bool (has l id))]) := by
  refine pcallS (fn := Try.f65) [] [] mixed (bodyOf Try.f65) [.tmp 4, .tmp 5] Try.func65 rfl rfl (by decide) 9 rfl (by kernel_rfl) ?_
  simp -implicitDefEqProofs [↓gd_tt, ↓gd_ff, ↓gd_tf, ↓gd_ft, bodyOf, Try.f65, stripC, stripL, stripM, onsOf, upto, hintOf, freeOf, List.replicate]
  obtain ⟨h1, h2, _⟩ := pos_spec l id hr
  have := bsearchQ_spec b 125 l id (cmpId l id) (pos l id) (by simp) hl (pos_le l id)
    (fun i h => by have hi : i < l.length := by have := pos_le l id; omega
                   rw [cmpId, dif_pos hi, if_pos (h1 i hi h)]; decide)
    (fun i h hi => by have := h2 i hi h; rw [cmpId, dif_pos hi, if_neg (by omega)]; split <;> decide)
    (fun i h => by simpa [h, cmpId] using find1_spec l[i] id)
  refine callK_fcall this (by simp) (by simp) (by simp) (by simp) rfl ?_
  simp -implicitDefEqProofs [↓gd_tt, ↓gd_ff, ↓gd_tf, ↓gd_ft]
  exact cmpId_has hr

def yQ (p : Nat × Q) : List V := [.d (I p.1), .d (encQ p.2)]
theorem children_yields (l : List Q) (id : Int) (ka kb : Nat) (hl : l.length ≤ maxLen) :
    Yields Try.prog 165 [.ptr ka 0, .ptr kb 0] (fun hp => hp[ka]? = some (.var [.d (encL b l)]) ∧ hp[kb]? = some (.var [.d (I id)])) ((sons l id).map yQ) := by
  intro y hp J E hy h0 hJ hround hend
  obtain ⟨g1, g2, g3, g4⟩ := hJ 0 hp h0
  have hka : ka < hp.length := (List.getElem?_eq_some_iff.1 g3).1
  have hkb : kb < hp.length := (List.getElem?_eq_some_iff.1 g4).1
  refine callS (fn := Try.f165) [] [] mixed (bodyOf Try.f165) [] Try.func165 rfl rfl (by decide) 22 rfl (by kernel_rfl) ?_
  simp -implicitDefEqProofs [↓gd_tt, ↓gd_ff, ↓gd_tf, ↓gd_ft, bodyOf, Try.f165, stripC, stripL, stripM, onsOf, upto, hintOf, freeOf, List.replicate]
  simp -implicitDefEqProofs [↓gd_tt, ↓gd_ff, ↓gd_tf, ↓gd_ft, g3]
  refine loopA mixed [false, false, false, false, true, true, false, false, true, true, true, true, true, true, true, true, true, true, true, true, true, true, true, true, true] (fun (x : Nat × Nat × List IObj) => [(8, .d (I x.1))]) (fun (x : Nat × Nat × List IObj) => x.2.2) (fun (x : Nat × Nat × List IObj) => x.1 ≤ l.length ∧ J x.2.1 x.2.2 ∧ x.2.1 ≤ (sons l id).length ∧ sonsF id (l.drop x.1) x.1 = (sons l id).drop x.2.1) (fun (x : Nat × Nat × List IObj) => l.length - x.1) ((0, 0, hp)) (⟨Nat.zero_le _, h0, Nat.zero_le _, rfl⟩) (by simp [hy, hka, hkb, g2]) ?_
  rintro x hx
  obtain ⟨i, k, hp1⟩ := x
  obtain ⟨hi, hj, hk, hq⟩ := hx
  simp only at hi hj hk hq ⊢
  obtain ⟨p1, p2, p3, p4⟩ := hJ k hp1 hj
  have hka1 : ka < hp1.length := (List.getElem?_eq_some_iff.1 p3).1
  have hkb1 : kb < hp1.length := (List.getElem?_eq_some_iff.1 p4).1
  rcases Nat.lt_or_eq_of_le hi with h | h
  · rw [List.drop_eq_getElem_cons h, sonsF] at hq
    simp -implicitDefEqProofs [↓gd_tt, ↓gd_ff, ↓gd_tf, ↓gd_ft, h, p3, p4, wrap1 hl h, List.getElem?_append_left hka1, List.getElem?_append_left hkb1]
    have hpass : ∀ (k' : Nat) (hp2 priv : List IObj), J k' hp2 → k' ≤ (sons l id).length → sonsF id (l.drop (i + 1)) (i + 1) = (sons l id).drop k' → hp2.length = hp.length → ∃ a a_1 b, (a ≤ l.length ∧ J a_1 b ∧ a_1 ≤ (sons l id).length ∧ sonsF id (List.drop a l) a = List.drop a_1 (sons l id)) ∧ l.length - a < l.length - i ∧ i + 1 = a ∧ (y < b.length ∧ ka < b.length ∧ kb < b.length) ∧ ltObjs b.length b = true ∧ hp.length ≤ b.length ∧ List.take b.length (hp2 ++ priv) = b ∧ b.length ≤ (hp2 ++ priv).length := fun k' hp2 priv q1 q2 q3 q4 =>
      ⟨i + 1, k', hp2, ⟨by omega, q1, q2, q3⟩, by omega, rfl, ⟨by omega, by omega, by omega⟩, by rw [q4]; exact (hJ k' hp2 q1).2.1, by omega, by simp, by simp⟩
    refine ⟨fun e => ?_, fun e => ?_⟩
    · rw [if_pos e] at hq
      have hk3 : k < (sons l id).length := by
        have := congrArg List.length hq; simp at this; omega
      have hat : (sons l id)[k] = (i, l[i]) := by
        have := congrArg (·[0]?) hq
        simp [hk3] at this; exact this.symm
      have hr := hround k hp1 hj (by simpa using hk3)
      simp only [List.getElem_map, hat, yQ] at hr
      refine yieldA hr p1 p2 hy (by simp) (by simp) fun b2 hp2 q1 q2 q3 q4 => ?_
      simp -implicitDefEqProofs [↓gd_tt, ↓gd_ff, ↓gd_tf, ↓gd_ft, wrap1 hl h]
      refine ⟨fun e2 => ⟨by omega, by rw [← q1, List.take_left]; exact q4 e2⟩, fun e2 => ?_⟩
      have := hpass (k + 1) hp2 [IObj.var [V.d (D.int IntKind.i64 l[i].Id), V.d (D.int IntKind.i64 l[i].Par), V.d (D.int IntKind.i64 l[i].Wt), V.d (D.int IntKind.i64 l[i].QC), V.d (D.int IntKind.i64 l[i].QM), V.d (D.int IntKind.i64 l[i].MC), V.d (D.int IntKind.i64 l[i].MM)]] (q3 e2) (by omega) (by have := congrArg List.tail hq; simpa using this) q1
      simpa using this
    · rw [if_neg e] at hq
      have := hpass k hp1 [IObj.var [V.d (D.int IntKind.i64 l[i].Id), V.d (D.int IntKind.i64 l[i].Par), V.d (D.int IntKind.i64 l[i].Wt), V.d (D.int IntKind.i64 l[i].QC), V.d (D.int IntKind.i64 l[i].QM), V.d (D.int IntKind.i64 l[i].MC), V.d (D.int IntKind.i64 l[i].MM)]] hj hk hq p1
      simpa using this
  · rw [h, List.drop_length, sonsF] at hq
    simp -implicitDefEqProofs [↓gd_tt, ↓gd_ff, ↓gd_tf, ↓gd_ft, h]
    have hk2 : k = (sons l id).length := by
      have := congrArg List.length hq; simp at this; omega
    subst hk2
    exact ⟨by omega, by rw [← p1, List.take_length]; exact hend hp1 (by simpa using hj)⟩

theorem children_spec (l : List Q) (id : Int) (hp : List IObj) (K : V → List IObj → Prop) (hk : K (.fn (.func 165) [.ptr hp.length 0, .ptr (hp.length + 1) 0]) (hp ++ [.var [.d (encL b l)], .var [.d (I id)]])) : CallK Try.prog 144 [.d (encL b l), .d (I id)] hp K := by
  refine callS (fn := Try.f144) [] [] mixed (bodyOf Try.f144) [.tmp 4] Try.func144 rfl rfl (by decide) 4 rfl (by kernel_rfl) ?_
  simp -implicitDefEqProofs [↓gd_tt, ↓gd_ff, ↓gd_tf, ↓gd_ft, bodyOf, Try.f144, stripC, stripL, stripM, onsOf, upto, hintOf, freeOf, List.replicate]
  simpa using hk

theorem vparts_yields (a c : Int × Int) (ka kb : Nat) : Yields Try.prog 166 [.ptr ka 0, .ptr kb 0] (fun hp => hp[ka]? = some (.var [.d (I a.1), .d (I a.2)]) ∧ hp[kb]? = some (.var [.d (I c.1), .d (I c.2)])) [[.d (.agg [I a.1, I c.1])], [.d (.agg [I a.2, I c.2])]] := by
  intro y hp J E hy h0 hJ hround hend
  obtain ⟨g1, g2, g3, g4⟩ := hJ 0 hp h0
  refine callS (fn := Try.f166) [] [] mixed (bodyOf Try.f166) [] Try.func166 rfl rfl (by decide) 17 rfl (by kernel_rfl) ?_
  simp -implicitDefEqProofs [↓gd_tt, ↓gd_ff, ↓gd_tf, ↓gd_ft, bodyOf, Try.f166, stripC, stripL, stripM, onsOf, upto, hintOf, freeOf, List.replicate]
  simp -implicitDefEqProofs [↓gd_tt, ↓gd_ff, ↓gd_tf, ↓gd_ft, g3, g4]
  refine (hround 0 hp h0 (by simp)).mono ?_
  rintro r hp1 ⟨b1, rfl, q1, q2, q3, q4⟩
  cases b1
  · simp -implicitDefEqProofs [↓gd_tt, ↓gd_ff, ↓gd_tf, ↓gd_ft]
    exact ⟨by omega, by rw [← q1, List.take_length]; exact q4 rfl⟩
  · obtain ⟨p1, p2, p3, p4⟩ := hJ 1 hp1 (q3 rfl)
    simp -implicitDefEqProofs [↓gd_tt, ↓gd_ff, ↓gd_tf, ↓gd_ft, p3, p4]
    refine (hround 1 hp1 (q3 rfl) (by simp)).mono ?_
    rintro r hp2 ⟨b2, rfl, r1, r2, r3, r4⟩
    cases b2
    · simp -implicitDefEqProofs [↓gd_tt, ↓gd_ff, ↓gd_tf, ↓gd_ft]
      exact ⟨by omega, by rw [← r1, List.take_length]; exact r4 rfl⟩
    · simp -implicitDefEqProofs [↓gd_tt, ↓gd_ff, ↓gd_tf, ↓gd_ft]
      exact ⟨by omega, by rw [← r1, List.take_length]; exact hend _ (r3 rfl)⟩

theorem vparts_spec (a c : Int × Int) (hp : List IObj) (K : V → List IObj → Prop) (hk : K (.fn (.func 166) [.ptr hp.length 0, .ptr (hp.length + 1) 0]) (hp ++ [.var [.d (I a.1), .d (I a.2)], .var [.d (I c.1), .d (I c.2)]])) : CallK Try.prog 145 [.d (.agg [I a.1, I a.2]), .d (.agg [I c.1, I c.2])] hp K := by
  refine callS (fn := Try.f145) [] [] mixed (bodyOf Try.f145) [.tmp 4] Try.func145 rfl rfl (by decide) 4 rfl (by kernel_rfl) ?_
  simp -implicitDefEqProofs [↓gd_tt, ↓gd_ff, ↓gd_tf, ↓gd_ft, bodyOf, Try.f145, stripC, stripL, stripM, onsOf, upto, hintOf, freeOf, List.replicate]
  simpa using hk

theorem vgood_spec (x y : Int) : PCall Try.prog 120 [.agg [I x, I y]] (.d (.bool (good x y))) := by
  refine pcallS (fn := Try.f120) [] [] mixed (bodyOf Try.f120) [.cell 2 4] Try.func120 rfl rfl (by decide) 15 rfl (by kernel_rfl) ?_
  simp -implicitDefEqProofs [↓gd_tt, ↓gd_ff, ↓gd_tf, ↓gd_ft, bodyOf, Try.f120, stripC, stripL, stripM, onsOf, upto, hintOf, freeOf, List.replicate]
  refine vparts_spec (x, y) (x, y) _ _ ?_
  simp -implicitDefEqProofs [↓gd_tt, ↓gd_ff, ↓gd_tf, ↓gd_ft]
  refine rangeYc mixed (vparts_yields (x, y) (x, y) 2 3) (by simp) (by simp) (by simp) (by simp) (by simp) (by simp) (by simp) (by simp) (fun i => (1 ≤ i → 0 ≤ x ∧ x ≤ 1099511627776) ∧ (2 ≤ i → 0 ≤ y ∧ y ≤ 1099511627776)) (by simp) ?_ ?_
  · rintro i ⟨h1, h2⟩ hi L0 L1
    have : i = 0 ∨ i = 1 := by simp at hi; omega
    rcases this with rfl | rfl
    · simp -implicitDefEqProofs [↓gd_tt, ↓gd_ff, ↓gd_tf, ↓gd_ft, good]
      (repeat' (first | apply And.intro | intro _)) <;> first | omega | (simp_all; done) | (simp_all; omega)
    · simp at h1
      simp -implicitDefEqProofs [↓gd_tt, ↓gd_ff, ↓gd_tf, ↓gd_ft, good]
      (repeat' (first | apply And.intro | intro _)) <;> first | omega | (simp_all; done) | (simp_all; omega)
  · rintro ⟨h1, h2⟩
    simp at h1 h2
    simp -implicitDefEqProofs [↓gd_tt, ↓gd_ff, ↓gd_tf, ↓gd_ft, good, h1, h2]

theorem vfits_spec (x y z w : Int) : PCall Try.prog 147 [.agg [I x, I y], .agg [I z, I w]] (.d (.bool (fits x y z w))) := by
  refine pcallS (fn := Try.f147) [] [] mixed (bodyOf Try.f147) [.cell 4 4] Try.func147 rfl rfl (by decide) 13 rfl (by kernel_rfl) ?_
  simp -implicitDefEqProofs [↓gd_tt, ↓gd_ff, ↓gd_tf, ↓gd_ft, bodyOf, Try.f147, stripC, stripL, stripM, onsOf, upto, hintOf, freeOf, List.replicate]
  refine vparts_spec (x, y) (z, w) _ _ ?_
  simp -implicitDefEqProofs [↓gd_tt, ↓gd_ff, ↓gd_tf, ↓gd_ft]
  refine rangeYc mixed (vparts_yields (x, y) (z, w) 3 4) (by simp) (by simp) (by simp) (by simp) (by simp) (by simp) (by simp) (by simp) (fun i => (1 ≤ i → x ≤ z) ∧ (2 ≤ i → y ≤ w)) (by simp) ?_ ?_
  · rintro i ⟨h1, h2⟩ hi L0 L1
    have : i = 0 ∨ i = 1 := by simp at hi; omega
    rcases this with rfl | rfl
    · simp -implicitDefEqProofs [↓gd_tt, ↓gd_ff, ↓gd_tf, ↓gd_ft, fits]
      (repeat' (first | apply And.intro | intro _)) <;> first | omega | (simp_all; done) | (simp_all; omega)
    · simp at h1
      simp -implicitDefEqProofs [↓gd_tt, ↓gd_ff, ↓gd_tf, ↓gd_ft, fits]
      (repeat' (first | apply And.intro | intro _)) <;> first | omega | (simp_all; done) | (simp_all; omega)
  · rintro ⟨h1, h2⟩
    simp at h1 h2
    simp -implicitDefEqProofs [↓gd_tt, ↓gd_ff, ↓gd_tf, ↓gd_ft, fits, h1, h2]

theorem qform_spec (l : List Q) (hl : l.length ≤ 140737488355328) : PCall Try.prog 121 [encL b l] (.d (.bool (form l))) := by
  refine pcallS (fn := Try.f121) [] [] mixed (bodyOf Try.f121) [.tmp 2] Try.func121 rfl rfl (by decide) 49 rfl (by kernel_rfl) ?_
  simp -implicitDefEqProofs [↓gd_tt, ↓gd_ff, ↓gd_tf, ↓gd_ft, bodyOf, Try.f121, stripC, stripL, stripM, onsOf, upto, hintOf, freeOf, List.replicate]
  refine loopA mixed [false, false, true, true, true, true, true, false, false, true, true, true, true, true, true, true, true, true, true, true, true, true, true, true, true, true, true, true, true, true, true, true, true, true, true, true, true, true, true, true, true, true, true, true, true, true, true] (fun (i : Nat) => [(9, .d (I i))]) (fun (i : Nat) => []) (fun (i : Nat) => i ≤ l.length ∧ formF l (l.drop i) i = form l ∧ Rises (l.take i)) (fun (i : Nat) => l.length - i) (0) (⟨Nat.zero_le _, rfl, List.Pairwise.nil⟩) (by simp) ?_
  rintro i hx
  obtain ⟨hi, hp, hr⟩ := hx
  have hm : (140737488355328 : Nat) ≤ maxLen := by decide
  rcases Nat.lt_or_eq_of_le hi with h | h
  · rw [List.drop_eq_getElem_cons h, formF] at hp
    have hrs := rises_succ hr h
    rcases Nat.eq_zero_or_pos i with rfl | h0
    · have hw := wrap1 (l := l) (by omega) h
      simp -implicitDefEqProofs [↓gd_tt, ↓gd_ff, ↓gd_tf, ↓gd_ft, h] at hw ⊢
      simp [formAt] at hp
      simp -implicitDefEqProofs [↓gd_tt, ↓gd_ff, ↓gd_tf, ↓gd_ft, hw]
      have := hrs (.inl rfl)
      (repeat' (first | apply And.intro | intro _)) <;> first | omega | (simp_all; done)
    · have h1 : ¬ ((i : Int) = 0) := by omega
      have h2 : i - 1 < l.length := by omega
      have h3 : ¬ (i = 0) := by omega
      have h4 : ((i - 1 : Nat) : Int) < (l.length : Int) := by omega
      simp -implicitDefEqProofs [↓gd_tt, ↓gd_ff, ↓gd_tf, ↓gd_ft, h, h0, h1, h2, h3, wrap1 (l := l) (by omega) h, wrapm1 (l := l) (by omega) h h0, h4]
      have hg : l.getD (i - 1) q0 = l[i - 1] := by simp [h2]
      simp only [formAt, if_neg h3, hg] at hp
      have hps : PCall Try.prog 65 [.sl b 7 ((l.map encQ).take i), I l[i].Par] (.tup [.d (I (pos (l.take i) l[i].Par)), .d (.bool (has (l.take i) l[i].Par))]) := by rw [← List.map_take]; exact qfind_spec b _ _ (by simp; omega) hr
      refine ⟨hi, free_pcall hps rfl rfl ?_⟩
      simp -implicitDefEqProofs [↓gd_tt, ↓gd_ff, ↓gd_tf, ↓gd_ft, h, h0, h1, h2, h3, wrap1 (l := l) (by omega) h, wrapm1 (l := l) (by omega) h h0, h4]
      have hh : has (l.take i) l[i].Par = decide (0 ≤ place (l.take i) l[i].Par) := rfl
      refine ⟨fun e1 => ⟨fun e2 => by rw [← hp]; simp; omega, fun e2 => ⟨⟨by omega, ?_, hrs (.inr ⟨h2, e2⟩)⟩, by omega⟩⟩, fun e1 => by rw [← hp, ← hh, e1]; simp⟩
      rw [← hp, ← hh, e1]; simp [e2]
  · simp -implicitDefEqProofs [↓gd_tt, ↓gd_ff, ↓gd_tf, ↓gd_ft, h]
    rw [h, List.drop_length, formF] at hp; simpa using hp

theorem qmins_spec (l : List Q) (hl : l.length ≤ maxLen) : PCall Try.prog 123 [encL b l] (.d (.bool (mins l))) := by
  refine pcallS (fn := Try.f123) [] [] mixed (bodyOf Try.f123) [.tmp 2] Try.func123 rfl rfl (by decide) 47 rfl (by kernel_rfl) ?_
  simp -implicitDefEqProofs [↓gd_tt, ↓gd_ff, ↓gd_tf, ↓gd_ft, bodyOf, Try.f123, stripC, stripL, stripM, onsOf, upto, hintOf, freeOf, List.replicate]
  refine loopA mixed [false, false, true, false, true, true, false, false, false, false, true, true, true, true, true, true, true, true, false, false, false, false, false, false, false, false, false, false, false, false, false, false, false, false, true, true, true, true, true, true, true, true, true, true, true, true, true, true] (fun (i : Nat) => [(10, .d (I i))]) (fun (i : Nat) => []) (fun (i : Nat) => i ≤ l.length ∧ minsF l (l.drop i) = mins l) (fun (i : Nat) => l.length - i) (0) (⟨Nat.zero_le _, rfl⟩) (by simp) ?_
  rintro i hx
  obtain ⟨hi, hp⟩ := hx
  rcases Nat.lt_or_eq_of_le hi with h | h
  · rw [List.drop_eq_getElem_cons h, minsF] at hp
    simp -implicitDefEqProofs [↓gd_tt, ↓gd_ff, ↓gd_tf, ↓gd_ft, h]
    refine children_spec b l l[i].Id _ _ ?_
    simp -implicitDefEqProofs [↓gd_tt, ↓gd_ff, ↓gd_tf, ↓gd_ft]
    refine rangeY mixed (children_yields b l l[i].Id 2 3 hl) (by simp) (by simp) (by simp) (by simp) (by simp) (by intro y hy; obtain ⟨p, _, rfl⟩ := List.mem_map.1 hy; simp [yQ]) (fun k hp => ∃ x y, hp = [.var [.d (I l[i].Id), .d (I l[i].Par), .d (I l[i].Wt), .d (I l[i].QC), .d (I l[i].QM), .d (I l[i].MC), .d (I l[i].MM)], .var [.d (I x), .d (I y)], .var [.d (encL b l)], .var [.d (I l[i].Id)]] ∧ k ≤ (sons l l[i].Id).length ∧ sumF ((sons l l[i].Id).drop k) x y = sumMin l[i].Id l 0 0) ⟨0, 0, rfl, Nat.zero_le _, (sumMin_sons _ _ _ _ _).symm⟩ (by rintro k hp ⟨x, y, rfl, _⟩; simp) ?_ ?_
    · rintro k hp ⟨x, y, rfl, hk, hs⟩ hi L0 L1
      have hk' : k < (sons l l[i].Id).length := by simpa using hi
      rw [List.drop_eq_getElem_cons hk', sumF] at hs
      simp -implicitDefEqProofs [↓gd_tt, ↓gd_ff, ↓gd_tf, ↓gd_ft, yQ]
      exact ⟨_, _, ⟨rfl, rfl⟩, by omega, hs⟩
    · rintro hp' ⟨x, y, rfl, hk, hs⟩
      simp [sumF] at hs
      have hx : x = (sumMin l[i].Id l 0 0).1 := by rw [← hs]
      have hy : y = (sumMin l[i].Id l 0 0).2 := by rw [← hs]
      simp only [minsAt, ← hx, ← hy] at hp
      simp -implicitDefEqProofs [↓gd_tt, ↓gd_ff, ↓gd_tf, ↓gd_ft]
      refine callK_pcall (vfits_spec _ _ _ _) rfl rfl ?_
      simp -implicitDefEqProofs [↓gd_tt, ↓gd_ff, ↓gd_tf, ↓gd_ft]
      refine ⟨fun e1 => ?_, fun e1 => ?_⟩
      · refine callK_pcall (vfits_spec _ _ _ _) rfl rfl ?_
        simp -implicitDefEqProofs [↓gd_tt, ↓gd_ff, ↓gd_tf, ↓gd_ft, wrap1 hl h]
        refine ⟨fun e2 => ?_, fun e2 => ⟨⟨by omega, ?_⟩, by omega⟩⟩
        · rw [← hp, e2]; simp
        · rw [← hp]; simp [e1, e2]
      · rw [← hp, e1]; simp
  · simp -implicitDefEqProofs [↓gd_tt, ↓gd_ff, ↓gd_tf, ↓gd_ft, h]
    rw [h, List.drop_length, minsF] at hp; exact hp.symm
end Go.Idl
end
section
namespace Go.Idl
open Go.Proofs
set_option linter.unusedSimpArgs false
set_option linter.unusedVariables false
set_option maxRecDepth 8000
variable (b : Bool)

theorem check1_spec (q : Q) : PCall Try.prog 119 [encQ q] (.d (.bool (!okQ q))) := by
  refine pcallS (fn := Try.f119) [] [] mixed (bodyOf Try.f119) [.tmp 2] Try.func119 rfl rfl (by decide) 22 rfl (by kernel_rfl) ?_
  simp -implicitDefEqProofs [↓gd_tt, ↓gd_ff, ↓gd_tf, ↓gd_ft, bodyOf, Try.f119, stripC, stripL, stripM, onsOf, upto, hintOf, freeOf, List.replicate]
  refine ⟨fun e1 => ⟨fun e2 => callK_pcall (vgood_spec _ _) rfl rfl ?_, fun e2 => by simp [okQ]; omega⟩, fun e1 => by simp [okQ]; omega⟩
  simp -implicitDefEqProofs [↓gd_tt, ↓gd_ff, ↓gd_tf, ↓gd_ft]
  refine ⟨fun e3 => callK_pcall (vgood_spec _ _) rfl rfl ?_, fun e3 => by simp [okQ, e3]⟩
  simp -implicitDefEqProofs [↓gd_tt, ↓gd_ff, ↓gd_tf, ↓gd_ft, okQ, e1, e2, e3]

theorem index_spec (g : FuncId) (l : List Q) (c : Q → Bool) (hb : hasBody Try.prog g = true) (hl : l.length ≤ maxLen) (hc : ∀ q ∈ l, PCall Try.prog g [encQ q] (.d (.bool (c q)))) :
    FCall Try.prog 146 [.d (encL b l), .fn (.func g) []] (.d (I (match l.findIdx? c with | some i => (i : Int) | none => -1))) := by
  refine fcallS (fn := Try.f146) [] [] mixed (bodyOf Try.f146) [.tmp 4] Try.func146 rfl rfl (by decide) 17 rfl (by kernel_rfl) ?_
  simp -implicitDefEqProofs [↓gd_tt, ↓gd_ff, ↓gd_tf, ↓gd_ft, bodyOf, Try.f146, stripC, stripL, stripM, onsOf, upto, hintOf, freeOf, List.replicate]
  refine loopA mixed [false, false, false, false, true, true, false, false, true, true, true, true, true, true, true, true, true, true, true] (fun (i : Nat) => [(8, .d (I i))]) (fun (i : Nat) => []) (fun (i : Nat) => i ≤ l.length ∧ ∀ j, j < i → ∀ h : j < l.length, c l[j] = false) (fun (i : Nat) => l.length - i) (0) (⟨Nat.zero_le _, by simp⟩) (by simp) ?_
  rintro i hx
  obtain ⟨hi, hp⟩ := hx
  rcases Nat.lt_or_eq_of_le hi with h | h
  · simp -implicitDefEqProofs [↓gd_tt, ↓gd_ff, ↓gd_tf, ↓gd_ft, h, hb]
    refine callK_pcall (hc l[i] (List.getElem_mem h)) rfl rfl ?_
    simp -implicitDefEqProofs [↓gd_tt, ↓gd_ff, ↓gd_tf, ↓gd_ft, wrap1 hl h]
    refine ⟨fun e => ?_, fun e => ⟨⟨by omega, fun j hj hjl => ?_⟩, by omega⟩⟩
    · have : l.findIdx? c = some i := List.findIdx?_eq_some_iff_getElem.2 ⟨h, e, fun j hj => by simp [hp j hj (by omega)]⟩
      rw [this]
    · rcases Nat.lt_or_eq_of_le (Nat.le_of_lt_succ hj) with k | rfl
      · exact hp j k hjl
      · exact e
  · simp -implicitDefEqProofs [↓gd_tt, ↓gd_ff, ↓gd_tf, ↓gd_ft, h]
    have : l.findIdx? c = none := List.findIdx?_eq_none_iff.2 fun x hx => by
      obtain ⟨j, hj, rfl⟩ := List.getElem_of_mem hx
      exact hp j (by omega) hj
    rw [this]

theorem contains_spec (g : FuncId) (l : List Q) (c : Q → Bool) (hb : hasBody Try.prog g = true) (hl : l.length ≤ maxLen) (hc : ∀ q ∈ l, PCall Try.prog g [encQ q] (.d (.bool (c q)))) :
    FCall Try.prog 122 [.d (encL b l), .fn (.func g) []] (.d (.bool (l.any c))) := by
  refine fcallS (fn := Try.f122) [] [] mixed (bodyOf Try.f122) [.tmp 4] Try.func122 rfl rfl (by decide) 7 rfl (by kernel_rfl) ?_
  simp -implicitDefEqProofs [↓gd_tt, ↓gd_ff, ↓gd_tf, ↓gd_ft, bodyOf, Try.f122, stripC, stripL, stripM, onsOf, upto, hintOf, freeOf, List.replicate]
  refine callK_fcall (index_spec b g l c hb hl hc) (by simp) (by simp) (by simp) (by simp) rfl ?_
  simp -implicitDefEqProofs [↓gd_tt, ↓gd_ff, ↓gd_tf, ↓gd_ft]
  cases e : l.findIdx? c with
  | some i =>
    simp
    obtain ⟨h, h1, _⟩ := List.findIdx?_eq_some_iff_getElem.1 e
    exact ⟨_, List.getElem_mem h, h1⟩
  | none => simp; exact List.findIdx?_eq_none_iff.1 e

theorem any_args (l : List Q) : l.any (fun q => !okQ q) = !argsF l := by
  induction l with
  | nil => rfl
  | cons q r ih => simp [argsF, ih]

theorem qcheck_spec (l : List Q) (hl : l.length ≤ maxLen) : PCall Try.prog 64 [encL b l] (.d (I (check l))) := by
  refine pcallS (fn := Try.f64) [] [] mixed (bodyOf Try.f64) [.tmp 2] Try.func64 rfl rfl (by decide) 19 rfl (by kernel_rfl) ?_
  simp -implicitDefEqProofs [↓gd_tt, ↓gd_ff, ↓gd_tf, ↓gd_ft, bodyOf, Try.f64, stripC, stripL, stripM, onsOf, upto, hintOf, freeOf, List.replicate]
  refine ⟨fun h => ?_, fun h => ?_⟩
  · have : 64 < l.length := by omega
    simp [check, this]
  have h64 : ¬ 64 < l.length := by omega
  refine callK_pcall (qform_spec b l (by omega)) rfl rfl ?_
  simp -implicitDefEqProofs [↓gd_tt, ↓gd_ff, ↓gd_tf, ↓gd_ft]
  refine ⟨fun hf => ?_, fun hf => ?_⟩
  · simp [check, h64, hf]
  refine callK_fcall (contains_spec b 119 l (fun q => !okQ q) (by simp) hl fun q _ => check1_spec q) (by simp) (by simp) (by simp) (by simp) rfl ?_
  rw [any_args]
  simp -implicitDefEqProofs [↓gd_tt, ↓gd_ff, ↓gd_tf, ↓gd_ft]
  refine ⟨fun ha => ?_, fun ha => callK_pcall (qmins_spec b l hl) rfl rfl ?_⟩
  · simp [check, h64, hf, ha]
  simp -implicitDefEqProofs [↓gd_tt, ↓gd_ff, ↓gd_tf, ↓gd_ft]
  simp [check, h64, hf, ha]
end Go.Idl
end
section
namespace Go.Idl
set_option linter.unusedSimpArgs false
set_option linter.unusedVariables false

section
variable {P : Program}
theorem ref_args {Φ : CM} {B : List Nat} {au : Auth} {w : World} {i z oi li ci : Nat} {v : Value} (h : RepS Φ B (.ref i z oi li ci) v) (hc : 0 < ci) : ∃ b, B[i]? = some b ∧ v = .slice (some ⟨b, oi * z, none⟩) li ci := by
  cases h with
  | ref e l q => exact ⟨_, e, by rw [q hc]⟩
  | ref0 => omega

/-- a datum is answered, all else is as it was -/
theorem answer {Φ : CM} {B : List Nat} {au : Auth} {w : World} {args : List V} {cargs : Array Value} {hp : List IObj} {x : D} {v : Value} (hi : Inv (Ctx.at_ Φ B au w) Φ B au ⟨args, hp, hp.length⟩ ⟨cargs, []⟩ w) (hv : RepD Φ x v) :
    Rel (Ctx.at_ Φ B au w) ⟨[.d x], hp, hp.length⟩ ⟨#[v], []⟩ w := by
  refine ⟨Φ, B, au, { phi := hi.phi, phia := hi.phia, auw := hi.auw, size := hi.size, keep := hi.keep, pre := hi.pre, lePhi := hi.lePhi, tl := rfl, tm := fun i V u hV hu => ?_, hl := hi.hl, nb := hi.nb, hp := hi.hp, df := ⟨[], rfl, List.nodup_nil, by simp⟩, rd := hi.rd, lp := hi.lp, src := hi.src, wo := hi.wo }⟩
  cases i with
  | zero => simp at hV hu; subst hV; subst hu; exact ⟨.d hv, trivial⟩
  | succ i => simp at hV

theorem overlaps_apart {f : FuncId} {fn : Func} {tS tR e : TypeId} {size : Nat} (hf : P.funcs[f]? = some fn) (hname : (fn.name == "runtime.NumGoroutine") = false) (hb : fn.body.isNone = true) (hn : Extern.findNext fn = none)
    (he : Extern.find fn = some (Extern.SlicesOverlaps.overlaps #[tS, tS] #[tR])) (ht : P.underlying tS = some (.slice e)) (hz : ∀ w, (Go.sizeOf e).run P w = .ok size w)
    {i j z oi li ci oj lj cj : Nat} {hp : List IObj} {xs ys : List D} {K : V → List IObj → Prop} (hij : i ≠ j) (h1 : hp[i]? = some (.arr z xs)) (h2 : hp[j]? = some (.arr z ys)) (hx : xs ≠ []) (hy : ys ≠ []) (h0 : 0 < z) (hc1 : 0 < ci) (hc2 : 0 < cj)
    (hk : K (.d (.bool false)) hp) : CallE P f [.ref i z oi li ci, .ref j z oj lj cj] hp K := by
  intro Φ B au w cargs hi
  have hl : cargs.size = 2 := hi.tl.symm
  obtain ⟨u, v, rfl⟩ : ∃ u v, cargs = #[u, v] := by
    rcases cargs with ⟨_ | ⟨x, _ | ⟨y, _ | ⟨q, l⟩⟩⟩⟩ <;> simp at hl
    exact ⟨x, y, rfl⟩
  obtain ⟨b1, e1, rfl⟩ := ref_args (w := w) (au := au) (hi.tm 0 _ _ rfl rfl).1 hc1
  obtain ⟨b2, e2, rfl⟩ := ref_args (w := w) (au := au) (hi.tm 1 _ _ rfl rfl).1 hc2
  obtain ⟨a1, c1, el1, q1, s1, _⟩ := hi.hp i _ b1 h1 e1 hx
  obtain ⟨a2, c2, el2, q2, s2, _⟩ := hi.hp j _ b2 h2 e2 hy
  have hne : b1 ≠ b2 := by
    rintro rfl
    rw [a1] at a2
    simp at a2
    exact hij a2
  have hs2 : c2.size ≠ 0 := by
    rw [s2]
    have : 0 < ys.length := List.length_pos_iff.2 hy
    exact Nat.ne_of_gt (Nat.mul_pos this h0)
  have hr := Lib.run_overlaps_apart w tS tR e ht size hz ⟨b1, oi * z, none⟩ ⟨b2, oj * z, none⟩ li ci lj cj hne el1 el2 c1.size c2.size (by simp [World.shape?, q1]) (by simp [World.shape?, q2]) hs2
    (by simp [World.frozen?, q1]) (by simp [World.frozen?, q1])
  refine ⟨.bool false, .d (.bool false), hp, w, ?_, hk, ?_⟩
  · rw [run_callFunc_extern hf hname hb hn he, hr]; rfl
  · exact answer hi (.bool false)

theorem run_overlaps2 {w : World} (tS tR e : TypeId) (ht : P.underlying tS = some (.slice e)) (size : Nat) (hz : ∀ w, (Go.sizeOf e).run P w = .ok size w)
    (a b : Addr) (la ca lb cb : Nat) (hne : a.block ≠ b.block) (tA tB : TypeId) (kA kB : Nat)
    (hsa : w.shape? a.block = some (tA, kA)) (hsb : w.shape? b.block = some (tB, kB)) (hkA : kA ≠ 0) (hkB : kB ≠ 0)
    (hfb : w.frozen? b = false) (hfe : w.frozen? { block := b.block, off := kB } = false) :
    (Extern.SlicesOverlaps.overlaps #[tS, tS] #[tR] #[.slice (some a) la ca, .slice (some b) lb cb]).run P w = .ok (.bool false) w := by
  have hnb : (a.block != b.block) = true := by simpa using hne
  have hnb' : (a.block == b.block) = false := by simpa using hne
  change Sem.run P (α := Value) (do
    let some t := (#[tS, tS] : Array TypeId)[0]? | stuck "slices.overlaps: no parameter types"
    let .slice elem ← underlying t | stuck "slices.overlaps: slice type expected"
    let size ← sizeOf elem
    match (some a : Option Addr), (some b : Option Addr) with
    | some a, some b =>
      if la = 0 ∨ lb = 0 ∨ size = 0 then pure (Value.bool false)
      else if a.block != b.block && (← frozen a) && (← frozen b) then unsupported .addressObserved
      else do
        if a.block != b.block then do
          noView a; noView b
          if ← mayBeOne a b then return Value.bool ((← choose (.extern "sameAddr.stringBytes" 2)) == 1)
        pure (Value.bool (a.block == b.block && a.off < b.off + lb * size && b.off < a.off + la * size))
    | _, _ => pure (Value.bool false)) w = _
  by_cases h0 : la = 0 ∨ lb = 0 ∨ size = 0
  · simp [run_underlying ht, hz, h0]
  · cases kA with
    | zero => exact absurd rfl hkA
    | succ kA => cases kB with
      | zero => exact absurd rfl hkB
      | succ kB =>
        cases hfa : w.frozen? a <;> cases hfe2 : w.frozen? { block := a.block, off := kA + 1 } <;>
        simp [run_underlying ht, hz, h0, hnb, hnb', frozen, noView, viewAt, mayBeOne, stringish, shape, Sem.run, hsa, hsb, hfa, hfe, hfb, hfe2]

theorem overlaps_data {f : FuncId} {fn : Func} {tS tR e : TypeId} {size : Nat} (hf : P.funcs[f]? = some fn) (hname : (fn.name == "runtime.NumGoroutine") = false) (hb : fn.body.isNone = true) (hn : Extern.findNext fn = none)
    (he : Extern.find fn = some (Extern.SlicesOverlaps.overlaps #[tS, tS] #[tR])) (ht : P.underlying tS = some (.slice e)) (hz : ∀ w, (Go.sizeOf e).run P w = .ok size w)
    {j z oj lj cj : Nat} {hp : List IObj} {l : Bool} {xs ys : List D} {K : V → List IObj → Prop} (h2 : hp[j]? = some (.arr z ys)) (hx : xs ≠ []) (hy : ys ≠ []) (h0 : 0 < z) (hc2 : 0 < cj)
    (hk : K (.d (.bool false)) hp) : CallE P f [.d (.sl l z xs), .ref j z oj lj cj] hp K := by
  intro Φ B au w cargs hi
  have hl : cargs.size = 2 := hi.tl.symm
  obtain ⟨u, v, rfl⟩ : ∃ u v, cargs = #[u, v] := by
    rcases cargs with ⟨_ | ⟨x, _ | ⟨y, _ | ⟨q, l⟩⟩⟩⟩ <;> simp at hl
    exact ⟨x, y, rfl⟩
  have hd := (hi.tm 0 _ _ rfl rfl).1
  obtain ⟨b2, e2, rfl⟩ := ref_args (w := w) (au := au) (hi.tm 1 _ _ rfl rfl).1 hc2
  obtain ⟨a2, c2, el2, q2, s2, _⟩ := hi.hp j _ b2 h2 e2 hy
  cases hd with | d hd =>
  obtain ⟨ad, cap, rfl, _, hel⟩ := hd.sl_inv
  obtain ⟨b1, o1, e1, hel2⟩ := hel hx
  subst e1
  obtain ⟨x0, hx0⟩ : ∃ x0, xs[0]? = some x0 := by
    cases xs with
    | nil => exact absurd rfl hx
    | cons x xs => exact ⟨x, rfl⟩
  obtain ⟨hz0, hcells⟩ := hel2.get 0 x0 hx0
  obtain ⟨d0, hd0⟩ : ∃ d0, x0.flat[0]? = some d0 := ⟨_, List.getElem?_eq_getElem (by omega)⟩
  obtain ⟨v0, hv0, _, _⟩ := hcells.get 0 d0 hd0
  have hcell := hi.phi _ _ _ _ hv0
  have hne : b1 ≠ b2 := by
    rintro rfl
    have := hi.phia _ _ _ _ _ _ hv0 a2
    omega
  have hs2 : c2.size ≠ 0 := by
    rw [s2]
    have : 0 < ys.length := List.length_pos_iff.2 hy
    exact Nat.ne_of_gt (Nat.mul_pos this h0)
  obtain ⟨tA, kA, hsa, hkA⟩ : ∃ tA kA, w.shape? b1 = some (tA, kA) ∧ kA ≠ 0 := by
    unfold World.cell? at hcell
    unfold World.shape?
    split at hcell
    · rename_i c el fr hh
      rw [hh]
      refine ⟨el, c.size, rfl, ?_⟩
      split at hcell
      · cases hcell
      · have := (Array.getElem?_eq_some_iff.1 hcell).1; omega
    · cases hcell
  have hr := run_overlaps2 (P := P) (w := w) tS tR e ht size hz ⟨b1, o1, none⟩ ⟨b2, oj * z, none⟩ xs.length cap lj cj hne tA el2 kA c2.size hsa (by simp [World.shape?, q2]) hkA hs2
    (by simp [World.frozen?, q2]) (by simp [World.frozen?, q2])
  refine ⟨.bool false, .d (.bool false), hp, w, ?_, hk, ?_⟩
  · rw [run_callFunc_extern hf hname hb hn he, hr]; rfl
  · exact answer hi (.bool false)
end
end Go.Idl
end
section
namespace Go.Idl
open Go.Proofs
set_option linter.unusedSimpArgs false
set_option linter.unusedVariables false
set_option maxRecDepth 8000
variable (b : Bool)

theorem made_mem {hp : List IObj} {id off n cap : Nat} {xs : List D} {K : V → List IObj → Prop} (l : List Q) (h : hp[id]? = some (.arr 7 xs)) (hc : n ≤ cap) (hl : off + cap ≤ xs.length) (he : (xs.drop off).take n = l.map encQ) (hm : l.length ≤ maxLen)
    (h0 : check l = 0 → K (.tup [.ref id 7 off n cap, .d (I 0)]) hp) (h1 : check l ≠ 0 → K (.tup [.nil 7, .d (I (check l))]) hp) : CallK Try.prog 66 [.ref id 7 off n cap] hp K := by
  refine callS (fn := Try.f66) [] [] mixed (bodyOf Try.f66) [.tmp 2, .tmp 3] Try.func66 rfl rfl (by decide) 10 rfl (by kernel_rfl) ?_
  simp -implicitDefEqProofs [↓gd_tt, ↓gd_ff, ↓gd_tf, ↓gd_ft, bodyOf, Try.f66, stripC, stripL, stripM, onsOf, upto, hintOf, freeOf, List.replicate]
  have hx : lendL hp [.ref id 7 off n cap] = some [encL true l] := by simp [h, he, hc, hl]
  refine callK_lend (qcheck_spec true l hm) hx rfl trivial ?_
  simp -implicitDefEqProofs [↓gd_tt, ↓gd_ff, ↓gd_tf, ↓gd_ft]
  exact ⟨h1, h0⟩

theorem clone_mem {hp : List IObj} {K : V → List IObj → Prop} (l : List Q) (hl : 0 < l.length) (hm : l.length ≤ 64) (hk : ∀ cap, l.length ≤ cap → K (.ref (hp.length + 1) 7 0 l.length cap) (hp ++ [.arr 7 [], .arr 7 (l.map encQ ++ List.replicate (cap - l.length) (encQ q0))])) :
    CallK Try.prog 68 [.d (encL b l)] hp K := by
  refine callS (fn := Try.f68) [(5, 1)] [] mixed (bodyOf Try.f68) [.tmp 2] Try.func68 rfl rfl (by decide) 7 rfl (by kernel_rfl) ?_
  simp -implicitDefEqProofs [↓gd_tt, ↓gd_ff, ↓gd_tf, ↓gd_ft, bodyOf, Try.f68, stripC, stripL, stripM, onsOf, upto, hintOf, freeOf, List.replicate]
  have hn : l ≠ [] := by rintro rfl; simp at hl
  exact ⟨fun _ => ⟨by omega, fun e => absurd e hn, fun _ cap h => hk cap h⟩, fun e => absurd e hn⟩

theorem overlaps_spec {l : Bool} {j oj lj cj : Nat} {hp : List IObj} {xs ys : List D} {K : V → List IObj → Prop} (h2 : hp[j]? = some (.arr 7 ys)) (hx : xs ≠ []) (hy : ys ≠ []) (hc2 : 0 < cj)
    (hk : K (.d (.bool false)) hp) : CallE Try.prog 126 [.d (.sl l 7 xs), .ref j 7 oj lj cj] hp K := by
  obtain ⟨e, ii, _, hut, hi, _, _, _, _⟩ := elI_inv (elI22)
  exact overlaps_data (tS := 22) (tR := 4) (e := e) (fn := Try.f126) rfl (by kernel_rfl) (by kernel_rfl) (by kernel_rfl) (by kernel_rfl) hut (fun w => run_sizeOf hi) h2 hx hy (by decide) hc2 hk

theorem wr {n : Int} (h : -9223372036854775808 ≤ n) (h' : n ≤ 9223372036854775807) : IntKind.i64.wrap n = n := wrap_i64 (by omega) (by omega)

theorem insert_end {hp : List IObj} {bq : Bool} {id n cap : Nat} {xs : List D} {x : D} {K : V → List IObj → Prop} (h : hp[id]? = some (.arr 7 xs)) (hc : n ≤ cap) (hl : cap ≤ xs.length) (hn : 0 < n) (hm : n ≤ 64)
    (hk : ∀ id' cap' hp' ys, hp'[id']? = some (.arr 7 ys) → n + 1 ≤ cap' → cap' ≤ ys.length → ys.take (n + 1) = xs.take n ++ [x] → K (.ref id' 7 0 (n + 1) cap') hp') :
    CallK Try.prog 67 [.ref id 7 0 n cap, .d (I n), .d (.sl bq 7 [x])] hp K := by
  refine callS (fn := Try.f67) [] [(11, 8), (15, 8)] mixed (bodyOf Try.f67) [.tmp 6] Try.func67 rfl rfl (by decide) 92 rfl (by kernel_rfl) ?_
  simp -implicitDefEqProofs [↓gd_tt, ↓gd_ff, ↓gd_tf, ↓gd_ft, bodyOf, Try.f67, stripC, stripL, stripM, onsOf, upto, hintOf, freeOf, List.replicate, h, hc, hl]
  have hlt : id < hp.length := (List.getElem?_eq_some_iff.1 h).1
  refine ⟨by omega, fun hr => hk _ _ _ _ (by simp [hlt]; rfl) hr (by simp; omega) ?_, fun hr cap' h' => hk _ _ _ _ (by simp; rfl) h' (by simp; omega) ?_⟩
  · rw [List.take_append, List.take_of_length_le (by simp; omega)]
    simp [show min n xs.length = n by omega, show n + 1 - n = 1 by omega]
  · rw [List.take_append, List.take_of_length_le (by simp; omega)]
    simp [show min n xs.length = n by omega, show n + 1 - n = 1 by omega]
theorem ins_take {α : Type} {xs : List α} {x : α} {i n : Nat} (hi : i < n) (hx : n ≤ xs.length) (T T' : List α) :
    List.take (n + 1) (List.take (i + 1) (List.take i xs ++ (List.take (n + 1 - i) [x] ++ T)) ++ (List.take (n - i) (List.take (n - i) (List.drop i xs)) ++ T')) = List.take i xs ++ [x] ++ List.take (n - i) (List.drop i xs) := by
  have e1 : List.take (n + 1 - i) [x] = [x] := List.take_of_length_le (by simp; omega)
  have e2 : List.take (i + 1) (List.take i xs ++ ([x] ++ T)) = List.take i xs ++ [x] := by
    rw [← List.append_assoc, List.take_left' (by simp; omega)]
  rw [e1, e2, List.take_take, Nat.min_self, ← List.append_assoc, List.take_left' (by simp; omega)]
theorem shift_take {α : Type} {xs : List α} {x : α} {i n : Nat} (hi : i < n) (hx : n + 1 ≤ xs.length) (W : List α) :
    List.take (n + 1) (List.take i (List.take (i + 1) xs ++ (List.take (n - i) (List.take (n + 1 - i) (List.drop i xs)) ++ W)) ++ (List.take (n + 1 - i) [x] ++ List.drop (i + min (n + 1 - i) 1) (List.take (i + 1) xs ++ (List.take (n - i) (List.take (n + 1 - i) (List.drop i xs)) ++ W)))) =
      List.take i xs ++ [x] ++ List.take (n - i) (List.drop i xs) := by
  have e1 : List.take (n + 1 - i) [x] = [x] := List.take_of_length_le (by simp; omega)
  have e2 : ∀ Z : List α, List.take i (List.take (i + 1) xs ++ Z) = List.take i xs := fun Z => by
    rw [List.take_append_of_le_length (by simp; omega), List.take_take, Nat.min_eq_left (by omega)]
  have e3 : ∀ Z : List α, List.drop (i + min (n + 1 - i) 1) (List.take (i + 1) xs ++ Z) = Z := fun Z => by
    rw [show i + min (n + 1 - i) 1 = i + 1 by omega, List.drop_left' (by simp; omega)]
  have e4 : List.take (n - i) (List.take (n + 1 - i) (List.drop i xs)) = List.take (n - i) (List.drop i xs) := by
    rw [List.take_take, Nat.min_eq_left (by omega)]
  rw [e2, e3, e1, e4, ← List.append_assoc, ← List.append_assoc, List.take_left' (by simp; omega)]
theorem insert_grow {hp : List IObj} {bq : Bool} {id n cap i : Nat} {xs : List D} {x : D} {K : V → List IObj → Prop} (h : hp[id]? = some (.arr 7 xs)) (hc : n ≤ cap) (hl : cap ≤ xs.length) (hi : i < n) (hm : n ≤ 64) (hg : cap < n + 1)
    (hk : ∀ id' cap' hp' ys, hp'[id']? = some (.arr 7 ys) → n + 1 ≤ cap' → cap' ≤ ys.length → ys.take (n + 1) = xs.take i ++ [x] ++ (xs.drop i).take (n - i) → K (.ref id' 7 0 (n + 1) cap') hp') :
    CallK Try.prog 67 [.ref id 7 0 n cap, .d (I i), .d (.sl bq 7 [x])] hp K := by
  have w1 : IntKind.i64.wrap ((n : Int) + 1) = (n : Int) + 1 := wr (by omega) (by omega)
  have w2 : IntKind.i64.wrap ((n : Int) + 1 - i) = (n : Int) + 1 - i := wr (by omega) (by omega)
  have w3 : IntKind.i64.wrap ((i : Int) + 1) = (i : Int) + 1 := wr (by omega) (by omega)
  have t2 : ((n : Int) + 1 - i).toNat = n + 1 - i := by omega
  have t3 : ((i : Int) + 1).toNat = i + 1 := by omega
  have c1 : ¬ (i : Int) = (n : Int) := by omega
  have c2 : (cap : Int) < (n : Int) + 1 := by omega
  have c3 : i ≤ n := by omega
  have c4 : (i : Int) ≤ (n : Int) + 1 := by omega
  have c7 : ((n : Int) + 1 - i) * 56 ≤ 140737488355328 := by omega
  have c8 : (n : Int) + 1 - i ≤ 140737488355328 := by omega
  have c9 : i + (n + 1 - i) = n + 1 := by omega
  have c10 : (i : Int) + ((n + 1 - i : Nat) : Int) = (n : Int) + 1 := by omega
  have c11 : ((n : Int) + 1).toNat = n + 1 := by omega
  have c12 : i ≤ n + 1 := by omega
  have hg' : ¬ n + 1 ≤ cap := by omega
  have c5 : i ≤ cap := by omega
  have c6 : i ≤ xs.length := by omega
  refine callS (fn := Try.f67) [] [(11, 8), (15, 8)] mixed (bodyOf Try.f67) [.tmp 6] Try.func67 rfl rfl (by decide) 92 rfl (by kernel_rfl) ?_
  simp -implicitDefEqProofs [↓gd_tt, ↓gd_ff, ↓gd_tf, ↓gd_ft, bodyOf, Try.f67, stripC, stripL, stripM, onsOf, upto, hintOf, freeOf, List.replicate, h, hc, hl, w1, w2, w3, t2, t3, c1, c2, c3, c4, c5, c6, c7, c8, c9, c10, c11, c12, hg']
  have hlt : id < hp.length := (List.getElem?_eq_some_iff.1 h).1
  refine ⟨by omega, fun _ cap' h' => ?_⟩
  have d1 : (n : Int) + 1 ≤ (cap' : Int) := by omega
  have d2 : 0 ≤ (i : Int) + 1 := by omega
  have d3 : n + 1 - i ≤ cap' - i := by omega
  have d4 : n - i ≤ cap' - (i + 1) := by omega
  simp -implicitDefEqProofs [↓gd_tt, ↓gd_ff, ↓gd_tf, ↓gd_ft, h, h', d1, d2, d3, d4, List.getElem?_append_left hlt, hc, hl, c6]
  refine ⟨by omega, by omega, by omega, hk _ _ _ _ (by simp; rfl) h' (by simp; omega) (ins_take (by omega) (by omega) _ _)⟩

theorem insert_shift {hp : List IObj} {bq : Bool} {id n cap i : Nat} {xs : List D} {x : D} {K : V → List IObj → Prop} (h : hp[id]? = some (.arr 7 xs)) (hc : n ≤ cap) (hl : cap ≤ xs.length) (hi : i < n) (hm : n ≤ 64) (hg : n + 1 ≤ cap)
    (hk : ∀ id' cap' hp' ys, hp'[id']? = some (.arr 7 ys) → n + 1 ≤ cap' → cap' ≤ ys.length → ys.take (n + 1) = xs.take i ++ [x] ++ (xs.drop i).take (n - i) → K (.ref id' 7 0 (n + 1) cap') hp') :
    CallK Try.prog 67 [.ref id 7 0 n cap, .d (I i), .d (.sl bq 7 [x])] hp K := by
  have w1 : IntKind.i64.wrap ((n : Int) + 1) = (n : Int) + 1 := wr (by omega) (by omega)
  have w3 : IntKind.i64.wrap ((i : Int) + 1) = (i : Int) + 1 := wr (by omega) (by omega)
  have t3 : ((i : Int) + 1).toNat = i + 1 := by omega
  have c1 : ¬ (i : Int) = (n : Int) := by omega
  have c2 : ¬ (cap : Int) < (n : Int) + 1 := by omega
  have c3 : i ≤ n := by omega
  have c11 : ((n : Int) + 1).toNat = n + 1 := by omega
  have c12 : (n : Int) + 1 ≤ (cap : Int) := by omega
  have c13 : 0 ≤ (n : Int) + 1 := by omega
  have c14 : 0 ≤ (i : Int) + 1 := by omega
  have c15 : (i : Int) ≤ (n : Int) := by omega
  have hlt : id < hp.length := (List.getElem?_eq_some_iff.1 h).1
  refine callS (fn := Try.f67) [] [(11, 8), (15, 8)] mixed (bodyOf Try.f67) [.tmp 6] Try.func67 rfl rfl (by decide) 92 rfl (by kernel_rfl) ?_
  simp -implicitDefEqProofs [↓gd_tt, ↓gd_ff, ↓gd_tf, ↓gd_ft, bodyOf, Try.f67, stripC, stripL, stripM, onsOf, upto, hintOf, freeOf, List.replicate, h, hc, hl, w1, w3, t3, c1, c2, c3, c11, c12, c13, c14, c15, hg]
  refine overlaps_spec h (by simp) (by rintro rfl; simp at hl; omega) (by omega) ?_
  have f1 : (i : Int) ≤ (n : Int) + 1 := by omega
  have f2 : n + 1 ≤ cap - i + i := by omega
  have f3 : i + (cap - i) ≤ xs.length := by omega
  have f4 : n - i ≤ cap - (i + 1) := by omega
  have f5 : i + 1 + (cap - (i + 1)) ≤ xs.length := by omega
  have f6 : n + 1 - i ≤ cap - i := by omega
  have g1 : ∀ A : IObj, (hp.set id A)[id]? = some A := fun A => by rw [List.getElem?_set_self hlt]
  have g3 : ∀ A B : IObj, ((hp.set id A).set id B)[id]? = some B := fun A B => by rw [List.set_set, g1]
  simp -implicitDefEqProofs [↓gd_tt, ↓gd_ff, ↓gd_tf, ↓gd_ft, h, g1, f1, f2, f3, f4, f5, f6, hg, hc, hl, w1, w3, t3, c1, c2, c3, c11, c12, c13, c14, c15]
  refine ⟨by omega, hk _ _ _ _ (g1 _) hg (by simp; omega) (shift_take hi (by omega) _)⟩

theorem insert_mem {hp : List IObj} {bq : Bool} {id n cap i : Nat} {xs : List D} {x : D} {K : V → List IObj → Prop} (h : hp[id]? = some (.arr 7 xs)) (hc : n ≤ cap) (hl : cap ≤ xs.length) (hi : i ≤ n) (hn : 0 < n) (hm : n ≤ 64)
    (hk : ∀ id' cap' hp' ys, hp'[id']? = some (.arr 7 ys) → n + 1 ≤ cap' → cap' ≤ ys.length → ys.take (n + 1) = xs.take i ++ [x] ++ (xs.drop i).take (n - i) → K (.ref id' 7 0 (n + 1) cap') hp') :
    CallK Try.prog 67 [.ref id 7 0 n cap, .d (I i), .d (.sl bq 7 [x])] hp K := by
  rcases Nat.lt_or_eq_of_le hi with h' | rfl
  · rcases Nat.lt_or_ge cap (n + 1) with hg | hg
    · exact insert_grow h hc hl h' hm hg hk
    · exact insert_shift h hc hl h' hm hg hk
  · exact insert_end h hc hl hn hm fun id' cap' hp' ys h1 h2 h3 h4 => hk id' cap' hp' ys h1 h2 h3 (by simpa using h4)

end Go.Idl
end
section
namespace Go.Idl
set_option linter.unusedSimpArgs false
set_option linter.unusedVariables false

/-- Add -/
def addE (l : List Q) (q : Q) : Int := if check l ≠ 0 then check l else if has l q.Id = true then 9 else if 64 ≤ l.length then 10 else if has l q.Par = false then 8 else 0
def addF (q : Q) : List Q → List Q → Bool → List Q
  | [], m, put => if put = false then m ++ [q] else m
  | x :: r, m, put => if put = false ∧ q.Id < x.Id then addF q r (m ++ [q] ++ [x]) true else addF q r (m ++ [x]) put
def ins (l : List Q) (q : Q) : List Q := l.take (pos l q.Id) ++ [q] ++ l.drop (pos l q.Id)
theorem addF_true (q : Q) : ∀ (l m : List Q), addF q l m true = m ++ l
  | [], m => by simp [addF]
  | x :: r, m => by rw [addF, if_neg (by simp), addF_true q r]; simp
theorem pos_cons (x : Q) (r : List Q) (id : Int) : pos (x :: r) id = if x.Id < id then pos r id + 1 else 0 := by
  unfold pos; rw [List.takeWhile_cons]
  by_cases h : x.Id < id <;> simp [h]
theorem addF_false (q : Q) : ∀ (l m : List Q), (∀ x ∈ l, x.Id ≠ q.Id) → addF q l m false = m ++ ins l q
  | [], m, _ => by simp [addF, ins]
  | x :: r, m, hn => by
    have h1 := hn x (by simp)
    rw [addF]
    by_cases h : q.Id < x.Id
    · rw [if_pos ⟨rfl, h⟩, addF_true]
      simp [ins, pos_cons, show ¬ x.Id < q.Id by omega]
    · rw [if_neg (by simp [h]), addF_false q r _ fun y hy => hn y (by simp [hy])]
      simp [ins, pos_cons, show x.Id < q.Id by omega]
theorem has_mem {l : List Q} {id : Int} : has l id = true ↔ ∃ q ∈ l, q.Id = id := by
  have key : ∀ (l : List Q) (i : Nat), 0 ≤ placeF id l i ↔ ∃ q ∈ l, q.Id = id := by
    intro l
    induction l with
    | nil => intro i; simp [placeF]
    | cons x r ih =>
      intro i
      unfold placeF
      split
      · rename_i e; simp [e]
      · rename_i e; rw [ih]; simp [e]
  unfold has place
  rw [decide_eq_true_eq, key]
theorem addF_ins {l : List Q} {q : Q} (h : has l q.Id = false) : addF q l [] false = ins l q := by
  rw [addF_false]
  · simp
  · intro x hx e
    have : has l q.Id = true := has_mem.2 ⟨x, hx, e⟩
    rw [h] at this; cases this

/-- Set -/
def setE (l : List Q) (q : Q) : Int := if check l ≠ 0 then check l else if has l q.Id = false then 8 else if (find l q.Id).Par ≠ q.Par then 4 else 0
def setL (l : List Q) (q : Q) : List Q := l.set (place l q.Id).toNat q
theorem set_pos {l : List Q} {q : Q} (hr : Rises l) (h : has l q.Id = true) : setL l q = l.set (pos l q.Id) q ∧ ∀ h' : pos l q.Id < l.length, find l q.Id = l[pos l q.Id] := by
  obtain ⟨h1, h2, h3⟩ := place_pos hr h
  unfold setL find
  rw [h1]
  simp [h2]

/-- Drop -/
def sonIds (l : List Q) (id : Int) : List Int := (l.filter fun q => decide (q.Par = id)).map (·.Id)
end Go.Idl
end
section
namespace Go.Idl
open Go.Proofs
set_option linter.unusedSimpArgs false
set_option linter.unusedVariables false
set_option maxRecDepth 8000
variable (b : Bool)



/-- a list, if it is right -/
def doneP (m : List Q) : V := if check m = 0 then .tup [.d (encL false m), .d (I 0)] else .tup [.nil 7, .d (I (check m))]
def addP (l : List Q) (q : Q) : V := if addE l q = 0 then doneP (ins l q) else .tup [.nil 7, .d (I (addE l q))]
theorem small {α : Type} {l : List α} (h : l.length ≤ 64) : l.length ≤ 140737488355328 := by omega
set_option maxHeartbeats 4000000 in
theorem qadd_spec (l : List Q) (q : Q) (hl : l.length ≤ maxLen) : PCall Try.prog 19 [encL b l, encQ q] (addP l q) := by
  refine pcallS (fn := Try.f19) [] [(12, 1001005)] mixed (bodyOf Try.f19) [.tmp 4, .tmp 5] Try.func19 rfl rfl (by decide) 46 rfl (by kernel_rfl) ?_
  simp -implicitDefEqProofs [↓gd_tt, ↓gd_ff, ↓gd_tf, ↓gd_ft, bodyOf, Try.f19, stripC, stripL, stripM, onsOf, upto, hintOf, freeOf, List.replicate]
  refine callK_pcall (qcheck_spec b l hl) rfl rfl ?_
  simp -implicitDefEqProofs [↓gd_tt, ↓gd_ff, ↓gd_tf, ↓gd_ft]
  refine ⟨fun hc => by simp [addP, addE, hc], fun hc => ?_⟩
  have hr := check_rises hc
  have h64 := check_len hc
  refine callK_pcall (qfind_spec b l q.Id (small h64.2) hr) rfl rfl ?_
  simp -implicitDefEqProofs [↓gd_tt, ↓gd_ff, ↓gd_tf, ↓gd_ft]
  refine callK_pcall (qfind_spec b l q.Par (small h64.2) hr) rfl rfl ?_
  simp -implicitDefEqProofs [↓gd_tt, ↓gd_ff, ↓gd_tf, ↓gd_ft]
  refine ⟨fun e => by simp [addP, addE, hc, e], fun e1 => ⟨fun e => by simp [addP, addE, hc, e1, show 64 ≤ l.length by omega], fun e2 => ⟨fun e => by simp [addP, addE, hc, e1, show ¬ 64 ≤ l.length by omega, e], fun e3 => ?_⟩⟩⟩
  have hE : addE l q = 0 := by simp [addE, hc, e1, show ¬ 64 ≤ l.length by omega, e3]
  have hpos : pos l q.Id ≤ l.length := pos_le _ _
  refine clone_mem b l h64.1 h64.2 fun cap hcap => ?_
  refine ⟨⟨_, rfl⟩, ?_⟩
  rw [anyGo]
  simp -implicitDefEqProofs [↓gd_tt, ↓gd_ff, ↓gd_tf, ↓gd_ft, anyL]
  refine insert_mem (xs := l.map encQ ++ List.replicate (cap - l.length) (encQ q0)) rfl hcap (by simp; omega) hpos h64.1 h64.2 fun id' cap' hp' ys k1 k2 k3 k4 => ?_
  ((try simp only [kont_run]); rw [anyGo]; simp -implicitDefEqProofs [↓gd_tt, ↓gd_ff, ↓gd_tf, ↓gd_ft, anyL])
  have k5 : List.take (l.length + 1) ys = (ins l q).map encQ := by
    rw [k4, List.take_append_of_le_length (by simpa using hpos), List.drop_append_of_le_length (by simpa using hpos), List.take_append_of_le_length (by simp), List.take_of_length_le (l := List.drop _ _) (by simp)]
    simp [ins, List.map_take, List.map_drop]
  have k7 : l.length + 1 ≤ ys.length := by omega
  have k6 : (ins l q).length ≤ maxLen := by
    have : 66 ≤ maxLen := by decide
    simp [ins]; omega
  refine made_mem (off := 0) (n := l.length + 1) (ins l q) k1 k2 (by omega) (by simpa using k5) k6 (fun c0 => ?_) (fun c0 => ?_)
  · have hv : addP l q = .tup [.d (encL false (ins l q)), .d (I 0)] := by simp [addP, hE, doneP, c0]
    rw [hv]
    ((try simp only [kont_run]); rw [anyGo]; simp -implicitDefEqProofs [↓gd_tt, ↓gd_ff, ↓gd_tf, ↓gd_ft, anyL])
    constructor <;> (((try simp only [kont_run]); rw [anyGo]; simp -implicitDefEqProofs [↓gd_tt, ↓gd_ff, ↓gd_tf, ↓gd_ft, anyL]); ((try simp only [kont_run]); rw [anyGo]; simp -implicitDefEqProofs [↓gd_tt, ↓gd_ff, ↓gd_tf, ↓gd_ft, anyL]); ((try simp only [kont_run]); rw [anyGo]; simp -implicitDefEqProofs [↓gd_tt, ↓gd_ff, ↓gd_tf, ↓gd_ft, anyL]); rw [anyGo]; simp -implicitDefEqProofs [↓gd_tt, ↓gd_ff, ↓gd_tf, ↓gd_ft, k1, k2, k3, k5, k7])
  · have hv : addP l q = .tup [.nil 7, .d (I (check (ins l q)))] := by simp [addP, hE, doneP, c0]
    rw [hv]
    ((try simp only [kont_run]); rw [anyGo]; simp -implicitDefEqProofs [↓gd_tt, ↓gd_ff, ↓gd_tf, ↓gd_ft, anyL])
    constructor <;> (((try simp only [kont_run]); rw [anyGo]; simp -implicitDefEqProofs [↓gd_tt, ↓gd_ff, ↓gd_tf, ↓gd_ft, anyL]); ((try simp only [kont_run]); rw [anyGo]; simp -implicitDefEqProofs [↓gd_tt, ↓gd_ff, ↓gd_tf, ↓gd_ft, anyL]); ((try simp only [kont_run]); rw [anyGo]; simp -implicitDefEqProofs [↓gd_tt, ↓gd_ff, ↓gd_tf, ↓gd_ft, anyL]); rw [anyGo]; simp -implicitDefEqProofs [↓gd_tt, ↓gd_ff, ↓gd_tf, ↓gd_ft])

def setP (l : List Q) (q : Q) : V := if setE l q = 0 then doneP (setL l q) else .tup [.nil 7, .d (I (setE l q))]
theorem qset_spec (l : List Q) (q : Q) (hl : l.length ≤ maxLen) : PCall Try.prog 21 [encL b l, encQ q] (setP l q) := by
  refine pcallS (fn := Try.f21) [] [] mixed (bodyOf Try.f21) [.tmp 4, .tmp 5] Try.func21 rfl rfl (by decide) 42 rfl (by kernel_rfl) ?_
  simp -implicitDefEqProofs [↓gd_tt, ↓gd_ff, ↓gd_tf, ↓gd_ft, bodyOf, Try.f21, stripC, stripL, stripM, onsOf, upto, hintOf, freeOf, List.replicate]
  refine callK_pcall (qcheck_spec b l hl) rfl rfl ?_
  simp -implicitDefEqProofs [↓gd_tt, ↓gd_ff, ↓gd_tf, ↓gd_ft]
  refine ⟨fun hc => by simp [setP, setE, hc], fun hc => ?_⟩
  have hr := check_rises hc
  have h64 := check_len hc
  refine callK_pcall (qfind_spec b l q.Id (small h64.2) hr) rfl rfl ?_
  simp -implicitDefEqProofs [↓gd_tt, ↓gd_ff, ↓gd_tf, ↓gd_ft]
  refine ⟨fun e => by simp [setP, setE, hc, e], fun e1 => ?_⟩
  obtain ⟨p1, p2⟩ := set_pos hr e1
  obtain ⟨p3, p4, p5⟩ := place_pos hr e1
  have p6 := p2 p4
  simp -implicitDefEqProofs [↓gd_tt, ↓gd_ff, ↓gd_tf, ↓gd_ft, p4]
  refine ⟨fun e => by simp [setP, setE, hc, e1, p6, e], fun e2 => ?_⟩
  have hE : setE l q = 0 := by simp [setE, hc, e1, p6, e2]
  refine clone_mem b l h64.1 h64.2 fun cap hcap => ?_
  have g1 : pos l q.Id < l.length + (cap - l.length) := by omega
  have g2 : ∀ R : List D, (l.map encQ ++ R)[pos l q.Id]? = some (encQ l[pos l q.Id]) := fun R => by
    rw [List.getElem?_append_left (by simpa using p4)]; simp [p4]
  simp -implicitDefEqProofs [↓gd_tt, ↓gd_ff, ↓gd_tf, ↓gd_ft, p4, hcap, g1, g2]
  have k5 : (setL l q).map encQ = (l.map encQ).set (pos l q.Id) (encQ q) := by rw [p1]; simp [List.map_set]
  refine made_mem (off := 0) (n := l.length) (setL l q) rfl hcap (by simp; omega) (by rw [k5]; simp) (by simp [setL]; exact hl) (fun c0 => ?_) (fun c0 => ?_)
  · have hv : setP l q = .tup [.d (encL false (setL l q)), .d (I 0)] := by simp [setP, hE, doneP, c0]
    rw [hv]
    simp -implicitDefEqProofs [↓gd_tt, ↓gd_ff, ↓gd_tf, ↓gd_ft, hcap, k5]
  · have hv : setP l q = .tup [.nil 7, .d (I (check (setL l q)))] := by simp [setP, hE, doneP, c0]
    rw [hv]
    simp -implicitDefEqProofs [↓gd_tt, ↓gd_ff, ↓gd_tf, ↓gd_ft]

theorem sonsF_ids (id : Int) : ∀ (l : List Q) (i : Nat), (sonsF id l i).map (·.2.Id) = sonIds l id
  | [], _ => rfl
  | q :: r, i => by
    have ih := sonsF_ids id r (i + 1)
    unfold sonIds at ih ⊢
    by_cases h : q.Par = id <;> simp [sonsF, h, ih]
theorem leaf_nil {l : List Q} {id : Int} : (sons l id).length = 0 ↔ sonIds l id = [] := by
  rw [← sonsF_ids id l 0]; simp [sons]

theorem qleaf_spec (l : List Q) (id : Int) (hl : l.length ≤ maxLen) : PCall Try.prog 118 [encL b l, I id] (.d (.bool (decide (sonIds l id = [])))) := by
  refine pcallS (fn := Try.f118) [] [] mixed (bodyOf Try.f118) [.cell 4 4] Try.func118 rfl rfl (by decide) 8 rfl (by kernel_rfl) ?_
  simp -implicitDefEqProofs [↓gd_tt, ↓gd_ff, ↓gd_tf, ↓gd_ft, bodyOf, Try.f118, stripC, stripL, stripM, onsOf, upto, hintOf, freeOf, List.replicate]
  refine children_spec b l id _ _ ?_
  simp -implicitDefEqProofs [↓gd_tt, ↓gd_ff, ↓gd_tf, ↓gd_ft]
  refine rangeY mixed (children_yields b l id 1 2 hl) (by simp) (by simp) (by simp) (by simp) (by simp) (by intro y hy; obtain ⟨p, _, rfl⟩ := List.mem_map.1 hy; simp [yQ]) (fun k hp => hp = [.var [.d (.bool false)], .var [.d (encL b l)], .var [.d (I id)]] ∧ k = 0) ⟨rfl, rfl⟩ (by rintro k hp ⟨rfl, _⟩; simp) ?_ ?_
  · rintro k hp ⟨rfl, rfl⟩ hi L0 L1
    have hk' : 0 < (sons l id).length := by simpa using hi
    have hn : ¬ sonIds l id = [] := fun e => by rw [leaf_nil.2 e] at hk'; omega
    simp -implicitDefEqProofs [↓gd_tt, ↓gd_ff, ↓gd_tf, ↓gd_ft, yQ, hn]
  · rintro hp' ⟨rfl, hk⟩
    have hn : sonIds l id = [] := leaf_nil.1 (by simpa using hk)
    simp -implicitDefEqProofs [↓gd_tt, ↓gd_ff, ↓gd_tf, ↓gd_ft, hn]

end Go.Idl
end
section
namespace Go.Idl
set_option linter.unusedSimpArgs false
set_option linter.unusedVariables false

theorem check_form {l : List Q} (h : check l = 0) : form l = true := by
  unfold check at h
  split at h
  · cases h
  · split at h
    · cases h
    · rename_i h1 h2; simpa using h2
theorem formF_at (l : List Q) : ∀ (r : List Q) (i : Nat), formF l r i = true → ∀ j (h : j < r.length), formAt l (i + j) r[j] = true
  | [], _, _, j, h => by simp at h
  | q :: r, i, hf, j, h => by
    rw [formF, Bool.and_eq_true] at hf
    cases j with
    | zero => exact hf.1
    | succ j =>
      have := formF_at l r (i + 1) hf.2 j (by simpa using h)
      rw [show i + (j + 1) = i + 1 + j by omega]
      simpa using this
theorem form_at {l : List Q} (h : form l = true) {i : Nat} (hi : i < l.length) : formAt l i l[i] = true := by
  have := formF_at l l 0 h i hi
  simpa using this
theorem form_root {l : List Q} (h : form l = true) (h0 : 0 < l.length) : l[0].Id = 0 ∧ l[0].Par = -1 := by
  have := form_at h h0
  simpa [formAt] using this
theorem form_par {l : List Q} (h : form l = true) {i : Nat} (hi : i < l.length) (h0 : 0 < i) : ∃ j, ∃ hj : j < l.length, j < i ∧ l[j].Id = l[i].Par := by
  have := form_at h hi
  rw [formAt, if_neg (by omega), Bool.and_eq_true] at this
  have h2 : has (l.take i) l[i].Par = true := this.2
  rw [has_mem] at h2
  obtain ⟨q, hq, e⟩ := h2
  obtain ⟨j, hj, rfl⟩ := List.getElem_of_mem hq
  simp only [List.length_take] at hj
  exact ⟨j, by omega, by omega, by simpa using e⟩
theorem form_pos {l : List Q} (h : form l = true) : 0 < l.length := by
  cases l with
  | nil => simp [form, formF] at h
  | cons q r => simp
theorem rises_lt {l : List Q} (hr : Rises l) {i j : Nat} (hi : i < l.length) (hj : j < l.length) (h : i < j) : l[i].Id < l[j].Id :=
  List.pairwise_iff_getElem.1 hr i j hi hj h
theorem rises_inj {l : List Q} (hr : Rises l) {i j : Nat} (hi : i < l.length) (hj : j < l.length) (h : l[i].Id = l[j].Id) : i = j := by
  rcases Nat.lt_trichotomy i j with k | k | k
  · have := rises_lt hr hi hj k; omega
  · exact k
  · have := rises_lt hr hj hi k; omega
theorem id_nonneg {l : List Q} (h : form l = true) {i : Nat} (hi : i < l.length) : 0 ≤ l[i].Id := by
  have h0 := (form_root h (by omega)).1
  rcases Nat.eq_zero_or_pos i with rfl | k
  · omega
  · have := rises_lt (form_rises h) (by omega : 0 < l.length) hi k; omega
theorem has_nonneg {l : List Q} {id : Int} (h : form l = true) (hh : has l id = true) : 0 ≤ id := by
  rw [has_mem] at hh
  obtain ⟨q, hq, rfl⟩ := hh
  obtain ⟨j, hj, rfl⟩ := List.getElem_of_mem hq
  exact id_nonneg h hj
theorem has_at {l : List Q} {i : Nat} (hi : i < l.length) : has l l[i].Id = true := has_mem.2 ⟨_, List.getElem_mem hi, rfl⟩
theorem pos_at {l : List Q} (hr : Rises l) {i : Nat} (hi : i < l.length) : pos l l[i].Id = i := by
  obtain ⟨_, h2, h3⟩ := place_pos hr (has_at hi)
  exact rises_inj hr h2 hi (h3 h2)
theorem find_pos {l : List Q} {id : Int} (hr : Rises l) (hh : has l id = true) (h : pos l id < l.length) : find l id = l[pos l id] := by
  obtain ⟨h1, _, _⟩ := place_pos hr hh
  unfold find
  rw [h1, if_pos (by omega)]
  simp [h]
theorem find_at {l : List Q} (hr : Rises l) {i : Nat} (hi : i < l.length) : find l l[i].Id = l[i] := by
  have h := pos_at hr hi
  rw [find_pos hr (has_at hi) (by rw [h]; exact hi)]
  simp only [h]
theorem find_Id {l : List Q} {id : Int} (hr : Rises l) (hh : has l id = true) : (find l id).Id = id := by
  obtain ⟨_, h2, h3⟩ := place_pos hr hh
  rw [find_pos hr hh h2]; exact h3 h2

/-- how far a queue stands from the list's head, 0 for what is none -/
def rank (l : List Q) (id : Int) : Nat := if has l id = true then pos l id + 1 else 0
theorem rank_par {l : List Q} {id : Int} (h : form l = true) (hh : has l id = true) : rank l (find l id).Par < rank l id := by
  have hr := form_rises h
  obtain ⟨_, h2, h3⟩ := place_pos hr hh
  rw [find_pos hr hh h2]
  have e : rank l id = pos l id + 1 := by simp [rank, hh]
  rw [e]
  generalize hp : pos l id = i at h2 ⊢
  rcases Nat.eq_zero_or_pos i with rfl | k
  · have := (form_root h h2).2
    rw [this]
    have : has l (-1) = false := by
      cases e : has l (-1) with
      | false => rfl
      | true => have := has_nonneg h e; omega
    simp [rank, this]
  · obtain ⟨j, hj, hji, e⟩ := form_par h h2 k
    rw [← e]
    simp only [rank, has_at hj, pos_at hr hj, if_true]; omega
theorem rank_le {l : List Q} (id : Int) (hr : Rises l) : rank l id ≤ l.length := by
  unfold rank
  split
  · rename_i h; have := (place_pos hr h).2.1; omega
  · omega
/-- a queue and all above it, with their places -/
def upF (l : List Q) : Nat → Int → List (Nat × Q)
  | 0, _ => []
  | n + 1, id => if has l id = true then (pos l id, find l id) :: upF l n (find l id).Par else []
def up (l : List Q) (id : Int) : List (Nat × Q) := upF l l.length id
theorem upF_stable {l : List Q} (h : form l = true) : ∀ (n m : Nat) (id : Int), rank l id ≤ n → rank l id ≤ m → upF l n id = upF l m id
  | 0, m, id, hn, hm => by
    have : has l id = false := by
      cases e : has l id with
      | false => rfl
      | true => simp [rank, e] at hn
    cases m <;> simp [upF, this]
  | n + 1, 0, id, hn, hm => by
    have : has l id = false := by
      cases e : has l id with
      | false => rfl
      | true => simp [rank, e] at hm
    simp [upF, this]
  | n + 1, m + 1, id, hn, hm => by
    unfold upF
    split
    · rename_i hh
      have := rank_par h hh
      rw [upF_stable h n m _ (by omega) (by omega)]
    · rfl
theorem up_eq {l : List Q} (h : form l = true) (id : Int) : up l id = if has l id = true then (pos l id, find l id) :: up l (find l id).Par else [] := by
  have h0 := form_pos h
  have hr := form_rises h
  unfold up
  rw [upF_stable h l.length (l.length + 1) id (rank_le id hr) (Nat.le_succ_of_le (rank_le id hr)), upF]
theorem upF_len (l : List Q) : ∀ (n : Nat) (id : Int), (upF l n id).length ≤ n
  | 0, _ => by simp [upF]
  | n + 1, id => by
    unfold upF
    split
    · simp; exact upF_len l n _
    · simp
theorem up_len (l : List Q) (id : Int) : (up l id).length ≤ l.length := upF_len l _ _
/-- the way to the root -/
def path (l : List Q) (id : Int) : List Int := (up l id).map fun p => p.2.Id
theorem path_eq {l : List Q} (h : form l = true) (id : Int) : path l id = if has l id = true then id :: path l (find l id).Par else [] := by
  unfold path
  rw [up_eq h id]
  split
  · rename_i hh
    simp [find_Id (form_rises h) hh]
  · rfl
theorem path_len (l : List Q) (id : Int) : (path l id).length ≤ l.length := by simp [path]; exact up_len l id
/-- what the walk down meets -/
def downF (id : Int) : List Q → List Int → List Int
  | [], _ => []
  | q :: r, m => if q.Id = id ∨ q.Par ∈ m then q.Id :: downF id r (m ++ [q.Id]) else downF id r m
def down (l : List Q) (id : Int) : List Int := downF id l []
/-- a queue and all below it -/
def below (l : List Q) (id : Int) : List Int := (l.filter fun q => decide (id ∈ path l q.Id)).map (·.Id)
theorem downF_below {l : List Q} (h : form l = true) (id : Int) : ∀ (n i : Nat) (m : List Int), n = l.length - i → i ≤ l.length → (∀ x, x ∈ m ↔ ∃ j, ∃ hj : j < l.length, j < i ∧ l[j].Id = x ∧ id ∈ path l x) →
    downF id (l.drop i) m = ((l.drop i).filter fun q => decide (id ∈ path l q.Id)).map (·.Id)
  | 0, i, m, hn, hi, hm => by
    have : i = l.length := by omega
    subst this; simp [downF]
  | n + 1, i, m, hn, hi, hm => by
    have k : i < l.length := by omega
    have hr := form_rises h
    have key : (l[i].Id = id ∨ l[i].Par ∈ m) ↔ id ∈ path l l[i].Id := by
      rw [path_eq h, if_pos (has_at k), find_at hr k, List.mem_cons]
      constructor
      · rintro (e | e)
        · exact .inl e.symm
        · obtain ⟨j, hj, _, e1, e2⟩ := (hm _).1 e
          exact .inr e2
      · rintro (e | e)
        · exact .inl e.symm
        · refine .inr ((hm _).2 ?_)
          rcases Nat.eq_zero_or_pos i with rfl | k0
          · rw [(form_root h k).2, path_eq h] at e
            split at e
            · rename_i e2; have := has_nonneg h e2; omega
            · cases e
          · obtain ⟨j, hj, hji, e1⟩ := form_par h k k0
            exact ⟨j, hj, hji, e1, e⟩
    rw [List.drop_eq_getElem_cons k, downF, List.filter_cons]
    have step : ∀ m', (∀ x, x ∈ m' ↔ ∃ j, ∃ hj : j < l.length, j < i + 1 ∧ l[j].Id = x ∧ id ∈ path l x) → downF id (l.drop (i + 1)) m' = ((l.drop (i + 1)).filter fun q => decide (id ∈ path l q.Id)).map (·.Id) :=
      fun m' hm' => downF_below h id n (i + 1) m' (by omega) (by omega) hm'
    by_cases c : l[i].Id = id ∨ l[i].Par ∈ m
    · rw [if_pos c, if_pos (by simpa using key.1 c), List.map_cons, step]
      intro x
      rw [List.mem_append, hm]
      constructor
      · rintro (⟨j, hj, a, b, c⟩ | e)
        · exact ⟨j, hj, by omega, b, c⟩
        · simp at e; subst e; exact ⟨i, k, by omega, rfl, key.1 c⟩
      · rintro ⟨j, hj, a, b, c'⟩
        by_cases e : j = i
        · subst e; exact .inr (by simp [b])
        · exact .inl ⟨j, hj, by omega, b, c'⟩
    · rw [if_neg c, if_neg (by simpa using fun e => c (key.2 e)), step]
      intro x
      rw [hm]
      constructor
      · rintro ⟨j, hj, a, b, c⟩; exact ⟨j, hj, by omega, b, c⟩
      · rintro ⟨j, hj, a, b, c'⟩
        by_cases e : j = i
        · subst e; subst b; exact absurd (key.2 c') c
        · exact ⟨j, hj, by omega, b, c'⟩
theorem down_below {l : List Q} (h : form l = true) (id : Int) : down l id = below l id := by
  have := downF_below h id l.length 0 [] rfl (Nat.zero_le _) (by simp)
  simpa [down, below] using this
end Go.Idl
end
