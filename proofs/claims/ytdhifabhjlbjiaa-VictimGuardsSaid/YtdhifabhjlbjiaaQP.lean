/- The program's queues, what it computes: contracts of the packages queue, vec. -/
import Derived.Test.YtdhifabhjlbjiaaQF
import Derived.Test.YtdhifabhjlbjiaaMQall
set_option linter.all false
namespace Go.Idl
open Go.Proofs
set_option linter.unusedSimpArgs false
set_option linter.unusedVariables false
set_option maxRecDepth 8000
variable (b : Bool)

theorem half {i j : Nat} (h : i + j ≤ 281474976710656) : IntKind.i64.wrap ((IntKind.u64.wrap (IntKind.i64.wrap ((i : Int) + (j : Int)))).fdiv (2 ^ min 1 IntKind.u64.bits)) = (((i + j) / 2 : Nat) : Int) := by
  have e : ∀ n : Int, IntKind.u64.wrap n = n % 18446744073709551616 := fun n => rfl
  rw [wrap_i64 (n := (i : Int) + j) (by omega) (by omega), e, show (2 : Int) ^ min 1 IntKind.u64.bits = 2 by decide, Int.emod_eq_of_lt (by omega) (by omega)]
  have : ((i : Int) + j).fdiv 2 = (((i + j) / 2 : Nat) : Int) := by
    rw [Int.fdiv_eq_ediv_of_nonneg _ (by decide)]; omega
  rw [this, wrap_i64 (by omega) (by omega)]

theorem bsearchQ_spec (g : FuncId) (l : List Q) (t : Int) (c : Nat → Int) (k : Nat) (hb : hasBody Try.prog g = true) (hl : l.length ≤ 140737488355328) (hk : k ≤ l.length) (hlo : ∀ i, i < k → c i < 0) (hhi : ∀ i, k ≤ i → i < l.length → 0 ≤ c i) (hc : ∀ i (h : i < l.length), PCall Try.prog g [encQ l[i], I t] (.d (I (c i)))) :
    FCall Try.prog 181 [.d (encL b l), .d (I t), .fn (.func g) []] (.tup [.d (I k), .d (.bool (decide (k < l.length) && decide (c k = 0)))]) := by
  refine fcallS (fn := Try.f181) [] [] mixed (bodyOf Try.f181) [.tmp 6, .tmp 7] Try.func181 rfl rfl (by decide) 46 rfl (by kernel_rfl) ?_
  simp -implicitDefEqProofs [↓gd_tt, ↓gd_ff, ↓gd_tf, ↓gd_ft, bodyOf, Try.f181, stripC, stripL, stripM, onsOf, upto, hintOf, freeOf, List.replicate]
  refine loopA mixed [false, false, false, false, false, false, false, false, false, true, true, true, false, false, false, true, true, true, true, true, true, true, true, true, true, true, true, true, true, true, true, true, true, true, true] (fun (p : Nat × Nat) => [(9, .d (I p.1)), (10, .d (I p.2))]) (fun (p : Nat × Nat) => []) (fun (p : Nat × Nat) => p.1 ≤ k ∧ k ≤ p.2 ∧ p.2 ≤ l.length) (fun (p : Nat × Nat) => p.2 - p.1) ((0, l.length)) (⟨Nat.zero_le _, hk, Nat.le_refl _⟩) (by simp) ?_
  rintro p hx
  obtain ⟨i, j⟩ := p
  obtain ⟨h1, h2, h3⟩ := hx
  simp only at h1 h2 h3 ⊢
  by_cases h : i < j
  · have hh := half (i := i) (j := j) (by omega)
    obtain ⟨m, hm⟩ : ∃ m, m = (i + j) / 2 := ⟨_, rfl⟩
    rw [← hm] at hh
    have h4 : m < l.length := by omega
    simp -implicitDefEqProofs [↓gd_tt, ↓gd_ff, ↓gd_tf, ↓gd_ft, h, hh, h4, encQ, hb]
    refine callK_pcall (hc m h4) rfl rfl ?_
    have hw : IntKind.i64.wrap ((m : Int) + 1) = ((m + 1 : Nat) : Int) := by rw [wrap_i64 (by omega) (by omega)]; omega
    simp -implicitDefEqProofs [↓gd_tt, ↓gd_ff, ↓gd_tf, ↓gd_ft, hw]
    refine ⟨fun e => ⟨m + 1, j, ⟨?_, h2, h3⟩, by omega, rfl, rfl⟩, fun e => ⟨i, m, ⟨h1, ?_, by omega⟩, by omega, rfl, rfl⟩⟩
    · rcases Nat.lt_or_ge m k with q | q
      · omega
      · have := hhi m q h4; omega
    · rcases Nat.lt_or_ge m k with q | q
      · have := hlo m q; omega
      · exact q
  · have h5 : i = k := by omega
    subst h5
    by_cases hi : i < l.length
    · simp -implicitDefEqProofs [↓gd_tt, ↓gd_ff, ↓gd_tf, ↓gd_ft, h, hi, encQ, hb]
      refine callK_pcall (hc i hi) rfl rfl ?_
      simp -implicitDefEqProofs [↓gd_tt, ↓gd_ff, ↓gd_tf, ↓gd_ft]
    · simp -implicitDefEqProofs [↓gd_tt, ↓gd_ff, ↓gd_tf, ↓gd_ft, h, hi]

theorem find1_spec (q : Q) (id : Int) : PCall Try.prog 182 [encQ q, I id] (.d (I (if q.Id < id then -1 else if id < q.Id then 1 else 0))) := by
  refine pcallS (fn := Try.f182) [] [] mixed (bodyOf Try.f182) [.tmp 4] Try.func182 rfl rfl (by decide) 13 rfl (by kernel_rfl) ?_
  simp -implicitDefEqProofs [↓gd_tt, ↓gd_ff, ↓gd_tf, ↓gd_ft, bodyOf, Try.f182, stripC, stripL, stripM, onsOf, upto, hintOf, freeOf, List.replicate]
  (repeat' (first | apply And.intro | intro _)) <;> first | omega | (simp_all; done) | (simp_all; omega) | (split <;> omega)

theorem qfind_spec (l : List Q) (id : Int) (hl : l.length ≤ 140737488355328) (hr : Rises l) : PCall Try.prog 102 [encL b l, I id] (.tup [.d (I (pos l id)), .d (.bool (has l id))]) := by
  refine pcallS (fn := Try.f102) [] [] mixed (bodyOf Try.f102) [.tmp 4, .tmp 5] Try.func102 rfl rfl (by decide) 9 rfl (by kernel_rfl) ?_
  simp -implicitDefEqProofs [↓gd_tt, ↓gd_ff, ↓gd_tf, ↓gd_ft, bodyOf, Try.f102, stripC, stripL, stripM, onsOf, upto, hintOf, freeOf, List.replicate]
  obtain ⟨h1, h2, _⟩ := pos_spec l id hr
  have := bsearchQ_spec b 182 l id (cmpId l id) (pos l id) (by simp) hl (pos_le l id)
    (fun i h => by have hi : i < l.length := by have := pos_le l id; omega
                   rw [cmpId, dif_pos hi, if_pos (h1 i hi h)]; decide)
    (fun i h hi => by have := h2 i hi h; rw [cmpId, dif_pos hi, if_neg (by omega)]; split <;> decide)
    (fun i h => by simpa [h, cmpId] using find1_spec l[i] id)
  refine callK_fcall this (by simp) (by simp) (by simp) (by simp) rfl ?_
  simp -implicitDefEqProofs [↓gd_tt, ↓gd_ff, ↓gd_tf, ↓gd_ft]
  exact cmpId_has hr

def yQ (p : Nat × Q) : List V := [.d (I p.1), .d (encQ p.2)]
theorem children_yields (l : List Q) (id : Int) (ka kb : Nat) (hl : l.length ≤ maxLen) :
    Yields Try.prog 188 [.ptr ka 0, .ptr kb 0] (fun hp => hp[ka]? = some (.var [.d (encL b l)]) ∧ hp[kb]? = some (.var [.d (I id)])) ((sons l id).map yQ) := by
  intro y hp J E hy h0 hJ hround hend
  obtain ⟨g1, g2, g3, g4⟩ := hJ 0 hp h0
  have hka : ka < hp.length := (List.getElem?_eq_some_iff.1 g3).1
  have hkb : kb < hp.length := (List.getElem?_eq_some_iff.1 g4).1
  refine callS (fn := Try.f188) [] [] mixed (bodyOf Try.f188) [] Try.func188 rfl rfl (by decide) 22 rfl (by kernel_rfl) ?_
  simp -implicitDefEqProofs [↓gd_tt, ↓gd_ff, ↓gd_tf, ↓gd_ft, bodyOf, Try.f188, stripC, stripL, stripM, onsOf, upto, hintOf, freeOf, List.replicate]
  simp -implicitDefEqProofs [↓gd_tt, ↓gd_ff, ↓gd_tf, ↓gd_ft, g3]
  refine loopA mixed [false, false, false, false, true, true, false, false, true, true, true, true, true, true, true, true, true, true, true, true, true, true, true, true, true] (fun (x : Nat × Nat × List IObj) => [(8, .d (I x.1))]) (fun (x : Nat × Nat × List IObj) => x.2.2) (fun (x : Nat × Nat × List IObj) => x.1 ≤ l.length ∧ J x.2.1 x.2.2 ∧ x.2.1 ≤ (sons l id).length ∧ sonsF id (l.drop x.1) x.1 = (sons l id).drop x.2.1) (fun (x : Nat × Nat × List IObj) => l.length - x.1) ((0, 0, hp)) (⟨Nat.zero_le _, h0, Nat.zero_le _, rfl⟩) (by simp [hy, hka, hkb, g2]) ?_
  rintro x hx
  obtain ⟨i, k, hp1⟩ := x
  obtain ⟨hi, hj, hk, hq⟩ := hx
  simp only at hi hj hk hq ⊢
  obtain ⟨p1, p2, p3, p4⟩ := hJ k hp1 hj
  have hka1 : ka < hp1.length := (List.getElem?_eq_some_iff.1 p3).1
  have hkb1 : kb < hp1.length := (List.getElem?_eq_some_iff.1 p4).1
  rcases Nat.lt_or_eq_of_le hi with h | h
  · rw [List.drop_eq_getElem_cons h, sonsF] at hq
    simp -implicitDefEqProofs [↓gd_tt, ↓gd_ff, ↓gd_tf, ↓gd_ft, h, p3, p4, wrap1 hl h, List.getElem?_append_left hka1, List.getElem?_append_left hkb1]
    have hpass : ∀ (k' : Nat) (hp2 priv : List IObj), J k' hp2 → k' ≤ (sons l id).length → sonsF id (l.drop (i + 1)) (i + 1) = (sons l id).drop k' → hp2.length = hp.length → ∃ a a_1 b, (a ≤ l.length ∧ J a_1 b ∧ a_1 ≤ (sons l id).length ∧ sonsF id (List.drop a l) a = List.drop a_1 (sons l id)) ∧ l.length - a < l.length - i ∧ i + 1 = a ∧ (y < b.length ∧ ka < b.length ∧ kb < b.length) ∧ ltObjs b.length b = true ∧ hp.length ≤ b.length ∧ List.take b.length (hp2 ++ priv) = b ∧ b.length ≤ (hp2 ++ priv).length := fun k' hp2 priv q1 q2 q3 q4 =>
      ⟨i + 1, k', hp2, ⟨by omega, q1, q2, q3⟩, by omega, rfl, ⟨by omega, by omega, by omega⟩, by rw [q4]; exact (hJ k' hp2 q1).2.1, by omega, by simp, by simp⟩
    refine ⟨fun e => ?_, fun e => ?_⟩
    · rw [if_pos e] at hq
      have hk3 : k < (sons l id).length := by
        have := congrArg List.length hq; simp at this; omega
      have hat : (sons l id)[k] = (i, l[i]) := by
        have := congrArg (·[0]?) hq
        simp [hk3] at this; exact this.symm
      have hr := hround k hp1 hj (by simpa using hk3)
      simp only [List.getElem_map, hat, yQ] at hr
      refine yieldA hr p1 p2 hy (by simp) (by simp) fun b2 hp2 q1 q2 q3 q4 => ?_
      simp -implicitDefEqProofs [↓gd_tt, ↓gd_ff, ↓gd_tf, ↓gd_ft, wrap1 hl h]
      refine ⟨fun e2 => ⟨by omega, by rw [← q1, List.take_left]; exact q4 e2⟩, fun e2 => ?_⟩
      have := hpass (k + 1) hp2 [IObj.var [V.d (D.int IntKind.i64 l[i].Id), V.d (D.int IntKind.i64 l[i].Par), V.d (D.int IntKind.i64 l[i].Wt), V.d (D.int IntKind.i64 l[i].QC), V.d (D.int IntKind.i64 l[i].QM), V.d (D.int IntKind.i64 l[i].MC), V.d (D.int IntKind.i64 l[i].MM)]] (q3 e2) (by omega) (by have := congrArg List.tail hq; simpa using this) q1
      simpa using this
    · rw [if_neg e] at hq
      have := hpass k hp1 [IObj.var [V.d (D.int IntKind.i64 l[i].Id), V.d (D.int IntKind.i64 l[i].Par), V.d (D.int IntKind.i64 l[i].Wt), V.d (D.int IntKind.i64 l[i].QC), V.d (D.int IntKind.i64 l[i].QM), V.d (D.int IntKind.i64 l[i].MC), V.d (D.int IntKind.i64 l[i].MM)]] hj hk hq p1
      simpa using this
  · rw [h, List.drop_length, sonsF] at hq
    simp -implicitDefEqProofs [↓gd_tt, ↓gd_ff, ↓gd_tf, ↓gd_ft, h]
    have hk2 : k = (sons l id).length := by
      have := congrArg List.length hq; simp at this; omega
    subst hk2
    exact ⟨by omega, by rw [← p1, List.take_length]; exact hend hp1 (by simpa using hj)⟩

theorem children_spec (l : List Q) (id : Int) (hp : List IObj) (K : V → List IObj → Prop) (hk : K (.fn (.func 188) [.ptr hp.length 0, .ptr (hp.length + 1) 0]) (hp ++ [.var [.d (encL b l)], .var [.d (I id)]])) : CallK Try.prog 126 [.d (encL b l), .d (I id)] hp K := by
  refine callS (fn := Try.f126) [] [] mixed (bodyOf Try.f126) [.tmp 4] Try.func126 rfl rfl (by decide) 4 rfl (by kernel_rfl) ?_
  simp -implicitDefEqProofs [↓gd_tt, ↓gd_ff, ↓gd_tf, ↓gd_ft, bodyOf, Try.f126, stripC, stripL, stripM, onsOf, upto, hintOf, freeOf, List.replicate]
  simpa using hk

theorem vparts_yields (a c : Int × Int) (ka kb : Nat) : Yields Try.prog 202 [.ptr ka 0, .ptr kb 0] (fun hp => hp[ka]? = some (.var [.d (I a.1), .d (I a.2)]) ∧ hp[kb]? = some (.var [.d (I c.1), .d (I c.2)])) [[.d (.agg [I a.1, I c.1])], [.d (.agg [I a.2, I c.2])]] := by
  intro y hp J E hy h0 hJ hround hend
  obtain ⟨g1, g2, g3, g4⟩ := hJ 0 hp h0
  refine callS (fn := Try.f202) [] [] mixed (bodyOf Try.f202) [] Try.func202 rfl rfl (by decide) 17 rfl (by kernel_rfl) ?_
  simp -implicitDefEqProofs [↓gd_tt, ↓gd_ff, ↓gd_tf, ↓gd_ft, bodyOf, Try.f202, stripC, stripL, stripM, onsOf, upto, hintOf, freeOf, List.replicate]
  simp -implicitDefEqProofs [↓gd_tt, ↓gd_ff, ↓gd_tf, ↓gd_ft, g3, g4]
  refine (hround 0 hp h0 (by simp)).mono ?_
  rintro r hp1 ⟨b1, rfl, q1, q2, q3, q4⟩
  cases b1
  · simp -implicitDefEqProofs [↓gd_tt, ↓gd_ff, ↓gd_tf, ↓gd_ft]
    exact ⟨by omega, by rw [← q1, List.take_length]; exact q4 rfl⟩
  · obtain ⟨p1, p2, p3, p4⟩ := hJ 1 hp1 (q3 rfl)
    simp -implicitDefEqProofs [↓gd_tt, ↓gd_ff, ↓gd_tf, ↓gd_ft, p3, p4]
    refine (hround 1 hp1 (q3 rfl) (by simp)).mono ?_
    rintro r hp2 ⟨b2, rfl, r1, r2, r3, r4⟩
    cases b2
    · simp -implicitDefEqProofs [↓gd_tt, ↓gd_ff, ↓gd_tf, ↓gd_ft]
      exact ⟨by omega, by rw [← r1, List.take_length]; exact r4 rfl⟩
    · simp -implicitDefEqProofs [↓gd_tt, ↓gd_ff, ↓gd_tf, ↓gd_ft]
      exact ⟨by omega, by rw [← r1, List.take_length]; exact hend _ (r3 rfl)⟩

theorem vparts_spec (a c : Int × Int) (hp : List IObj) (K : V → List IObj → Prop) (hk : K (.fn (.func 202) [.ptr hp.length 0, .ptr (hp.length + 1) 0]) (hp ++ [.var [.d (I a.1), .d (I a.2)], .var [.d (I c.1), .d (I c.2)]])) : CallK Try.prog 156 [.d (.agg [I a.1, I a.2]), .d (.agg [I c.1, I c.2])] hp K := by
  refine callS (fn := Try.f156) [] [] mixed (bodyOf Try.f156) [.tmp 4] Try.func156 rfl rfl (by decide) 4 rfl (by kernel_rfl) ?_
  simp -implicitDefEqProofs [↓gd_tt, ↓gd_ff, ↓gd_tf, ↓gd_ft, bodyOf, Try.f156, stripC, stripL, stripM, onsOf, upto, hintOf, freeOf, List.replicate]
  simpa using hk

theorem vgood_spec (x y : Int) : PCall Try.prog 118 [.agg [I x, I y]] (.d (.bool (good x y))) := by
  refine pcallS (fn := Try.f118) [] [] mixed (bodyOf Try.f118) [.cell 2 4] Try.func118 rfl rfl (by decide) 15 rfl (by kernel_rfl) ?_
  simp -implicitDefEqProofs [↓gd_tt, ↓gd_ff, ↓gd_tf, ↓gd_ft, bodyOf, Try.f118, stripC, stripL, stripM, onsOf, upto, hintOf, freeOf, List.replicate]
  refine vparts_spec (x, y) (x, y) _ _ ?_
  simp -implicitDefEqProofs [↓gd_tt, ↓gd_ff, ↓gd_tf, ↓gd_ft]
  refine rangeYc mixed (vparts_yields (x, y) (x, y) 2 3) (by simp) (by simp) (by simp) (by simp) (by simp) (by simp) (by simp) (by simp) (fun i => (1 ≤ i → 0 ≤ x ∧ x ≤ 1099511627776) ∧ (2 ≤ i → 0 ≤ y ∧ y ≤ 1099511627776)) (by simp) ?_ ?_
  · rintro i ⟨h1, h2⟩ hi L0 L1
    have : i = 0 ∨ i = 1 := by simp at hi; omega
    rcases this with rfl | rfl
    · simp -implicitDefEqProofs [↓gd_tt, ↓gd_ff, ↓gd_tf, ↓gd_ft, good]
      (repeat' (first | apply And.intro | intro _)) <;> first | omega | (simp_all; done) | (simp_all; omega)
    · simp at h1
      simp -implicitDefEqProofs [↓gd_tt, ↓gd_ff, ↓gd_tf, ↓gd_ft, good]
      (repeat' (first | apply And.intro | intro _)) <;> first | omega | (simp_all; done) | (simp_all; omega)
  · rintro ⟨h1, h2⟩
    simp at h1 h2
    simp -implicitDefEqProofs [↓gd_tt, ↓gd_ff, ↓gd_tf, ↓gd_ft, good, h1, h2]

theorem vfits_spec (x y z w : Int) : PCall Try.prog 78 [.agg [I x, I y], .agg [I z, I w]] (.d (.bool (fits x y z w))) := by
  refine pcallS (fn := Try.f78) [] [] mixed (bodyOf Try.f78) [.cell 4 4] Try.func78 rfl rfl (by decide) 13 rfl (by kernel_rfl) ?_
  simp -implicitDefEqProofs [↓gd_tt, ↓gd_ff, ↓gd_tf, ↓gd_ft, bodyOf, Try.f78, stripC, stripL, stripM, onsOf, upto, hintOf, freeOf, List.replicate]
  refine vparts_spec (x, y) (z, w) _ _ ?_
  simp -implicitDefEqProofs [↓gd_tt, ↓gd_ff, ↓gd_tf, ↓gd_ft]
  refine rangeYc mixed (vparts_yields (x, y) (z, w) 3 4) (by simp) (by simp) (by simp) (by simp) (by simp) (by simp) (by simp) (by simp) (fun i => (1 ≤ i → x ≤ z) ∧ (2 ≤ i → y ≤ w)) (by simp) ?_ ?_
  · rintro i ⟨h1, h2⟩ hi L0 L1
    have : i = 0 ∨ i = 1 := by simp at hi; omega
    rcases this with rfl | rfl
    · simp -implicitDefEqProofs [↓gd_tt, ↓gd_ff, ↓gd_tf, ↓gd_ft, fits]
      (repeat' (first | apply And.intro | intro _)) <;> first | omega | (simp_all; done) | (simp_all; omega)
    · simp at h1
      simp -implicitDefEqProofs [↓gd_tt, ↓gd_ff, ↓gd_tf, ↓gd_ft, fits]
      (repeat' (first | apply And.intro | intro _)) <;> first | omega | (simp_all; done) | (simp_all; omega)
  · rintro ⟨h1, h2⟩
    simp at h1 h2
    simp -implicitDefEqProofs [↓gd_tt, ↓gd_ff, ↓gd_tf, ↓gd_ft, fits, h1, h2]

theorem qform_spec (l : List Q) (hl : l.length ≤ 140737488355328) : PCall Try.prog 119 [encL b l] (.d (.bool (form l))) := by
  refine pcallS (fn := Try.f119) [] [] mixed (bodyOf Try.f119) [.tmp 2] Try.func119 rfl rfl (by decide) 49 rfl (by kernel_rfl) ?_
  simp -implicitDefEqProofs [↓gd_tt, ↓gd_ff, ↓gd_tf, ↓gd_ft, bodyOf, Try.f119, stripC, stripL, stripM, onsOf, upto, hintOf, freeOf, List.replicate]
  refine loopA mixed [false, false, true, true, true, true, true, false, false, true, true, true, true, true, true, true, true, true, true, true, true, true, true, true, true, true, true, true, true, true, true, true, true, true, true, true, true, true, true, true, true, true, true, true, true, true, true] (fun (i : Nat) => [(9, .d (I i))]) (fun (i : Nat) => []) (fun (i : Nat) => i ≤ l.length ∧ formF l (l.drop i) i = form l ∧ Rises (l.take i)) (fun (i : Nat) => l.length - i) (0) (⟨Nat.zero_le _, rfl, List.Pairwise.nil⟩) (by simp) ?_
  rintro i hx
  obtain ⟨hi, hp, hr⟩ := hx
  have hm : (140737488355328 : Nat) ≤ maxLen := by decide
  rcases Nat.lt_or_eq_of_le hi with h | h
  · rw [List.drop_eq_getElem_cons h, formF] at hp
    have hrs := rises_succ hr h
    rcases Nat.eq_zero_or_pos i with rfl | h0
    · have hw := wrap1 (l := l) (by omega) h
      simp -implicitDefEqProofs [↓gd_tt, ↓gd_ff, ↓gd_tf, ↓gd_ft, h] at hw ⊢
      simp [formAt] at hp
      simp -implicitDefEqProofs [↓gd_tt, ↓gd_ff, ↓gd_tf, ↓gd_ft, hw]
      have := hrs (.inl rfl)
      (repeat' (first | apply And.intro | intro _)) <;> first | omega | (simp_all; done)
    · have h1 : ¬ ((i : Int) = 0) := by omega
      have h2 : i - 1 < l.length := by omega
      have h3 : ¬ (i = 0) := by omega
      have h4 : ((i - 1 : Nat) : Int) < (l.length : Int) := by omega
      simp -implicitDefEqProofs [↓gd_tt, ↓gd_ff, ↓gd_tf, ↓gd_ft, h, h0, h1, h2, h3, wrap1 (l := l) (by omega) h, wrapm1 (l := l) (by omega) h h0, h4]
      have hg : l.getD (i - 1) q0 = l[i - 1] := by simp [h2]
      simp only [formAt, if_neg h3, hg] at hp
      have hps : PCall Try.prog 102 [.sl b 7 ((l.map encQ).take i), I l[i].Par] (.tup [.d (I (pos (l.take i) l[i].Par)), .d (.bool (has (l.take i) l[i].Par))]) := by rw [← List.map_take]; exact qfind_spec b _ _ (by simp; omega) hr
      refine ⟨hi, free_pcall hps rfl rfl ?_⟩
      simp -implicitDefEqProofs [↓gd_tt, ↓gd_ff, ↓gd_tf, ↓gd_ft, h, h0, h1, h2, h3, wrap1 (l := l) (by omega) h, wrapm1 (l := l) (by omega) h h0, h4]
      have hh : has (l.take i) l[i].Par = decide (0 ≤ place (l.take i) l[i].Par) := rfl
      refine ⟨fun e1 => ⟨fun e2 => by rw [← hp]; simp; omega, fun e2 => ⟨⟨by omega, ?_, hrs (.inr ⟨h2, e2⟩)⟩, by omega⟩⟩, fun e1 => by rw [← hp, ← hh, e1]; simp⟩
      rw [← hp, ← hh, e1]; simp [e2]
  · simp -implicitDefEqProofs [↓gd_tt, ↓gd_ff, ↓gd_tf, ↓gd_ft, h]
    rw [h, List.drop_length, formF] at hp; simpa using hp

theorem qmins_spec (l : List Q) (hl : l.length ≤ maxLen) : PCall Try.prog 121 [encL b l] (.d (.bool (mins l))) := by
  refine pcallS (fn := Try.f121) [] [] mixed (bodyOf Try.f121) [.tmp 2] Try.func121 rfl rfl (by decide) 47 rfl (by kernel_rfl) ?_
  simp -implicitDefEqProofs [↓gd_tt, ↓gd_ff, ↓gd_tf, ↓gd_ft, bodyOf, Try.f121, stripC, stripL, stripM, onsOf, upto, hintOf, freeOf, List.replicate]
  refine loopA mixed [false, false, true, false, true, true, false, false, false, false, true, true, true, true, true, true, true, true, false, false, false, false, false, false, false, false, false, false, false, false, false, false, false, false, true, true, true, true, true, true, true, true, true, true, true, true, true, true] (fun (i : Nat) => [(10, .d (I i))]) (fun (i : Nat) => []) (fun (i : Nat) => i ≤ l.length ∧ minsF l (l.drop i) = mins l) (fun (i : Nat) => l.length - i) (0) (⟨Nat.zero_le _, rfl⟩) (by simp) ?_
  rintro i hx
  obtain ⟨hi, hp⟩ := hx
  rcases Nat.lt_or_eq_of_le hi with h | h
  · rw [List.drop_eq_getElem_cons h, minsF] at hp
    simp -implicitDefEqProofs [↓gd_tt, ↓gd_ff, ↓gd_tf, ↓gd_ft, h]
    refine children_spec b l l[i].Id _ _ ?_
    simp -implicitDefEqProofs [↓gd_tt, ↓gd_ff, ↓gd_tf, ↓gd_ft]
    refine rangeY mixed (children_yields b l l[i].Id 2 3 hl) (by simp) (by simp) (by simp) (by simp) (by simp) (by intro y hy; obtain ⟨p, _, rfl⟩ := List.mem_map.1 hy; simp [yQ]) (fun k hp => ∃ x y, hp = [.var [.d (I l[i].Id), .d (I l[i].Par), .d (I l[i].Wt), .d (I l[i].QC), .d (I l[i].QM), .d (I l[i].MC), .d (I l[i].MM)], .var [.d (I x), .d (I y)], .var [.d (encL b l)], .var [.d (I l[i].Id)]] ∧ k ≤ (sons l l[i].Id).length ∧ sumF ((sons l l[i].Id).drop k) x y = sumMin l[i].Id l 0 0) ⟨0, 0, rfl, Nat.zero_le _, (sumMin_sons _ _ _ _ _).symm⟩ (by rintro k hp ⟨x, y, rfl, _⟩; simp) ?_ ?_
    · rintro k hp ⟨x, y, rfl, hk, hs⟩ hi L0 L1
      have hk' : k < (sons l l[i].Id).length := by simpa using hi
      rw [List.drop_eq_getElem_cons hk', sumF] at hs
      simp -implicitDefEqProofs [↓gd_tt, ↓gd_ff, ↓gd_tf, ↓gd_ft, yQ]
      exact ⟨_, _, ⟨rfl, rfl⟩, by omega, hs⟩
    · rintro hp' ⟨x, y, rfl, hk, hs⟩
      simp [sumF] at hs
      have hx : x = (sumMin l[i].Id l 0 0).1 := by rw [← hs]
      have hy : y = (sumMin l[i].Id l 0 0).2 := by rw [← hs]
      simp only [minsAt, ← hx, ← hy] at hp
      simp -implicitDefEqProofs [↓gd_tt, ↓gd_ff, ↓gd_tf, ↓gd_ft]
      refine callK_pcall (vfits_spec _ _ _ _) rfl rfl ?_
      simp -implicitDefEqProofs [↓gd_tt, ↓gd_ff, ↓gd_tf, ↓gd_ft]
      refine ⟨fun e1 => ?_, fun e1 => ?_⟩
      · refine callK_pcall (vfits_spec _ _ _ _) rfl rfl ?_
        simp -implicitDefEqProofs [↓gd_tt, ↓gd_ff, ↓gd_tf, ↓gd_ft, wrap1 hl h]
        refine ⟨fun e2 => ?_, fun e2 => ⟨⟨by omega, ?_⟩, by omega⟩⟩
        · rw [← hp, e2]; simp
        · rw [← hp]; simp [e1, e2]
      · rw [← hp, e1]; simp
  · simp -implicitDefEqProofs [↓gd_tt, ↓gd_ff, ↓gd_tf, ↓gd_ft, h]
    rw [h, List.drop_length, minsF] at hp; exact hp.symm
end Go.Idl
