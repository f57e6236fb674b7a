/- The exact sum of a list: num.Sum; what the model answers to bits.Add64, bits.Sub64.; A state's objects under other numbers.; The program's audit, its smaller parts.; The program's audit: what it ranges over.; Lists that grow along the ways to the root. No program here. -/
import Derived.Shelf.Spec.BitsCarry
import Derived.Test.YtkfpaffcglijeaaAuditOrderPart15
import Derived.Test.YtkfpaffcglijeaaAuditOrderPart16
import Derived.Test.YtkfpaffcglijeaaAuditOrderPart17
set_option linter.all false
section
namespace Go.Idl
open Go.Proofs
set_option linter.unusedSimpArgs false
set_option linter.unusedVariables false
set_option maxRecDepth 8000
set_option maxHeartbeats 2000000
variable (b : Bool)

theorem callE_u3 {P : Program} {f : FuncId} {x y c v1 v2 : Int} {hp : List IObj} {K : V → List IObj → Prop} (h : ∀ w, (callFunc f #[.int .u64 x, .int .u64 y, .int .u64 c]).run P w = .ok (.value (.tuple #[.int .u64 v1, .int .u64 v2])) w) (hk : K (.tup [.d (N64 v1), .d (N64 v2)]) hp) : CallE P f [.d (N64 x), .d (N64 y), .d (N64 c)] hp K := by
  intro Φ B au w cargs hi
  obtain ⟨u1, u2, u3, rfl⟩ : ∃ u1 u2 u3, cargs = #[u1, u2, u3] := by
    have hl : cargs.size = 3 := hi.tl.symm
    rcases cargs with ⟨_ | ⟨x, _ | ⟨y, _ | ⟨z, _ | ⟨q, l⟩⟩⟩⟩⟩ <;> simp at hl
    exact ⟨x, y, z, rfl⟩
  have one : ∀ {n : Int} {u : Value}, RepS Φ B (.d (N64 n)) u → u = .int .u64 n := fun hr => by
    cases hr with | d q => cases q; rfl
  have e1 := one (hi.tm 0 _ _ rfl rfl).1
  have e2 := one (hi.tm 1 _ _ rfl rfl).1
  have e3 := one (hi.tm 2 _ _ rfl rfl).1
  subst e1; subst e2; subst e3
  refine ⟨_, _, hp, w, h w, hk, Φ, B, au, { phi := hi.phi, phia := hi.phia, auw := hi.auw, size := hi.size, keep := hi.keep, pre := hi.pre, lePhi := hi.lePhi, tl := rfl, tm := fun i V u hV hu => ?_, hl := hi.hl, nb := hi.nb, hp := hi.hp, df := ⟨[], rfl, List.nodup_nil, by simp⟩, rd := hi.rd, lp := hi.lp, src := hi.src, wo := hi.wo }⟩
  cases i with
  | zero =>
    simp at hV hu; subst hV; subst hu
    refine ⟨.tup (.cons (.d (.int _ _)) (.cons (.d (.int _ _)) .nil)), ?_⟩
    constructor <;>
    · intro j z xs cs c e hj hc
      match j, hj with
      | 0, hj => simp at hj
      | 1, hj => simp at hj
      | j + 2, hj => simp at hj
  | succ i => simp at hV
theorem add64_call {x y : Int} (hx : 0 ≤ x) (hx2 : x < 18446744073709551616) (hy : 0 ≤ y) (hy2 : y < 18446744073709551616) {hp : List IObj} {K : V → List IObj → Prop} (hk : K (.tup [.d (N64 ((x + y) % 18446744073709551616)), .d (N64 ((x + y) / 18446744073709551616))]) hp) : CallE Try.prog 162 [.d (N64 x), .d (N64 y), .d (N64 0)] hp K := by
  refine callE_u3 (fun w => ?_) hk
  rw [run_callFunc_extern (Try.func162) (by kernel_rfl) (by kernel_rfl) (by kernel_rfl) (e := add64Entry) (by kernel_rfl), run_add64 x y 0 hx hy (by omega) (by omega)]
  simp only [Result.andThen, Int.add_zero]
theorem sub64_call {x y : Int} (hx : 0 ≤ x) (hx2 : x < 18446744073709551616) (hy : 0 ≤ y) (hy2 : y < 18446744073709551616) {hp : List IObj} {K : V → List IObj → Prop} (hk : K (.tup [.d (N64 ((x - y) % 18446744073709551616)), .d (N64 (if x < y then 1 else 0))]) hp) : CallE Try.prog 99 [.d (N64 x), .d (N64 y), .d (N64 0)] hp K := by
  obtain ⟨m, rfl⟩ := Int.eq_ofNat_of_zero_le hx
  obtain ⟨n, rfl⟩ := Int.eq_ofNat_of_zero_le hy
  refine callE_u3 (fun w => ?_) hk
  have := run_sub64 (P := Try.prog) m n 0 (by omega) w
  rw [run_callFunc_extern (Try.func99) (by kernel_rfl) (by kernel_rfl) (by kernel_rfl) (e := sub64Entry) (by kernel_rfl)]
  simp only [Int.ofNat_eq_natCast, show ((0 : Nat) : Int) = 0 from rfl] at this ⊢
  rw [this]
  simp only [Result.andThen]
  have e1 : (((m + 18446744073709551616 - n - 0) % 18446744073709551616 : Nat) : Int) = ((m : Int) - n) % 18446744073709551616 := by omega
  have e2 : ((if m < n + 0 then 1 else 0 : Nat) : Int) = if (m : Int) < n then 1 else 0 := by split <;> split <;> omega
  rw [e1, e2]

def posS (l : List Int) : Int := (l.map fun x => if x < 0 then 0 else x).sum
def negS (l : List Int) : Int := (l.map fun x => if x < 0 then -x else 0).sum
theorem posS_take {l : List Int} {i : Nat} (h : i < l.length) : posS (l.take (i + 1)) = posS (l.take i) + if l[i] < 0 then 0 else l[i] := by
  unfold posS
  rw [List.take_add_one, List.getElem?_eq_getElem h, Option.toList_some, List.map_append, List.sum_append]; simp
theorem negS_take {l : List Int} {i : Nat} (h : i < l.length) : negS (l.take (i + 1)) = negS (l.take i) + if l[i] < 0 then -l[i] else 0 := by
  unfold negS
  rw [List.take_add_one, List.getElem?_eq_getElem h, Option.toList_some, List.map_append, List.sum_append]; simp
theorem posneg : ∀ (l : List Int), l.sum = posS l - negS l
  | [] => rfl
  | x :: l => by
    have ih := posneg l
    simp only [posS, negS] at ih ⊢
    simp only [List.sum_cons, List.map_cons]
    split <;> omega
theorem pn_bound : ∀ (l : List Int), (∀ x ∈ l, In64 x) → (0 ≤ posS l ∧ posS l ≤ l.length * 9223372036854775808) ∧ 0 ≤ negS l ∧ negS l ≤ l.length * 9223372036854775808
  | [], _ => by simp [posS, negS]
  | x :: l, h => by
    have ih := pn_bound l fun y hy => h y (by simp [hy])
    have hx := h x (by simp)
    simp only [posS, negS] at ih ⊢
    simp only [List.map_cons, List.sum_cons, List.length_cons]
    split <;> omega
def sumV64 (s : Int) : V := if -9223372036854775808 ≤ s ∧ s ≤ 9223372036854775807 then .tup [.d (I s), .d (I 0)] else .tup [.d (I 0), .d (I 2)]
def signV (n : Int) (below : Bool) : V := if below = true then (if n ≤ 9223372036854775808 then .tup [.d (I (-n)), .d (I 0)] else .tup [.d (I 0), .d (I 2)]) else (if n ≤ 9223372036854775807 then .tup [.d (I n), .d (I 0)] else .tup [.d (I 0), .d (I 2)])
theorem signed_spec (n : Int) (below : Bool) (h0 : 0 ≤ n) (h1 : n < 340282366920938463463374607431768211456) : PCall Try.prog 164 [N64 (n / 18446744073709551616), N64 (n % 18446744073709551616), .bool below] (signV n below) := by
  have iw : ∀ m : Int, IntKind.u64.wrap m = m % 18446744073709551616 := fun _ => rfl
  cases below with
  | true =>
    by_cases h : n ≤ 9223372036854775808
    · have hv : signV n true = .tup [.d (I (-n)), .d (I 0)] := by simp [signV, h]
      have e1 : n / 18446744073709551616 = 0 := by omega
      have e2 : n % 18446744073709551616 = n := by omega
      have e3 : IntKind.i64.wrap (IntKind.u64.wrap (-n)) = -n := by
        rw [iw]
        have : ∀ m : Int, IntKind.i64.wrap m = (m + 9223372036854775808) % 18446744073709551616 - 9223372036854775808 := fun m => by
          unfold IntKind.wrap
          simp only [show IntKind.i64.signed = true from rfl, show IntKind.i64.bits = 64 from rfl, Bool.true_and, decide_eq_true_eq]
          split <;> omega
        rw [this]; omega
      rw [hv, e1, e2]
      refine pcallS (fn := Try.f164) [] [] mixed (bodyOf Try.f164) [.tmp 6, .tmp 7] Try.func164 rfl rfl (by decide) 28 rfl (by kernel_rfl) ?_
      simp -implicitDefEqProofs [↓gd_tt, ↓gd_ff, ↓gd_tf, ↓gd_ft, bodyOf, Try.f164, stripC, stripL, stripM, onsOf, upto, hintOf, freeOf, List.replicate]
      simp -implicitDefEqProofs [↓gd_tt, ↓gd_ff, ↓gd_tf, ↓gd_ft, h, e3, show ¬ 9223372036854775808 < n by omega]
    · have hv : signV n true = .tup [.d (I 0), .d (I 2)] := by simp [signV, h]
      rw [hv]
      have e0 : n / 18446744073709551616 = 0 → 9223372036854775808 < n % 18446744073709551616 := by omega
      generalize n / 18446744073709551616 = x at *
      generalize n % 18446744073709551616 = y at *
      by_cases hx : x = 0
      · have := e0 hx
        refine pcallS (fn := Try.f164) [] [] mixed (bodyOf Try.f164) [.tmp 6, .tmp 7] Try.func164 rfl rfl (by decide) 28 rfl (by kernel_rfl) ?_
        simp -implicitDefEqProofs [↓gd_tt, ↓gd_ff, ↓gd_tf, ↓gd_ft, bodyOf, Try.f164, stripC, stripL, stripM, onsOf, upto, hintOf, freeOf, List.replicate]
        simp -implicitDefEqProofs [↓gd_tt, ↓gd_ff, ↓gd_tf, ↓gd_ft, hx, this, show ¬ y ≤ 9223372036854775808 by omega, show 9223372036854775807 < y by omega]
      · refine pcallS (fn := Try.f164) [] [] mixed (bodyOf Try.f164) [.tmp 6, .tmp 7] Try.func164 rfl rfl (by decide) 28 rfl (by kernel_rfl) ?_
        simp -implicitDefEqProofs [↓gd_tt, ↓gd_ff, ↓gd_tf, ↓gd_ft, bodyOf, Try.f164, stripC, stripL, stripM, onsOf, upto, hintOf, freeOf, List.replicate]
        simp -implicitDefEqProofs [↓gd_tt, ↓gd_ff, ↓gd_tf, ↓gd_ft, hx]
  | false =>
    by_cases h : n ≤ 9223372036854775807
    · have hv : signV n false = .tup [.d (I n), .d (I 0)] := by simp [signV, h]
      have e1 : n / 18446744073709551616 = 0 := by omega
      have e2 : n % 18446744073709551616 = n := by omega
      rw [hv, e1, e2]
      refine pcallS (fn := Try.f164) [] [] mixed (bodyOf Try.f164) [.tmp 6, .tmp 7] Try.func164 rfl rfl (by decide) 28 rfl (by kernel_rfl) ?_
      simp -implicitDefEqProofs [↓gd_tt, ↓gd_ff, ↓gd_tf, ↓gd_ft, bodyOf, Try.f164, stripC, stripL, stripM, onsOf, upto, hintOf, freeOf, List.replicate]
      simp -implicitDefEqProofs [↓gd_tt, ↓gd_ff, ↓gd_tf, ↓gd_ft, h, show ¬ 9223372036854775807 < n by omega, wrap_i64 (show -9223372036854775808 ≤ n by omega) h]
    · have hv : signV n false = .tup [.d (I 0), .d (I 2)] := by simp [signV, h]
      rw [hv]
      have e0 : n / 18446744073709551616 = 0 → 9223372036854775807 < n % 18446744073709551616 := by omega
      generalize n / 18446744073709551616 = x at *
      generalize n % 18446744073709551616 = y at *
      by_cases hx : x = 0
      · have := e0 hx
        refine pcallS (fn := Try.f164) [] [] mixed (bodyOf Try.f164) [.tmp 6, .tmp 7] Try.func164 rfl rfl (by decide) 28 rfl (by kernel_rfl) ?_
        simp -implicitDefEqProofs [↓gd_tt, ↓gd_ff, ↓gd_tf, ↓gd_ft, bodyOf, Try.f164, stripC, stripL, stripM, onsOf, upto, hintOf, freeOf, List.replicate]
        simp -implicitDefEqProofs [↓gd_tt, ↓gd_ff, ↓gd_tf, ↓gd_ft, hx, this]
      · refine pcallS (fn := Try.f164) [] [] mixed (bodyOf Try.f164) [.tmp 6, .tmp 7] Try.func164 rfl rfl (by decide) 28 rfl (by kernel_rfl) ?_
        simp -implicitDefEqProofs [↓gd_tt, ↓gd_ff, ↓gd_tf, ↓gd_ft, bodyOf, Try.f164, stripC, stripL, stripM, onsOf, upto, hintOf, freeOf, List.replicate]
        simp -implicitDefEqProofs [↓gd_tt, ↓gd_ff, ↓gd_tf, ↓gd_ft, hx]
theorem signV_data (n : Int) (below : Bool) : (signV n below).data = true := by unfold signV; split <;> split <;> rfl
theorem sum64_spec (l : List Int) (hl : l.length ≤ maxLen) (hw : ∀ x ∈ l, In64 x) : PCall Try.prog 141 [encI b l] (sumV64 l.sum) := by
  have hml : maxLen = 9223372036854775807 := rfl
  refine pcallS (fn := Try.f141) [] [(9, 2000000), (16, 250006), (17, 14)] mixed (bodyOf Try.f141) [.tmp 2, .tmp 3] Try.func141 rfl rfl (by decide) 84 rfl (by kernel_rfl) ?_
  simp -implicitDefEqProofs [↓gd_tt, ↓gd_ff, ↓gd_tf, ↓gd_ft, bodyOf, Try.f141, stripC, stripL, stripM, onsOf, upto, hintOf, freeOf, List.replicate]
  refine loopA mixed [false, false, false, false, false, false, false, true, true, true, false, false, false, false, false, false, false, true, true, true, true, true, true, true, true, true, true, true, true, true, true, true, true, true, true, true, true, true, true, true, true] (fun (i : Nat) => [(17, .d (I i))]) (fun (i : Nat) => [.var [.d (N64 (posS (l.take i) / 18446744073709551616)), .d (N64 (negS (l.take i) / 18446744073709551616))], .var [.d (N64 (posS (l.take i) % 18446744073709551616)), .d (N64 (negS (l.take i) % 18446744073709551616))]]) (fun (i : Nat) => i ≤ l.length) (fun (i : Nat) => l.length - i) (0) (Nat.zero_le _) (by simp [posS, negS]) ?_
  rintro i hx
  have hbd := fun j => pn_bound (l.take j) fun x hx' => hw x (List.mem_of_mem_take hx')
  rcases Nat.lt_or_eq_of_le hx with h | h
  · have hp := posS_take h
    have hn := negS_take h
    obtain ⟨⟨p1, p2⟩, n1, n2⟩ := hbd i
    obtain ⟨⟨p3, p4⟩, n3, n4⟩ := hbd (i + 1)
    have hi1 : (l.take i).length ≤ 9223372036854775807 := by simp; omega
    have hi2 : (l.take (i + 1)).length ≤ 9223372036854775807 := by simp; omega
    have hx0 := hw l[i] (List.getElem_mem h)
    have hsz := size_spec l[i] hx0
    have hwi := wrap1 hl h
    generalize posS (l.take i) = p at *
    generalize negS (l.take i) = q at *
    generalize (l.take i).length = k1 at *
    generalize (l.take (i + 1)).length = k2 at *
    by_cases hneg : l[i] < 0
    · have hna : ((l[i].natAbs : Nat) : Int) = -l[i] := by omega
      rw [hna] at hsz
      rw [if_pos hneg] at hp hn
      have ew := u64w (q / 18446744073709551616 + (q % 18446744073709551616 + -l[i]) / 18446744073709551616)
      simp -implicitDefEqProofs [↓gd_tt, ↓gd_ff, ↓gd_tf, ↓gd_ft, h, hneg]
      refine regionCh [] [6, 7, 8, 9, 10, 11, 12] [6, 7, 8, 9] mixed (by kernel_rfl) ?_
      simp -implicitDefEqProofs [↓gd_tt, ↓gd_ff, ↓gd_tf, ↓gd_ft, stripL, stripM, onsOf, hintOf]
      refine free_pcall hsz rfl rfl ?_
      simp -implicitDefEqProofs [↓gd_tt, ↓gd_ff, ↓gd_tf, ↓gd_ft]
      refine x_end ?e2 (fun K0 hK0 => ?_) ?_
      case refine_1 =>
        simp -implicitDefEqProofs [↓gd_tt, ↓gd_ff, ↓gd_tf, ↓gd_ft, lx_zero, lx_succ, ll_nil, ll_cons]
        refine add64_call (by omega) (by omega) (by omega) (by omega) ?_
        simp -implicitDefEqProofs [↓gd_tt, ↓gd_ff, ↓gd_tf, ↓gd_ft, lx_zero, lx_succ, ll_nil, ll_cons]
        exact hK0
      simp -implicitDefEqProofs [↓gd_tt, ↓gd_ff, ↓gd_tf, ↓gd_ft, ew, hwi]
      exact ⟨i + 1, by omega, by omega, rfl, ⟨by omega, by omega⟩, by omega, by omega⟩
    · have hna : ((l[i].natAbs : Nat) : Int) = l[i] := by omega
      rw [hna] at hsz
      rw [if_neg hneg] at hp hn
      have ew := u64w (p / 18446744073709551616 + (p % 18446744073709551616 + l[i]) / 18446744073709551616)
      simp -implicitDefEqProofs [↓gd_tt, ↓gd_ff, ↓gd_tf, ↓gd_ft, h, hneg]
      refine regionCh [] [6, 7, 8, 9, 10, 11, 12] [6, 7, 8, 9] mixed (by kernel_rfl) ?_
      simp -implicitDefEqProofs [↓gd_tt, ↓gd_ff, ↓gd_tf, ↓gd_ft, stripL, stripM, onsOf, hintOf]
      refine free_pcall hsz rfl rfl ?_
      simp -implicitDefEqProofs [↓gd_tt, ↓gd_ff, ↓gd_tf, ↓gd_ft]
      refine x_end ?e1 (fun K0 hK0 => ?_) ?_
      case refine_1 =>
        simp -implicitDefEqProofs [↓gd_tt, ↓gd_ff, ↓gd_tf, ↓gd_ft, lx_zero, lx_succ, ll_nil, ll_cons]
        refine add64_call (by omega) (by omega) (by omega) (by omega) ?_
        simp -implicitDefEqProofs [↓gd_tt, ↓gd_ff, ↓gd_tf, ↓gd_ft, lx_zero, lx_succ, ll_nil, ll_cons]
        exact hK0
      simp -implicitDefEqProofs [↓gd_tt, ↓gd_ff, ↓gd_tf, ↓gd_ft, ew, hwi]
      exact ⟨i + 1, by omega, by omega, rfl, ⟨by omega, by omega⟩, by omega, by omega⟩
  · have htk : l.take i = l := by rw [h]; exact List.take_length
    obtain ⟨⟨p1, p2⟩, n1, n2⟩ := hbd i
    rw [htk] at p1 p2 n1 n2
    have hsum := posneg l
    simp only [htk]
    generalize posS l = p at *
    generalize negS l = q at *
    rcases Int.lt_trichotomy (p / 18446744073709551616) (q / 18446744073709551616) with hh | hh | hh
    · simp -implicitDefEqProofs [↓gd_tt, ↓gd_ff, ↓gd_tf, ↓gd_ft, h, hh]
      have ex : IntKind.u64.wrap (IntKind.u64.wrap (q / 18446744073709551616 - p / 18446744073709551616) - (if q % 18446744073709551616 < p % 18446744073709551616 then 1 else 0)) = (q - p) / 18446744073709551616 := by
        rw [u64w, u64w]; split <;> omega
      have ey : (q % 18446744073709551616 - p % 18446744073709551616) % 18446744073709551616 = (q - p) % 18446744073709551616 := by omega
      have hv : signV (q - p) true = sumV64 l.sum := by
        unfold signV sumV64
        rw [hsum]
        simp only [Bool.false_eq_true, if_true, if_false]
        split
        · first | (rw [if_pos (by omega)]; done) | rw [if_pos (by omega), Int.neg_sub]
        · rw [if_neg (by omega)]
      have hsg := signed_spec (q - p) true (by omega) (by omega)
      have hsd := signV_data (q - p) true
      rw [hv] at hsg hsd
      refine any_endU (m := 6) ?z1 (by simp) (fun K0 hK0 => ?_) ?_
      case refine_1 =>
        simp -implicitDefEqProofs [↓gd_tt, ↓gd_ff, ↓gd_tf, ↓gd_ft, ag_zero, ag_succ, al_nil, al_cons, List.replicate]
        refine sub64_call (by omega) (by omega) (by omega) (by omega) ?_
        simp -implicitDefEqProofs [↓gd_tt, ↓gd_ff, ↓gd_tf, ↓gd_ft, ag_zero, ag_succ, al_nil, al_cons, List.replicate]
        exact hK0
      simp -implicitDefEqProofs [↓gd_tt, ↓gd_ff, ↓gd_tf, ↓gd_ft]
      refine free_pcall hsg (by first | (simp [ex, ey]; done) | (simp only [hh, Int.sub_self] at ex; simp [ex, ey])) hsd ?_
      by_cases hr : -9223372036854775808 ≤ l.sum ∧ l.sum ≤ 9223372036854775807
      · have e2 : sumV64 l.sum = .tup [.d (I l.sum), .d (I 0)] := by unfold sumV64; rw [if_pos hr]
        rw [e2]; simp -implicitDefEqProofs [↓gd_tt, ↓gd_ff, ↓gd_tf, ↓gd_ft]
      · have e2 : sumV64 l.sum = .tup [.d (I 0), .d (I 2)] := by unfold sumV64; rw [if_neg hr]
        rw [e2]; simp -implicitDefEqProofs [↓gd_tt, ↓gd_ff, ↓gd_tf, ↓gd_ft]
    · by_cases hlo : p % 18446744073709551616 < q % 18446744073709551616
      · simp -implicitDefEqProofs [↓gd_tt, ↓gd_ff, ↓gd_tf, ↓gd_ft, h, hh, hlo]
        have ex : IntKind.u64.wrap (IntKind.u64.wrap (q / 18446744073709551616 - p / 18446744073709551616) - (if q % 18446744073709551616 < p % 18446744073709551616 then 1 else 0)) = (q - p) / 18446744073709551616 := by
          rw [u64w, u64w]; split <;> omega
        have ey : (q % 18446744073709551616 - p % 18446744073709551616) % 18446744073709551616 = (q - p) % 18446744073709551616 := by omega
        have hv : signV (q - p) true = sumV64 l.sum := by
          unfold signV sumV64
          rw [hsum]
          simp only [Bool.false_eq_true, if_true, if_false]
          split
          · first | (rw [if_pos (by omega)]; done) | rw [if_pos (by omega), Int.neg_sub]
          · rw [if_neg (by omega)]
        have hsg := signed_spec (q - p) true (by omega) (by omega)
        have hsd := signV_data (q - p) true
        rw [hv] at hsg hsd
        refine any_endU (m := 6) ?z2 (by simp) (fun K0 hK0 => ?_) ?_
        case refine_1 =>
          simp -implicitDefEqProofs [↓gd_tt, ↓gd_ff, ↓gd_tf, ↓gd_ft, ag_zero, ag_succ, al_nil, al_cons, List.replicate]
          refine sub64_call (by omega) (by omega) (by omega) (by omega) ?_
          simp -implicitDefEqProofs [↓gd_tt, ↓gd_ff, ↓gd_tf, ↓gd_ft, ag_zero, ag_succ, al_nil, al_cons, List.replicate]
          exact hK0
        simp -implicitDefEqProofs [↓gd_tt, ↓gd_ff, ↓gd_tf, ↓gd_ft]
        refine free_pcall hsg (by first | (simp [ex, ey]; done) | (simp only [hh, Int.sub_self] at ex; simp [ex, ey])) hsd ?_
        by_cases hr : -9223372036854775808 ≤ l.sum ∧ l.sum ≤ 9223372036854775807
        · have e2 : sumV64 l.sum = .tup [.d (I l.sum), .d (I 0)] := by unfold sumV64; rw [if_pos hr]
          rw [e2]; simp -implicitDefEqProofs [↓gd_tt, ↓gd_ff, ↓gd_tf, ↓gd_ft]
        · have e2 : sumV64 l.sum = .tup [.d (I 0), .d (I 2)] := by unfold sumV64; rw [if_neg hr]
          rw [e2]; simp -implicitDefEqProofs [↓gd_tt, ↓gd_ff, ↓gd_tf, ↓gd_ft]
      · simp -implicitDefEqProofs [↓gd_tt, ↓gd_ff, ↓gd_tf, ↓gd_ft, h, hh, hlo]
        have ex : IntKind.u64.wrap (IntKind.u64.wrap (p / 18446744073709551616 - q / 18446744073709551616) - (if p % 18446744073709551616 < q % 18446744073709551616 then 1 else 0)) = (p - q) / 18446744073709551616 := by
          rw [u64w, u64w]; split <;> omega
        have ey : (p % 18446744073709551616 - q % 18446744073709551616) % 18446744073709551616 = (p - q) % 18446744073709551616 := by omega
        have hv : signV (p - q) false = sumV64 l.sum := by
          unfold signV sumV64
          rw [hsum]
          simp only [Bool.false_eq_true, if_true, if_false]
          split
          · first | (rw [if_pos (by omega)]; done) | rw [if_pos (by omega), Int.neg_sub]
          · rw [if_neg (by omega)]
        have hsg := signed_spec (p - q) false (by omega) (by omega)
        have hsd := signV_data (p - q) false
        rw [hv] at hsg hsd
        refine any_endU (m := 6) ?z3 (by simp) (fun K0 hK0 => ?_) ?_
        case refine_1 =>
          simp -implicitDefEqProofs [↓gd_tt, ↓gd_ff, ↓gd_tf, ↓gd_ft, ag_zero, ag_succ, al_nil, al_cons, List.replicate]
          refine sub64_call (by omega) (by omega) (by omega) (by omega) ?_
          simp -implicitDefEqProofs [↓gd_tt, ↓gd_ff, ↓gd_tf, ↓gd_ft, ag_zero, ag_succ, al_nil, al_cons, List.replicate]
          exact hK0
        simp -implicitDefEqProofs [↓gd_tt, ↓gd_ff, ↓gd_tf, ↓gd_ft]
        refine free_pcall hsg (by first | (simp [ex, ey]; done) | (simp only [hh, Int.sub_self] at ex; simp [ex, ey])) hsd ?_
        by_cases hr : -9223372036854775808 ≤ l.sum ∧ l.sum ≤ 9223372036854775807
        · have e2 : sumV64 l.sum = .tup [.d (I l.sum), .d (I 0)] := by unfold sumV64; rw [if_pos hr]
          rw [e2]; simp -implicitDefEqProofs [↓gd_tt, ↓gd_ff, ↓gd_tf, ↓gd_ft]
        · have e2 : sumV64 l.sum = .tup [.d (I 0), .d (I 2)] := by unfold sumV64; rw [if_neg hr]
          rw [e2]; simp -implicitDefEqProofs [↓gd_tt, ↓gd_ff, ↓gd_tf, ↓gd_ft]
    · simp -implicitDefEqProofs [↓gd_tt, ↓gd_ff, ↓gd_tf, ↓gd_ft, h, show ¬ p / 18446744073709551616 < q / 18446744073709551616 by omega, show ¬ p / 18446744073709551616 = q / 18446744073709551616 by omega]
      have ex : IntKind.u64.wrap (IntKind.u64.wrap (p / 18446744073709551616 - q / 18446744073709551616) - (if p % 18446744073709551616 < q % 18446744073709551616 then 1 else 0)) = (p - q) / 18446744073709551616 := by
        rw [u64w, u64w]; split <;> omega
      have ey : (p % 18446744073709551616 - q % 18446744073709551616) % 18446744073709551616 = (p - q) % 18446744073709551616 := by omega
      have hv : signV (p - q) false = sumV64 l.sum := by
        unfold signV sumV64
        rw [hsum]
        simp only [Bool.false_eq_true, if_true, if_false]
        split
        · first | (rw [if_pos (by omega)]; done) | rw [if_pos (by omega), Int.neg_sub]
        · rw [if_neg (by omega)]
      have hsg := signed_spec (p - q) false (by omega) (by omega)
      have hsd := signV_data (p - q) false
      rw [hv] at hsg hsd
      refine any_endU (m := 6) ?z4 (by simp) (fun K0 hK0 => ?_) ?_
      case refine_1 =>
        simp -implicitDefEqProofs [↓gd_tt, ↓gd_ff, ↓gd_tf, ↓gd_ft, ag_zero, ag_succ, al_nil, al_cons, List.replicate]
        refine sub64_call (by omega) (by omega) (by omega) (by omega) ?_
        simp -implicitDefEqProofs [↓gd_tt, ↓gd_ff, ↓gd_tf, ↓gd_ft, ag_zero, ag_succ, al_nil, al_cons, List.replicate]
        exact hK0
      simp -implicitDefEqProofs [↓gd_tt, ↓gd_ff, ↓gd_tf, ↓gd_ft]
      refine free_pcall hsg (by first | (simp [ex, ey]; done) | (simp only [hh, Int.sub_self] at ex; simp [ex, ey])) hsd ?_
      by_cases hr : -9223372036854775808 ≤ l.sum ∧ l.sum ≤ 9223372036854775807
      · have e2 : sumV64 l.sum = .tup [.d (I l.sum), .d (I 0)] := by unfold sumV64; rw [if_pos hr]
        rw [e2]; simp -implicitDefEqProofs [↓gd_tt, ↓gd_ff, ↓gd_tf, ↓gd_ft]
      · have e2 : sumV64 l.sum = .tup [.d (I 0), .d (I 2)] := by unfold sumV64; rw [if_neg hr]
        rw [e2]; simp -implicitDefEqProofs [↓gd_tt, ↓gd_ff, ↓gd_tf, ↓gd_ft]
end Go.Idl
end
section
namespace Go.Idl
set_option linter.unusedSimpArgs false
set_option linter.unusedVariables false

/-- the numbers from 0 on in another order; the first ones stay -/
def renOK (ρ : List Nat) (nb m : Nat) : Bool := decide (ρ.length = m) && ρ.all (fun j => decide (j < m)) && decide ρ.Nodup && decide (ρ.take nb = List.range nb)

/-- **The objects that are new may be numbered anew.** -/
theorem St.le_ren {tm : List V} {hp hp' : List IObj} {nb : Nat} (ρ : List Nat) (hρ : renOK ρ nb hp.length = true) (hl : hp'.length = hp.length) (hh : hp.map (IObj.ren ρ) = ρ.map fun j => hp'.getD j .free) : (⟨tm, hp, nb⟩ : St).le ⟨V.renL ρ tm, hp', nb⟩ := by
  rintro κ a w ⟨Φ, B, au, h⟩
  unfold renOK at hρ
  simp only [Bool.and_eq_true, decide_eq_true_eq, List.all_eq_true] at hρ
  obtain ⟨⟨⟨r1, r2⟩, r3⟩, r4⟩ := hρ
  have hBl : hp.length = B.length := h.hl
  have hget : ∀ i, i < hp.length → ρ[i]? = some (ρ.getD i 0) := fun i hi => by simp [r1, hi]
  have hlt : ∀ i, i < hp.length → ρ.getD i 0 < hp.length := fun i hi => r2 _ (List.mem_of_getElem? (hget i hi))
  have hinj : ∀ i j, i < hp.length → j < hp.length → ρ.getD i 0 = ρ.getD j 0 → i = j := fun i j hi hj e => by
    have h1 := idxOf_of_get r3 (hget i hi)
    have h2 := idxOf_of_get r3 (hget j hj)
    rw [e] at h1; rw [h1] at h2; injection h2
  -- each number is one of the new ones
  have hsur : ∀ j, j < hp.length → ∃ i, i < hp.length ∧ ρ.getD i 0 = j := fun j hj => by
    have : j ∈ ρ := Classical.byContradiction fun hnj => by
      have := nodup_le (l := j :: ρ) (m := List.range hp.length) (List.nodup_cons.2 ⟨hnj, r3⟩) fun x hx => by
        rcases List.mem_cons.1 hx with rfl | hx
        · exact List.mem_range.2 hj
        · exact List.mem_range.2 (r2 x hx)
      simp [r1] at this; omega
    obtain ⟨i, hi, e⟩ := List.getElem_of_mem this
    exact ⟨i, by omega, by simp [List.getD, hi, e]⟩
  have hfix : ∀ i, i < nb → i < hp.length → ρ.getD i 0 = i := fun i hi hi2 => by
    have e1 : (ρ.take nb)[i]? = (List.range nb)[i]? := by rw [r4]
    rw [List.getElem?_take_of_lt hi, hget i hi2, List.getElem?_range hi] at e1
    injection e1
  let inv : Nat → Nat := fun j => (ρ.idxOf? j).getD 0
  have hinv : ∀ i, i < hp.length → inv (ρ.getD i 0) = i := fun i hi => by simp only [inv]; rw [idxOf_of_get r3 (hget i hi)]; rfl
  let B' : List Nat := (List.range hp.length).map fun j => B.getD (inv j) 0
  have hB' : ∀ (i b : Nat), B[i]? = some b → B'[ρ.getD i 0]? = some b := fun i b e => by
    have hi : i < hp.length := by rw [hBl]; exact (List.getElem?_eq_some_iff.1 e).1
    simp only [B']
    rw [List.getElem?_map, List.getElem?_range (hlt i hi)]
    simp only [Option.map_some, Option.some.injEq]
    rw [hinv i hi, List.getD_eq_getElem?_getD, e]; rfl
  have hB2 : ∀ (j b : Nat), B'[j]? = some b → ∃ i, i < hp.length ∧ ρ.getD i 0 = j ∧ B[i]? = some b := fun j b e => by
    have hj : j < hp.length := by have := (List.getElem?_eq_some_iff.1 e).1; simpa [B'] using this
    obtain ⟨i, hi, rfl⟩ := hsur j hj
    refine ⟨i, hi, rfl, ?_⟩
    have hbi : B[i]? = some B[i] := List.getElem?_eq_getElem (by omega)
    have := hB' i _ hbi
    rw [this] at e; rw [hbi]; exact e
  let au' : Auth := fun b => (au b).map fun p => (p.1.ren ρ, p.2)
  have hau : ∀ b h0 st, au b = some (h0, st) → au' b = some (h0.ren ρ, st) := fun b h0 st e => by simp only [au', e]; rfl
  have hau2 : ∀ b h0 st, au' b = some (h0, st) → ∃ h1, au b = some (h1, st) := fun b h0 st e => by
    simp only [au', Option.map_eq_some_iff] at e
    obtain ⟨⟨h1, st1⟩, e1, e2⟩ := e
    injection e2 with e2 e3; subst e3; exact ⟨h1, e1⟩
  refine ⟨Φ, B', au', { h with phia := fun lb b o v h0 st hp e => ?_, auw := fun b h0 st e => ?_, pre := ?_, tl := ?_, tm := fun i V v hV hv => ?_, hl := ?_, nb := ?_, hp := fun id o b ho hb => ?_, df := ?_ }⟩
  · obtain ⟨h1, e1⟩ := hau2 b h0 st e
    exact h.phia lb b o v h1 st hp e1
  · obtain ⟨h1, e1⟩ := hau2 b h0 st e
    exact h.auw b h1 st e1
  · obtain ⟨t, ht⟩ := h.pre
    have hn : κ.B.length ≤ nb ∧ nb ≤ hp.length := h.nb
    refine (List.prefix_iff_eq_take).2 (List.ext_getElem? fun i => ?_)
    by_cases hi : i < κ.B.length
    · have hk : κ.B[i]? = B[i]? := by rw [← ht, List.getElem?_append_left hi]
      have hiB : i < hp.length := by omega
      rw [List.getElem?_take_of_lt hi, hk]
      have hbi : B[i]? = some B[i] := List.getElem?_eq_getElem (by omega)
      have := hB' i _ hbi
      rw [hfix i (by omega) hiB] at this
      rw [this, hbi]
    · rw [List.getElem?_eq_none (by omega), List.getElem?_eq_none (by rw [List.length_take]; omega)]
  · have := h.tl
    simp only at this
    simp only [renL_map, List.length_map]; exact this
  · simp only [renL_map, List.getElem?_map, Option.map_eq_some_iff] at hV
    obtain ⟨V', hV', rfl⟩ := hV
    obtain ⟨g1, g2⟩ := h.tm i V' v hV' hv
    exact ⟨g1.ren hB', g2.ren fun j b st e => ⟨hau b _ st e, rfl⟩⟩
  · simp only [B', List.length_map, List.length_range]; exact hl
  · have hn := h.nb
    exact ⟨hn.1, by simp only [hl]; exact hn.2⟩
  · obtain ⟨i, hi, rfl, hBi⟩ := hB2 id b hb
    have e1 : (hp.map (IObj.ren ρ))[i]? = (ρ.map fun j => hp'.getD j .free)[i]? := by rw [hh]
    rw [List.getElem?_map, List.getElem?_map, hget i hi, List.getElem?_eq_getElem hi] at e1
    simp only [Option.map_some, Option.some.injEq] at e1
    have ho' : hp'[ρ.getD i 0]? = some o := ho
    rw [List.getD_eq_getElem?_getD (l := hp'), ho'] at e1
    simp only [Option.getD_some] at e1
    subst e1
    exact (h.hp i hp[i] b (List.getElem?_eq_getElem hi) hBi).ren (CM.le_refl _) hB' (fun e => ⟨hau b _ _ e, rfl⟩) (fun j b st e => ⟨hau b _ st e, rfl⟩)
  · obtain ⟨rs, h1, h2, h3⟩ := h.df
    refine ⟨rs, h1, h2, fun r hr => ?_⟩
    obtain ⟨x, y, z⟩ := h3 r hr
    exact ⟨x, by simp only [au', y]; rfl, z⟩
theorem St.le_ren' {s e : St} (ρ : List Nat) (hρ : renOK ρ s.nb s.hp.length = true) (hl : e.hp.length = s.hp.length) (hh : s.hp.map (IObj.ren ρ) = ρ.map fun j => e.hp.getD j .free) (ht : e.tm = V.renL ρ s.tm) (hn : e.nb = s.nb) : s.le e := by
  obtain ⟨tm, hp, nb⟩ := s
  obtain ⟨tm', hp', nb'⟩ := e
  simp only at hρ hl hh ht hn
  subst ht; subst hn
  exact St.le_ren ρ hρ hl hh
/-- a region's orders, all of which come to one state, but for the objects' numbers -/
theorem any_endR {P : Program} {ops : List (SOp × List Nat)} {K : St → Prop} {n m : Nat} {s : St} (e : St) (hm : m ≤ ops.length) (h : ∀ K0 : St → Prop, (∀ s' : St, s'.le e → K0 s') → anyGoB P ops K0 n (List.replicate m true ++ List.replicate (ops.length - m) false) s) (hk : K e) : anyGo P ops (fun s' => ∃ s'', s'.le s'' ∧ K s'') n (upto m) s :=
  anyGo_U (h _ fun s' hs => ⟨e, hs, hk⟩) hm
end Go.Idl
end
section
namespace Go.Idl
open Go.Proofs
set_option linter.unusedSimpArgs false
set_option linter.unusedVariables false
set_option maxRecDepth 8000
set_option maxHeartbeats 2000000
variable (b : Bool)

open Classical in
theorem risesN_spec (l : List Nd) (hl : l.length ≤ maxLen) : FCall Try.prog 91 [.d (encNs b l), .fn (.func 92) []] (.d (.bool (decide (Rising (l.map (·.id)))))) := by
  have hone : ∀ x : Nd, PCall Try.prog 92 [encNd x] (.d (I x.id)) := fun x => by
    refine pcallS (fn := Try.f92) [] [] mixed (bodyOf Try.f92) [.tmp 2] Try.func92 rfl rfl (by decide) 4 rfl (by kernel_rfl) ?_
    simp -implicitDefEqProofs [↓gd_tt, ↓gd_ff, ↓gd_tf, ↓gd_ft, bodyOf, Try.f92, stripC, stripL, stripM, onsOf, upto, hintOf, freeOf, List.replicate]
  refine fcallS (fn := Try.f91) [] [(4, 14)] mixed (bodyOf Try.f91) [.tmp 4] Try.func91 rfl rfl (by decide) 24 rfl (by kernel_rfl) ?_
  simp -implicitDefEqProofs [↓gd_tt, ↓gd_ff, ↓gd_tf, ↓gd_ft, bodyOf, Try.f91, stripC, stripL, stripM, onsOf, upto, hintOf, freeOf, List.replicate]
  refine loopA mixed [false, false, false, false, true, true, true, true, true, true, true, true, true, true, true, true, true, true, true, true, true, true, true, true, true, true] (fun (i : Nat) => [(5, .d (I i))]) (fun (i : Nat) => []) (fun (i : Nat) => 1 ≤ i ∧ (i ≤ l.length ∨ i = 1) ∧ ∀ j (h : j + 1 < l.length), j + 1 < i → l[j].id < l[j + 1].id) (fun (i : Nat) => l.length - i) (1) (⟨Nat.le_refl _, .inr rfl, fun j _ h => by omega⟩) (by simp) ?_
  rintro i hx
  obtain ⟨h0, hi, hx⟩ := hx
  by_cases h : i < l.length
  · have hm1 : i - 1 < l.length := by omega
    have hwm := wrapm1 hl h (by omega)
    simp -implicitDefEqProofs [↓gd_tt, ↓gd_ff, ↓gd_tf, ↓gd_ft, h, hm1, hwm]
    refine free_pcall (hone l[i - 1]) rfl rfl ?_
    simp -implicitDefEqProofs [↓gd_tt, ↓gd_ff, ↓gd_tf, ↓gd_ft, h, hm1, hwm]
    refine free_pcall (hone l[i]) rfl rfl ?_
    simp -implicitDefEqProofs [↓gd_tt, ↓gd_ff, ↓gd_tf, ↓gd_ft, wrap1 hl h]
    refine ⟨fun e hR => ?_, fun e => ⟨⟨.inl (by omega), fun j hj hji => ?_⟩, by omega⟩⟩
    · have := hR (i - 1) (by simp; omega)
      have e2 : i - 1 + 1 = i := by omega
      simp only [e2, List.getElem_map] at this
      omega
    · by_cases e2 : j + 1 = i
      · subst e2; simpa using e
      · exact hx j hj (by omega)
  · have hR : Rising (l.map (·.id)) := fun j hj => by
      simp only [List.length_map] at hj
      simp only [List.getElem_map]
      exact hx j hj (by omega)
    have hni : ¬ ((i : Int) < l.length) := by omega
    simp -implicitDefEqProofs [↓gd_tt, ↓gd_ff, ↓gd_tf, ↓gd_ft, hni, hR]
theorem risesT_spec (l : List Tk) (hl : l.length ≤ maxLen) : FCall Try.prog 93 [.d (encTs b l), .fn (.func 94) []] (.d (.bool (decide (Rising (l.map (·.id)))))) := by
  have hone : ∀ x : Tk, PCall Try.prog 94 [encTk b x] (.d (I x.id)) := fun x => by
    refine pcallS (fn := Try.f94) [] [] mixed (bodyOf Try.f94) [.tmp 2] Try.func94 rfl rfl (by decide) 4 rfl (by kernel_rfl) ?_
    simp -implicitDefEqProofs [↓gd_tt, ↓gd_ff, ↓gd_tf, ↓gd_ft, bodyOf, Try.f94, stripC, stripL, stripM, onsOf, upto, hintOf, freeOf, List.replicate]
  refine fcallS (fn := Try.f93) [] [(4, 14)] mixed (bodyOf Try.f93) [.tmp 4] Try.func93 rfl rfl (by decide) 24 rfl (by kernel_rfl) ?_
  simp -implicitDefEqProofs [↓gd_tt, ↓gd_ff, ↓gd_tf, ↓gd_ft, bodyOf, Try.f93, stripC, stripL, stripM, onsOf, upto, hintOf, freeOf, List.replicate]
  refine loopA mixed [false, false, false, false, true, true, true, true, true, true, true, true, true, true, true, true, true, true, true, true, true, true, true, true, true, true] (fun (i : Nat) => [(5, .d (I i))]) (fun (i : Nat) => []) (fun (i : Nat) => 1 ≤ i ∧ (i ≤ l.length ∨ i = 1) ∧ ∀ j (h : j + 1 < l.length), j + 1 < i → l[j].id < l[j + 1].id) (fun (i : Nat) => l.length - i) (1) (⟨Nat.le_refl _, .inr rfl, fun j _ h => by omega⟩) (by simp) ?_
  rintro i hx
  obtain ⟨h0, hi, hx⟩ := hx
  by_cases h : i < l.length
  · have hm1 : i - 1 < l.length := by omega
    have hwm := wrapm1 hl h (by omega)
    simp -implicitDefEqProofs [↓gd_tt, ↓gd_ff, ↓gd_tf, ↓gd_ft, h, hm1, hwm]
    refine free_pcall (hone l[i - 1]) rfl rfl ?_
    simp -implicitDefEqProofs [↓gd_tt, ↓gd_ff, ↓gd_tf, ↓gd_ft, h, hm1, hwm]
    refine free_pcall (hone l[i]) rfl rfl ?_
    simp -implicitDefEqProofs [↓gd_tt, ↓gd_ff, ↓gd_tf, ↓gd_ft, wrap1 hl h]
    refine ⟨fun e hR => ?_, fun e => ⟨⟨.inl (by omega), fun j hj hji => ?_⟩, by omega⟩⟩
    · have := hR (i - 1) (by simp; omega)
      have e2 : i - 1 + 1 = i := by omega
      simp only [e2, List.getElem_map] at this
      omega
    · by_cases e2 : j + 1 = i
      · subst e2; simpa using e
      · exact hx j hj (by omega)
  · have hR : Rising (l.map (·.id)) := fun j hj => by
      simp only [List.length_map] at hj
      simp only [List.getElem_map]
      exact hx j hj (by omega)
    have hni : ¬ ((i : Int) < l.length) := by omega
    simp -implicitDefEqProofs [↓gd_tt, ↓gd_ff, ↓gd_tf, ↓gd_ft, hni, hR]
theorem risesL_spec (l : List Le) (hl : l.length ≤ maxLen) : FCall Try.prog 95 [.d (encLfs b l), .fn (.func 96) []] (.d (.bool (decide (Rising (l.map (·.t)))))) := by
  have hone : ∀ x : Le, PCall Try.prog 96 [encLf b x] (.d (I x.t)) := fun x => by
    refine pcallS (fn := Try.f96) [] [] mixed (bodyOf Try.f96) [.tmp 2] Try.func96 rfl rfl (by decide) 4 rfl (by kernel_rfl) ?_
    simp -implicitDefEqProofs [↓gd_tt, ↓gd_ff, ↓gd_tf, ↓gd_ft, bodyOf, Try.f96, stripC, stripL, stripM, onsOf, upto, hintOf, freeOf, List.replicate]
  refine fcallS (fn := Try.f95) [] [(4, 14)] mixed (bodyOf Try.f95) [.tmp 4] Try.func95 rfl rfl (by decide) 24 rfl (by kernel_rfl) ?_
  simp -implicitDefEqProofs [↓gd_tt, ↓gd_ff, ↓gd_tf, ↓gd_ft, bodyOf, Try.f95, stripC, stripL, stripM, onsOf, upto, hintOf, freeOf, List.replicate]
  refine loopA mixed [false, false, false, false, true, true, true, true, true, true, true, true, true, true, true, true, true, true, true, true, true, true, true, true, true, true] (fun (i : Nat) => [(5, .d (I i))]) (fun (i : Nat) => []) (fun (i : Nat) => 1 ≤ i ∧ (i ≤ l.length ∨ i = 1) ∧ ∀ j (h : j + 1 < l.length), j + 1 < i → l[j].t < l[j + 1].t) (fun (i : Nat) => l.length - i) (1) (⟨Nat.le_refl _, .inr rfl, fun j _ h => by omega⟩) (by simp) ?_
  rintro i hx
  obtain ⟨h0, hi, hx⟩ := hx
  by_cases h : i < l.length
  · have hm1 : i - 1 < l.length := by omega
    have hwm := wrapm1 hl h (by omega)
    simp -implicitDefEqProofs [↓gd_tt, ↓gd_ff, ↓gd_tf, ↓gd_ft, h, hm1, hwm]
    refine free_pcall (hone l[i - 1]) rfl rfl ?_
    simp -implicitDefEqProofs [↓gd_tt, ↓gd_ff, ↓gd_tf, ↓gd_ft, h, hm1, hwm]
    refine free_pcall (hone l[i]) rfl rfl ?_
    simp -implicitDefEqProofs [↓gd_tt, ↓gd_ff, ↓gd_tf, ↓gd_ft, wrap1 hl h]
    refine ⟨fun e hR => ?_, fun e => ⟨⟨.inl (by omega), fun j hj hji => ?_⟩, by omega⟩⟩
    · have := hR (i - 1) (by simp; omega)
      have e2 : i - 1 + 1 = i := by omega
      simp only [e2, List.getElem_map] at this
      omega
    · by_cases e2 : j + 1 = i
      · subst e2; simpa using e
      · exact hx j hj (by omega)
  · have hR : Rising (l.map (·.t)) := fun j hj => by
      simp only [List.length_map] at hj
      simp only [List.getElem_map]
      exact hx j hj (by omega)
    have hni : ¬ ((i : Int) < l.length) := by omega
    simp -implicitDefEqProofs [↓gd_tt, ↓gd_ff, ↓gd_tf, ↓gd_ft, hni, hR]
theorem risesH_spec (l : List Hu) (hl : l.length ≤ maxLen) : FCall Try.prog 97 [.d (encHs b l), .fn (.func 98) []] (.d (.bool (decide (Rising (l.map (·.q)))))) := by
  have hone : ∀ x : Hu, PCall Try.prog 98 [encHu x] (.d (I x.q)) := fun x => by
    refine pcallS (fn := Try.f98) [] [] mixed (bodyOf Try.f98) [.tmp 2] Try.func98 rfl rfl (by decide) 4 rfl (by kernel_rfl) ?_
    simp -implicitDefEqProofs [↓gd_tt, ↓gd_ff, ↓gd_tf, ↓gd_ft, bodyOf, Try.f98, stripC, stripL, stripM, onsOf, upto, hintOf, freeOf, List.replicate]
  refine fcallS (fn := Try.f97) [] [(4, 14)] mixed (bodyOf Try.f97) [.tmp 4] Try.func97 rfl rfl (by decide) 24 rfl (by kernel_rfl) ?_
  simp -implicitDefEqProofs [↓gd_tt, ↓gd_ff, ↓gd_tf, ↓gd_ft, bodyOf, Try.f97, stripC, stripL, stripM, onsOf, upto, hintOf, freeOf, List.replicate]
  refine loopA mixed [false, false, false, false, true, true, true, true, true, true, true, true, true, true, true, true, true, true, true, true, true, true, true, true, true, true] (fun (i : Nat) => [(5, .d (I i))]) (fun (i : Nat) => []) (fun (i : Nat) => 1 ≤ i ∧ (i ≤ l.length ∨ i = 1) ∧ ∀ j (h : j + 1 < l.length), j + 1 < i → l[j].q < l[j + 1].q) (fun (i : Nat) => l.length - i) (1) (⟨Nat.le_refl _, .inr rfl, fun j _ h => by omega⟩) (by simp) ?_
  rintro i hx
  obtain ⟨h0, hi, hx⟩ := hx
  by_cases h : i < l.length
  · have hm1 : i - 1 < l.length := by omega
    have hwm := wrapm1 hl h (by omega)
    simp -implicitDefEqProofs [↓gd_tt, ↓gd_ff, ↓gd_tf, ↓gd_ft, h, hm1, hwm]
    refine free_pcall (hone l[i - 1]) rfl rfl ?_
    simp -implicitDefEqProofs [↓gd_tt, ↓gd_ff, ↓gd_tf, ↓gd_ft, h, hm1, hwm]
    refine free_pcall (hone l[i]) rfl rfl ?_
    simp -implicitDefEqProofs [↓gd_tt, ↓gd_ff, ↓gd_tf, ↓gd_ft, wrap1 hl h]
    refine ⟨fun e hR => ?_, fun e => ⟨⟨.inl (by omega), fun j hj hji => ?_⟩, by omega⟩⟩
    · have := hR (i - 1) (by simp; omega)
      have e2 : i - 1 + 1 = i := by omega
      simp only [e2, List.getElem_map] at this
      omega
    · by_cases e2 : j + 1 = i
      · subst e2; simpa using e
      · exact hx j hj (by omega)
  · have hR : Rising (l.map (·.q)) := fun j hj => by
      simp only [List.length_map] at hj
      simp only [List.getElem_map]
      exact hx j hj (by omega)
    have hni : ¬ ((i : Int) < l.length) := by omega
    simp -implicitDefEqProofs [↓gd_tt, ↓gd_ff, ↓gd_tf, ↓gd_ft, hni, hR]
open Classical in
theorem formA_spec (s : Sta) (hq : s.qs.length ≤ maxLen) (hn : s.ns.length ≤ maxLen) (ht : s.ts.length ≤ maxLen) (hl : s.ls.length ≤ maxLen) (hh : s.hs.length ≤ maxLen) : PCall Try.prog 42 [encSt b s] (.d (.bool (decide (formA s)))) := by
  have e : decide (formA s) = (decide (check s.qs = 0) && (decide (Rising (s.ns.map (·.id))) && (decide (Rising (s.ts.map (·.id))) && (decide (Rising (s.ls.map (·.t))) && decide (Rising (s.hs.map (·.q))))))) := by
    unfold formA; simp only [Bool.decide_and]
  rw [e]
  have r1 := risesN_spec b s.ns hn
  have r2 := risesT_spec b s.ts ht
  have r3 := risesL_spec b s.ls hl
  have r4 := risesH_spec b s.hs hh
  refine pcallS (fn := Try.f42) [] [] mixed (bodyOf Try.f42) [.tmp 2] Try.func42 rfl rfl (by decide) 26 rfl (by kernel_rfl) ?_
  simp -implicitDefEqProofs [↓gd_tt, ↓gd_ff, ↓gd_tf, ↓gd_ft, bodyOf, Try.f42, stripC, stripL, stripM, onsOf, upto, hintOf, freeOf, List.replicate]
  refine callK_pcall (qcheck_spec b s.qs hq) rfl rfl ?_
  by_cases hc : check s.qs = 0
  case neg => simp -implicitDefEqProofs [↓gd_tt, ↓gd_ff, ↓gd_tf, ↓gd_ft, hc]
  simp -implicitDefEqProofs [↓gd_tt, ↓gd_ff, ↓gd_tf, ↓gd_ft, hc]
  refine callK_fcall r1 (by simp) (by simp) (by simp) (by simp) rfl ?_
  by_cases h1 : Rising (s.ns.map (·.id))
  case neg => simp -implicitDefEqProofs [↓gd_tt, ↓gd_ff, ↓gd_tf, ↓gd_ft, h1]
  simp -implicitDefEqProofs [↓gd_tt, ↓gd_ff, ↓gd_tf, ↓gd_ft, h1]
  refine callK_fcall r2 (by simp) (by simp) (by simp) (by simp) rfl ?_
  by_cases h2 : Rising (s.ts.map (·.id))
  case neg => simp -implicitDefEqProofs [↓gd_tt, ↓gd_ff, ↓gd_tf, ↓gd_ft, h2]
  simp -implicitDefEqProofs [↓gd_tt, ↓gd_ff, ↓gd_tf, ↓gd_ft, h2]
  refine callK_fcall r3 (by simp) (by simp) (by simp) (by simp) rfl ?_
  by_cases h3 : Rising (s.ls.map (·.t))
  case neg => simp -implicitDefEqProofs [↓gd_tt, ↓gd_ff, ↓gd_tf, ↓gd_ft, h3]
  simp -implicitDefEqProofs [↓gd_tt, ↓gd_ff, ↓gd_tf, ↓gd_ft, h3]
  refine callK_fcall r4 (by simp) (by simp) (by simp) (by simp) rfl ?_
  simp -implicitDefEqProofs [↓gd_tt, ↓gd_ff, ↓gd_tf, ↓gd_ft]
theorem beyond_spec (l : List Int) (most : Int) (hl : l.length ≤ maxLen) (hw : ∀ x ∈ l, In64 x) : PCall Try.prog 102 [encI b l, I most] (.d (.bool (bey l.sum most))) := by
  have hs := sum64_spec b l hl hw
  unfold sumV64 at hs
  refine pcallS (fn := Try.f102) [] [] mixed (bodyOf Try.f102) [.tmp 4] Try.func102 rfl rfl (by decide) 17 rfl (by kernel_rfl) ?_
  simp -implicitDefEqProofs [↓gd_tt, ↓gd_ff, ↓gd_tf, ↓gd_ft, bodyOf, Try.f102, stripC, stripL, stripM, onsOf, upto, hintOf, freeOf, List.replicate]
  by_cases hr : -9223372036854775808 ≤ l.sum ∧ l.sum ≤ 9223372036854775807
  · rw [if_pos hr] at hs
    refine callK_pcall hs rfl rfl ?_
    have e : bey l.sum most = decide (most < l.sum) := by
      unfold bey
      rw [show decide (l.sum < -9223372036854775808) = false by simp; omega, show decide (9223372036854775807 < l.sum) = false by simp; omega]; simp
    rw [e]
    simp -implicitDefEqProofs [↓gd_tt, ↓gd_ff, ↓gd_tf, ↓gd_ft]
  · rw [if_neg hr] at hs
    refine callK_pcall hs rfl rfl ?_
    have e : bey l.sum most = true := by
      unfold bey
      by_cases h1 : l.sum < -9223372036854775808
      · simp [h1]
      · simp [show 9223372036854775807 < l.sum by omega]
    rw [e]
    simp -implicitDefEqProofs [↓gd_tt, ↓gd_ff, ↓gd_tf, ↓gd_ft]
theorem lateA_spec (s : Sta) (x : Le) (h1 : s.now < x.u) (hn : In64 s.now) (hu : In64 x.u) (hlg : In64 s.long) : PCall Try.prog 44 [encSt b s, encLf b x] (.d (.bool (decide (s.long < x.u - s.now)))) := by
  obtain ⟨n1, n2⟩ := hn
  obtain ⟨u1, u2⟩ := hu
  obtain ⟨l1, l2⟩ := hlg
  refine pcallS (fn := Try.f44) [] [] mixed (bodyOf Try.f44) [.tmp 4] Try.func44 rfl rfl (by decide) 25 rfl (by kernel_rfl) ?_
  simp -implicitDefEqProofs [↓gd_tt, ↓gd_ff, ↓gd_tf, ↓gd_ft, bodyOf, Try.f44, stripC, stripL, stripM, onsOf, upto, hintOf, freeOf, List.replicate]
  refine sub64_call (by rw [u64w]; omega) (by rw [u64w]; omega) (by rw [u64w]; omega) (by rw [u64w]; omega) ?_
  simp -implicitDefEqProofs [↓gd_tt, ↓gd_ff, ↓gd_tf, ↓gd_ft]
  rw [u64w, u64w, u64w]
  constructor
  · intro h; constructor <;> intro h' <;> omega
  · intro h; omega
/-- a state in a variable -/
abbrev stC (b : Bool) (s : Sta) : IObj := .var [.d (.int .i64 s.long), .d (.int .i64 s.pat), .d (.int .i64 s.now), .d (.sl b 7 (s.qs.map encQ)), .d (.sl b 5 (s.ns.map encNd)), .d (.sl b 7 (s.ts.map (encTk b))), .d (.sl b 8 (s.ls.map (encLf b))), .d (.sl b 2 (s.hs.map encHu))]
theorem timeless_spec (s : Sta) (x : Le) (hn : In64 s.now) (hu : In64 x.u) (hlg : In64 s.long) {hp : List IObj} {id : Nat} (h : hp[id]? = some (stC b s)) (hlo : ltObjs hp.length hp = true) {K : V → List IObj → Prop} (hk : K (.d (.bool (timelessB s.now s.long x))) hp) : CallK Try.prog 43 [.d (encLf b x), .ptr id 0] hp K := by
  have hid : id < hp.length := (List.getElem?_eq_some_iff.1 h).1
  refine callK_cut ?_
  refine callS (fn := Try.f43) [] [] mixed (bodyOf Try.f43) [.tmp 3] Try.func43 rfl rfl (by decide) 19 rfl (by kernel_rfl) ?_
  simp -implicitDefEqProofs [↓gd_tt, ↓gd_ff, ↓gd_tf, ↓gd_ft, bodyOf, Try.f43, stripC, stripL, stripM, onsOf, upto, hintOf, freeOf, List.replicate]
  by_cases h1 : s.now < x.u
  · have hl := lateA_spec b s x h1 hn hu hlg
    simp -implicitDefEqProofs [↓gd_tt, ↓gd_ff, ↓gd_tf, ↓gd_ft, h, List.getElem?_append_left hid, h1, show ¬ x.u ≤ s.now by omega]
    refine callK_pcall hl (by simp) rfl ?_
    by_cases h2 : s.long < x.u - s.now
    · have e : timelessB s.now s.long x = true := by simp [timelessB, h2]
      rw [e] at hk
      simp -implicitDefEqProofs [↓gd_tt, ↓gd_ff, ↓gd_tf, ↓gd_ft, h, List.getElem?_append_left hid, h2, hlo, hk]
    · have e : timelessB s.now s.long x = decide (s.now < x.s) := by simp [timelessB, h2]; omega
      rw [e] at hk
      simp -implicitDefEqProofs [↓gd_tt, ↓gd_ff, ↓gd_tf, ↓gd_ft, h, List.getElem?_append_left hid, h2, hlo, hk]
  · have e : timelessB s.now s.long x = true := by simp [timelessB]; omega
    rw [e] at hk
    simp -implicitDefEqProofs [↓gd_tt, ↓gd_ff, ↓gd_tf, ↓gd_ft, h, List.getElem?_append_left hid, h1, show x.u ≤ s.now by omega, hlo, hk]
end Go.Idl
end
section
namespace Go.Idl
open Go.Proofs
set_option linter.unusedSimpArgs false
set_option linter.unusedVariables false
set_option maxRecDepth 8000
set_option maxHeartbeats 2000000
variable (b : Bool)

theorem filter_drop {α : Type} {p : α → Bool} {l : List α} {i : Nat} (h : i < l.length) : (l.drop i).filter p = (if p l[i] = true then [l[i]] else []) ++ (l.drop (i + 1)).filter p := by
  rw [List.drop_eq_getElem_cons h, List.filter_cons]
  split <;> simp_all
/-- one that is taken is the next one of those that are -/
theorem filter_at {α : Type} {p : α → Bool} {l : List α} {i k : Nat} (h : i < l.length) (hq : (l.drop i).filter p = (l.filter p).drop k) (hp : p l[i] = true) : ∃ hk : k < (l.filter p).length, (l.filter p)[k] = l[i] ∧ (l.drop (i + 1)).filter p = (l.filter p).drop (k + 1) := by
  rw [filter_drop h, if_pos hp] at hq
  have hk : k < (l.filter p).length := by
    have := congrArg List.length hq
    simp at this; omega
  refine ⟨hk, ?_, ?_⟩
  · have := congrArg (·[0]?) hq
    simp [hk] at this; exact this.symm
  · have := congrArg List.tail hq
    simpa using this
theorem filter_past {α : Type} {p : α → Bool} {l : List α} {i k : Nat} (h : i < l.length) (hq : (l.drop i).filter p = (l.filter p).drop k) (hp : p l[i] = false) : (l.drop (i + 1)).filter p = (l.filter p).drop k := by
  rw [filter_drop h, if_neg (by simp [hp])] at hq
  simpa using hq
theorem on_yields (s : Sta) (id : Int) (ka kb : Nat) (hl : s.ls.length ≤ maxLen) :
    Yields Try.prog 142 [.ptr ka 0, .ptr kb 0] (fun hp => hp[ka]? = some (stC b s) ∧ hp[kb]? = some (.var [.d (I id)])) ((onN id s.ls).map fun x => [.d (encLf b x)]) := by
  unfold onN
  intro y hp J E hy h0 hJ hround hend
  obtain ⟨g1, g2, g3, g4⟩ := hJ 0 hp h0
  have hka : ka < hp.length := (List.getElem?_eq_some_iff.1 g3).1
  have hkb : kb < hp.length := (List.getElem?_eq_some_iff.1 g4).1
  refine callS (fn := Try.f142) [] [] mixed (bodyOf Try.f142) [] Try.func142 rfl rfl (by decide) 21 rfl (by kernel_rfl) ?_
  simp -implicitDefEqProofs [↓gd_tt, ↓gd_ff, ↓gd_tf, ↓gd_ft, bodyOf, Try.f142, stripC, stripL, stripM, onsOf, upto, hintOf, freeOf, List.replicate, g3]
  refine loopA mixed [false, false, false, false, false, true, false, false, false, true, true, true, true, true, true, true, true, true, true, true, true, true, true, true] (fun (x : Nat × Nat × List IObj) => [(9, .d (I x.1))]) (fun (x : Nat × Nat × List IObj) => x.2.2) (fun (x : Nat × Nat × List IObj) => x.1 ≤ s.ls.length ∧ J x.2.1 x.2.2 ∧ x.2.1 ≤ (s.ls.filter fun x => decide (x.n = id)).length ∧ (s.ls.drop x.1).filter (fun x => decide (x.n = id)) = (s.ls.filter fun x => decide (x.n = id)).drop x.2.1) (fun (x : Nat × Nat × List IObj) => s.ls.length - x.1) ((0, 0, hp)) (⟨Nat.zero_le _, h0, Nat.zero_le _, rfl⟩) (by simp [hy, hka, hkb, g2]) ?_
  rintro x hx
  obtain ⟨i, k, hp1⟩ := x
  obtain ⟨hi, hj, hk, hq⟩ := hx
  simp only at hi hj hk hq ⊢
  obtain ⟨p1, p2, p3, p4⟩ := hJ k hp1 hj
  have hka1 : ka < hp1.length := (List.getElem?_eq_some_iff.1 p3).1
  have hkb1 : kb < hp1.length := (List.getElem?_eq_some_iff.1 p4).1
  rcases Nat.lt_or_eq_of_le hi with h | h
  · have hwi := wrap1 hl h
    simp -implicitDefEqProofs [↓gd_tt, ↓gd_ff, ↓gd_tf, ↓gd_ft, h, p3, p4, hwi, List.getElem?_append_left hka1, List.getElem?_append_left hkb1]
    refine ⟨fun e => ?_, fun e => ?_⟩
    · obtain ⟨hk3, hat, hq2⟩ := filter_at h hq (by simpa using e)
      have hr := hround k hp1 hj (by simpa using hk3)
      simp only [List.getElem_map, hat] at hr
      refine yieldA hr p1 p2 hy (by simp) (by simp) fun b2 hp2 q1 q2 q3 q4 => ?_
      simp -implicitDefEqProofs [↓gd_tt, ↓gd_ff, ↓gd_tf, ↓gd_ft, hwi]
      refine ⟨fun e2 => ⟨by omega, by rw [← q1, List.take_left]; exact q4 e2⟩, fun e2 => ?_⟩
      exact ⟨i + 1, k + 1, hp2, ⟨by omega, q3 e2, hk3, hq2⟩, by omega, rfl, by (repeat' apply And.intro) <;> omega, by rw [q1]; exact (hJ _ _ (q3 e2)).2.1, by omega, by simp, by first | omega | simp⟩
    · have hq2 := filter_past h hq (by simpa using e)
      exact ⟨i + 1, k, hp1, ⟨by omega, hj, hk, hq2⟩, by omega, rfl, by (repeat' apply And.intro) <;> omega, by rw [p1]; exact p2, by omega, by simp, by first | omega | simp⟩
  · rw [h, List.drop_length, List.filter_nil] at hq
    simp -implicitDefEqProofs [↓gd_tt, ↓gd_ff, ↓gd_tf, ↓gd_ft, h]
    have hk2 : k = (s.ls.filter fun x => decide (x.n = id)).length := by
      have := congrArg List.length hq; simp at this; omega
    subst hk2
    exact ⟨by omega, by rw [← p1, List.take_length]; exact hend hp1 (by simpa using hj)⟩
theorem leases_yields (s : Sta) (what : Int) (f : FuncId) (caps : List V) (p : Le → Bool) (Pre : List IObj → Prop) (ka ki kw : Nat) (hl : s.ls.length ≤ maxLen) (hb : hasBody Try.prog f = true) (hcb : caps.all V.bare = true) (hPre : ∀ hp o, Pre hp → Pre (hp ++ [o])) (hlt : ∀ hp, Pre hp → V.ltL hp.length caps = true)
    (hIs : ∀ x ∈ s.ls, ∀ hp (K : V → List IObj → Prop), Pre hp → ltObjs hp.length hp = true → K (.d (.bool (p x))) hp → CallK Try.prog f (.d (encLf b x) :: caps) hp K) :
    Yields Try.prog 105 [.ptr ka 0, .ptr ki 0, .ptr kw 0] (fun hp => hp[ka]? = some (stC b s) ∧ hp[ki]? = some (.var [.fn (.func f) caps]) ∧ hp[kw]? = some (.var [.d (I what)]) ∧ Pre hp) ((s.ls.filter p).map fun x => [.d (encV (what, x.t))]) := by
  intro y hp J E hy h0 hJ hround hend
  obtain ⟨g1, g2, g3, g4, g5, g6⟩ := hJ 0 hp h0
  have hka : ka < hp.length ∧ ki < hp.length ∧ kw < hp.length := ⟨(List.getElem?_eq_some_iff.1 g3).1, (List.getElem?_eq_some_iff.1 g4).1, (List.getElem?_eq_some_iff.1 g5).1⟩
  refine callS (fn := Try.f105) [] [(99, 1)] mixed (bodyOf Try.f105) [] Try.func105 rfl rfl (by decide) 23 rfl (by kernel_rfl) ?_
  simp -implicitDefEqProofs [↓gd_tt, ↓gd_ff, ↓gd_tf, ↓gd_ft, bodyOf, Try.f105, stripC, stripL, stripM, onsOf, upto, hintOf, freeOf, List.replicate, g3]
  refine loopA mixed [false, false, false, false, false, false, true, false, false, false, true, true, true, true, true, true, true, true, true, true, true, true, true, true, true, true, true] (fun (x : Nat × Nat × List IObj) => [(10, .d (I x.1))]) (fun (x : Nat × Nat × List IObj) => x.2.2) (fun (x : Nat × Nat × List IObj) => x.1 ≤ s.ls.length ∧ J x.2.1 x.2.2 ∧ x.2.1 ≤ (s.ls.filter p).length ∧ (s.ls.drop x.1).filter p = (s.ls.filter p).drop x.2.1) (fun (x : Nat × Nat × List IObj) => s.ls.length - x.1) ((0, 0, hp)) (⟨Nat.zero_le _, h0, Nat.zero_le _, rfl⟩) (by simp; (repeat' apply And.intro) <;> first | omega | assumption) ?_
  rintro x hx
  obtain ⟨i, k, hp1⟩ := x
  obtain ⟨hi, hj, hk, hq⟩ := hx
  simp only at hi hj hk hq ⊢
  obtain ⟨p1, p2, p3, p4, p5, p6⟩ := hJ k hp1 hj
  have ha1 : ka < hp1.length := by omega
  have ha2 : ki < hp1.length := by omega
  have ha3 : kw < hp1.length := by omega
  rcases Nat.lt_or_eq_of_le hi with h | h
  · have hwi := wrap1 hl h
    have hlt1 := hlt hp1 p6
    simp -implicitDefEqProofs [↓gd_tt, ↓gd_ff, ↓gd_tf, ↓gd_ft, h, p3, p4, p5, hwi, List.getElem?_append_left ha1, List.getElem?_append_left ha2, List.getElem?_append_left ha3, hcb, hb]
    refine hIs s.ls[i] (List.getElem_mem h) _ _ (hPre _ _ p6) ?_ ?_
    · rw [ltObjs_append, Bool.and_eq_true]
      exact ⟨ltObjs_mono (m := hp1.length) (by simp) (by rw [p1]; exact p2), by simp [ltObjs, IObj.lt, V.ltL, V.lt]⟩
    simp -implicitDefEqProofs [↓gd_tt, ↓gd_ff, ↓gd_tf, ↓gd_ft, h, p3, p4, p5, hwi, List.getElem?_append_left ha1, List.getElem?_append_left ha2, List.getElem?_append_left ha3]
    refine ⟨fun e => ?_, fun e => ?_⟩
    · obtain ⟨hk3, hat, hq2⟩ := filter_at h hq e
      have hr := hround k hp1 hj (by simpa using hk3)
      simp only [List.getElem_map, hat] at hr
      refine yieldA hr p1 p2 hy (by simp) (by simp) fun b2 hp2 q1 q2 q3 q4 => ?_
      simp -implicitDefEqProofs [↓gd_tt, ↓gd_ff, ↓gd_tf, ↓gd_ft, hwi]
      refine ⟨fun e2 => ⟨by omega, by rw [← q1, List.take_left]; exact q4 e2⟩, fun e2 => ?_⟩
      exact ⟨i + 1, k + 1, hp2, ⟨by omega, q3 e2, hk3, hq2⟩, by omega, rfl, by (repeat' apply And.intro) <;> omega, by rw [q1]; exact (hJ _ _ (q3 e2)).2.1, by omega, by simp, by first | omega | simp⟩
    · have hq2 := filter_past h hq e
      exact ⟨i + 1, k, hp1, ⟨by omega, hj, hk, hq2⟩, by omega, rfl, by (repeat' apply And.intro) <;> omega, by rw [p1]; exact p2, by omega, by simp, by first | omega | simp⟩
  · rw [h, List.drop_length, List.filter_nil] at hq
    simp -implicitDefEqProofs [↓gd_tt, ↓gd_ff, ↓gd_tf, ↓gd_ft, h]
    have hk2 : k = (s.ls.filter p).length := by
      have := congrArg List.length hq; simp at this; omega
    subst hk2
    exact ⟨by omega, by rw [← p1, List.take_length]; exact hend hp1 (by simpa using hj)⟩
theorem nodes_yields (s : Sta) (what : Int) (f : FuncId) (p : Nd → Bool) (ka ki kw : Nat) (hl : s.ns.length ≤ maxLen) (hb : hasBody Try.prog f = true)
    (hIs : ∀ n ∈ s.ns, PCall Try.prog f [encSt b s, encNd n] (.d (.bool (p n)))) :
    Yields Try.prog 103 [.ptr ka 0, .ptr ki 0, .ptr kw 0] (fun hp => hp[ka]? = some (stC b s) ∧ hp[ki]? = some (.var [.fn (.func f) []]) ∧ hp[kw]? = some (.var [.d (I what)])) ((s.ns.filter p).map fun n => [.d (encV (what, n.id))]) := by
  intro y hp J E hy h0 hJ hround hend
  obtain ⟨g1, g2, g3, g4, g5⟩ := hJ 0 hp h0
  have hka : ka < hp.length ∧ ki < hp.length ∧ kw < hp.length := ⟨(List.getElem?_eq_some_iff.1 g3).1, (List.getElem?_eq_some_iff.1 g4).1, (List.getElem?_eq_some_iff.1 g5).1⟩
  refine callS (fn := Try.f103) [] [(99, 1)] mixed (bodyOf Try.f103) [] Try.func103 rfl rfl (by decide) 24 rfl (by kernel_rfl) ?_
  simp -implicitDefEqProofs [↓gd_tt, ↓gd_ff, ↓gd_tf, ↓gd_ft, bodyOf, Try.f103, stripC, stripL, stripM, onsOf, upto, hintOf, freeOf, List.replicate, g3]
  refine loopA mixed [false, false, false, false, false, false, true, false, false, false, true, true, true, true, true, true, true, true, true, true, true, true, true, true, true, true, true, true] (fun (x : Nat × Nat × List IObj) => [(10, .d (I x.1))]) (fun (x : Nat × Nat × List IObj) => x.2.2) (fun (x : Nat × Nat × List IObj) => x.1 ≤ s.ns.length ∧ J x.2.1 x.2.2 ∧ x.2.1 ≤ (s.ns.filter p).length ∧ (s.ns.drop x.1).filter p = (s.ns.filter p).drop x.2.1) (fun (x : Nat × Nat × List IObj) => s.ns.length - x.1) ((0, 0, hp)) (⟨Nat.zero_le _, h0, Nat.zero_le _, rfl⟩) (by simp; (repeat' apply And.intro) <;> first | omega | assumption) ?_
  rintro x hx
  obtain ⟨i, k, hp1⟩ := x
  obtain ⟨hi, hj, hk, hq⟩ := hx
  simp only at hi hj hk hq ⊢
  obtain ⟨p1, p2, p3, p4, p5⟩ := hJ k hp1 hj
  have ha1 : ka < hp1.length := by omega
  have ha2 : ki < hp1.length := by omega
  have ha3 : kw < hp1.length := by omega
  rcases Nat.lt_or_eq_of_le hi with h | h
  · have hwi := wrap1 hl h
    simp -implicitDefEqProofs [↓gd_tt, ↓gd_ff, ↓gd_tf, ↓gd_ft, h, p3, p4, p5, hwi, List.getElem?_append_left ha1, List.getElem?_append_left ha2, List.getElem?_append_left ha3, hb]
    refine callK_pcall (hIs s.ns[i] (List.getElem_mem h)) (by simp) rfl ?_
    simp -implicitDefEqProofs [↓gd_tt, ↓gd_ff, ↓gd_tf, ↓gd_ft, h, p3, p4, p5, hwi, List.getElem?_append_left ha1, List.getElem?_append_left ha2, List.getElem?_append_left ha3]
    refine ⟨fun e => ?_, fun e => ?_⟩
    · obtain ⟨hk3, hat, hq2⟩ := filter_at h hq e
      have hr := hround k hp1 hj (by simpa using hk3)
      simp only [List.getElem_map, hat] at hr
      refine yieldA hr p1 p2 hy (by simp) (by simp) fun b2 hp2 q1 q2 q3 q4 => ?_
      simp -implicitDefEqProofs [↓gd_tt, ↓gd_ff, ↓gd_tf, ↓gd_ft, hwi]
      refine ⟨fun e2 => ⟨by omega, by rw [← q1, List.take_left]; exact q4 e2⟩, fun e2 => ?_⟩
      exact ⟨i + 1, k + 1, hp2, ⟨by omega, q3 e2, hk3, hq2⟩, by omega, rfl, by (repeat' apply And.intro) <;> omega, by rw [q1]; exact (hJ _ _ (q3 e2)).2.1, by omega, by simp, by first | omega | simp⟩
    · have hq2 := filter_past h hq e
      exact ⟨i + 1, k, hp1, ⟨by omega, hj, hk, hq2⟩, by omega, rfl, by (repeat' apply And.intro) <;> omega, by rw [p1]; exact p2, by omega, by simp, by first | omega | simp⟩
  · rw [h, List.drop_length, List.filter_nil] at hq
    simp -implicitDefEqProofs [↓gd_tt, ↓gd_ff, ↓gd_tf, ↓gd_ft, h]
    have hk2 : k = (s.ns.filter p).length := by
      have := congrArg List.length hq; simp at this; omega
    subst hk2
    exact ⟨by omega, by rw [← p1, List.take_length]; exact hend hp1 (by simpa using hj)⟩
theorem keyOKI (n : Int) : keyOK Try.prog 3 (.int .i64 n) = true := by simp [keyOK]
/-- numbers that are marked in a map -/
def mark1 (ids : List Int) (es : List (Nat × D × V)) : Prop := ∀ q : Int, ∃ kt et, mapTy Try.prog 173 = some (kt, et) ∧ ((q ∈ ids ∧ ∃ i, mfind Try.prog kt (I q) es 0 = some (some (i, .d (I 1)))) ∨ (q ∉ ids ∧ mfind Try.prog kt (I q) es 0 = some none))
theorem bare_yields (s : Sta) (ka kb m c : Nat) (es : List (Nat × D × V)) (hl : s.ts.length ≤ maxLen) (hm : mark1 (s.ls.map (·.t)) es) :
    Yields Try.prog 107 [.ptr ka 0, .ptr kb 0] (fun hp => hp[ka]? = some (stC b s) ∧ hp[kb]? = some (.var [.map m]) ∧ hp[m]? = some (.map c es)) ((s.ts.filter (bareB s.ls)).map fun t => [.d (encV (6, t.id))]) := by
  intro y hp J E hy h0 hJ hround hend
  obtain ⟨g1, g2, g3, g4, g5⟩ := hJ 0 hp h0
  have hka : ka < hp.length ∧ kb < hp.length ∧ m < hp.length := ⟨(List.getElem?_eq_some_iff.1 g3).1, (List.getElem?_eq_some_iff.1 g4).1, (List.getElem?_eq_some_iff.1 g5).1⟩
  refine callS (fn := Try.f107) [] [(99, 1)] mixed (bodyOf Try.f107) [] Try.func107 rfl rfl (by decide) 29 rfl (by kernel_rfl) ?_
  simp -implicitDefEqProofs [↓gd_tt, ↓gd_ff, ↓gd_tf, ↓gd_ft, bodyOf, Try.f107, stripC, stripL, stripM, onsOf, upto, hintOf, freeOf, List.replicate, g3]
  refine loopA mixed [false, false, false, false, false, true, false, false, false, true, true, true, true, true, true, true, true, true, true, true, true, true, true, true, true, true, true, true, true, true, true, true] (fun (x : Nat × Nat × List IObj) => [(9, .d (I x.1))]) (fun (x : Nat × Nat × List IObj) => x.2.2) (fun (x : Nat × Nat × List IObj) => x.1 ≤ s.ts.length ∧ J x.2.1 x.2.2 ∧ x.2.1 ≤ (s.ts.filter (bareB s.ls)).length ∧ (s.ts.drop x.1).filter (bareB s.ls) = (s.ts.filter (bareB s.ls)).drop x.2.1) (fun (x : Nat × Nat × List IObj) => s.ts.length - x.1) ((0, 0, hp)) (⟨Nat.zero_le _, h0, Nat.zero_le _, rfl⟩) (by simp; (repeat' apply And.intro) <;> first | omega | assumption) ?_
  rintro x hx
  obtain ⟨i, k, hp1⟩ := x
  obtain ⟨hi, hj, hk, hq⟩ := hx
  simp only at hi hj hk hq ⊢
  obtain ⟨p1, p2, p3, p4, p5⟩ := hJ k hp1 hj
  have ha1 : ka < hp1.length := by omega
  have ha2 : kb < hp1.length := by omega
  have ha3 : m < hp1.length := by omega
  rcases Nat.lt_or_eq_of_le hi with h | h
  · have hwi := wrap1 hl h
    by_cases hst : s.ts[i].st = 2
    case neg =>
      have hq2 := filter_past h hq (by simp [bareB, hst])
      simp -implicitDefEqProofs [↓gd_tt, ↓gd_ff, ↓gd_tf, ↓gd_ft, h, p3, p4, p5, hwi, List.getElem?_append_left ha1, List.getElem?_append_left ha2, List.getElem?_append_left ha3, hst]
      exact ⟨i + 1, k, hp1, ⟨by omega, hj, hk, hq2⟩, by omega, rfl, by (repeat' apply And.intro) <;> omega, by rw [p1]; exact p2, by omega, by simp, by first | omega | simp⟩
    obtain ⟨kt, et, ht, hf⟩ := hm s.ts[i].id
    have hmm : (mapTy Try.prog 173) = some (3, 3) := by kernel_rfl
    rw [hmm] at ht
    injection ht with ht; injection ht with h1 h2; subst h1; subst h2
    rcases hf with ⟨hin, j, hf⟩ | ⟨hin, hf⟩
    · have hq2 := filter_past h hq (by
        have : s.ls.any (fun x => decide (x.t = s.ts[i].id)) = true := by
          obtain ⟨x, hx, e⟩ := List.mem_map.1 hin
          exact List.any_eq_true.2 ⟨x, hx, by simpa using e⟩
        simp only [bareB, this]; simp)
      simp -implicitDefEqProofs [↓gd_tt, ↓gd_ff, ↓gd_tf, ↓gd_ft, h, p3, p4, p5, hwi, List.getElem?_append_left ha1, List.getElem?_append_left ha2, List.getElem?_append_left ha3, hst, hf, keyOKI]
      exact ⟨i + 1, k, hp1, ⟨by omega, hj, hk, hq2⟩, by omega, rfl, by (repeat' apply And.intro) <;> omega, by rw [p1]; exact p2, by omega, by simp, by first | omega | simp⟩
    · obtain ⟨hk3, hat, hq2⟩ := filter_at h hq (by
        have : s.ls.any (fun x => decide (x.t = s.ts[i].id)) = false := List.any_eq_false.2 fun x hx => by
          simp only [decide_eq_true_eq]
          exact fun e => hin (List.mem_map.2 ⟨x, hx, e⟩)
        simp only [bareB, this, hst]; decide)
      simp -implicitDefEqProofs [↓gd_tt, ↓gd_ff, ↓gd_tf, ↓gd_ft, h, p3, p4, p5, hwi, List.getElem?_append_left ha1, List.getElem?_append_left ha2, List.getElem?_append_left ha3, hst, hf, keyOKI]
      have hr := hround k hp1 hj (by simpa using hk3)
      simp only [List.getElem_map, hat] at hr
      refine yieldA hr p1 p2 hy (by simp) (by simp) fun b2 hp2 q1 q2 q3 q4 => ?_
      simp -implicitDefEqProofs [↓gd_tt, ↓gd_ff, ↓gd_tf, ↓gd_ft, hwi]
      refine ⟨fun e2 => ⟨by omega, by rw [← q1, List.take_left]; exact q4 e2⟩, fun e2 => ?_⟩
      exact ⟨i + 1, k + 1, hp2, ⟨by omega, q3 e2, hk3, hq2⟩, by omega, rfl, by (repeat' apply And.intro) <;> omega, by rw [q1]; exact (hJ _ _ (q3 e2)).2.1, by omega, by simp, by first | omega | simp⟩
  · rw [h, List.drop_length, List.filter_nil] at hq
    simp -implicitDefEqProofs [↓gd_tt, ↓gd_ff, ↓gd_tf, ↓gd_ft, h]
    have hk2 : k = (s.ts.filter (bareB s.ls)).length := by
      have := congrArg List.length hq; simp at this; omega
    subst hk2
    exact ⟨by omega, by rw [← p1, List.take_length]; exact hend hp1 (by simpa using hj)⟩
end Go.Idl
end
section
namespace Go.Idl
set_option linter.unusedSimpArgs false
set_option linter.unusedVariables false

def addAt (C : List (List Int)) (ids : List Nat) (v : Int) : List (List Int) := ids.foldl (fun c j => c.modify j (· ++ [v])) C
theorem addAt_len (v : Int) : ∀ (ids : List Nat) (C : List (List Int)), (addAt C ids v).length = C.length
  | [], _ => rfl
  | j :: ids, C => by
    show (addAt (C.modify j (· ++ [v])) ids v).length = _
    rw [addAt_len v ids]; simp
theorem addAt_step (C : List (List Int)) {ids : List Nat} {k : Nat} (h : k < ids.length) (v : Int) : addAt C (ids.take (k + 1)) v = (addAt C (ids.take k) v).modify ids[k] (· ++ [v]) := by
  unfold addAt
  rw [List.take_add_one, List.getElem?_eq_getElem h, Option.toList_some, List.foldl_append]; rfl
theorem addAt_get (v : Int) : ∀ (ids : List Nat) (C : List (List Int)), ids.Nodup → ∀ j, (addAt C ids v)[j]? = (C[j]?).map fun xs => xs ++ (if j ∈ ids then [v] else [])
  | [], C, _, j => by simp [addAt]
  | i :: ids, C, hn, j => by
    rw [List.nodup_cons] at hn
    show (addAt (C.modify i (· ++ [v])) ids v)[j]? = _
    rw [addAt_get v ids _ hn.2, List.getElem?_modify]
    by_cases e : i = j
    · subst e
      cases C[i]? with
      | none => rfl
      | some xs => simp [hn.1]
    · have e' : ¬ j = i := fun h => e h.symm
      cases C[j]? with
      | none => simp [e]
      | some xs => simp [e, e']
theorem addAt_short (v : Int) (ids : List Nat) (C : List (List Int)) (hn : ids.Nodup) {n : Nat} (h : ∀ xs ∈ C, xs.length ≤ n) : ∀ xs ∈ addAt C ids v, xs.length ≤ n + 1 := fun xs hx => by
  obtain ⟨j, hj, rfl⟩ := List.getElem_of_mem hx
  have := addAt_get v ids C hn j
  rw [List.getElem?_eq_getElem hj] at this
  cases e : C[j]? with
  | none => rw [e] at this; cases this
  | some ys =>
    rw [e] at this
    simp only [Option.map_some, Option.some.injEq] at this
    rw [this, List.length_append]
    have := h ys (List.mem_of_getElem? e)
    split <;> simp <;> omega
def cpuL (s : Sta) (k : Nat) : List (List Int) := s.qs.map fun q => cpuAt s.qs q.Id (s.ls.take k)
def memL (s : Sta) (k : Nat) : List (List Int) := s.qs.map fun q => memAt s.qs q.Id (s.ls.take k)
theorem cpuAt_take (l : List Q) (id : Int) {ls : List Le} {i : Nat} (h : i < ls.length) : cpuAt l id (ls.take (i + 1)) = cpuAt l id (ls.take i) ++ if id ∈ path l ls[i].q then [(ls[i].cs.length : Int)] else [] := by
  unfold cpuAt
  rw [filtmap_take h]
  simp
theorem memAt_take (l : List Q) (id : Int) {ls : List Le} {i : Nat} (h : i < ls.length) : memAt l id (ls.take (i + 1)) = memAt l id (ls.take i) ++ if id ∈ path l ls[i].q then [ls[i].m] else [] := by
  unfold memAt
  rw [filtmap_take h]
  simp
theorem upIds_nodup {l : List Q} (h : form l = true) (id : Int) : ((up l id).map (·.1)).Nodup := by
  have := up_sorted h _ id (Nat.le_refl _)
  exact this.imp fun h => by omega
theorem cpuL_step {s : Sta} (h : form s.qs = true) {i : Nat} (hi : i < s.ls.length) : addAt (cpuL s i) ((up s.qs s.ls[i].q).map (·.1)) s.ls[i].cs.length = cpuL s (i + 1) := by
  refine List.ext_getElem? fun j => ?_
  rw [addAt_get _ _ _ (upIds_nodup h _)]
  unfold cpuL
  rw [List.getElem?_map, List.getElem?_map]
  by_cases hj : j < s.qs.length
  · rw [List.getElem?_eq_getElem hj]
    simp only [Option.map_some, Option.some.injEq]
    rw [cpuAt_take _ _ hi]
    congr 1
    have := up_path_iff h s.ls[i].q hj
    by_cases e : s.qs[j].Id ∈ path s.qs s.ls[i].q
    · rw [if_pos e, if_pos (this.2 e)]
    · rw [if_neg e, if_neg fun k => e (this.1 k)]
  · rw [List.getElem?_eq_none (by omega)]; rfl
theorem memL_step {s : Sta} (h : form s.qs = true) {i : Nat} (hi : i < s.ls.length) : addAt (memL s i) ((up s.qs s.ls[i].q).map (·.1)) s.ls[i].m = memL s (i + 1) := by
  refine List.ext_getElem? fun j => ?_
  rw [addAt_get _ _ _ (upIds_nodup h _)]
  unfold memL
  rw [List.getElem?_map, List.getElem?_map]
  by_cases hj : j < s.qs.length
  · rw [List.getElem?_eq_getElem hj]
    simp only [Option.map_some, Option.some.injEq]
    rw [memAt_take _ _ hi]
    congr 1
    have := up_path_iff h s.ls[i].q hj
    by_cases e : s.qs[j].Id ∈ path s.qs s.ls[i].q
    · rw [if_pos e, if_pos (this.2 e)]
    · rw [if_neg e, if_neg fun k => e (this.1 k)]
  · rw [List.getElem?_eq_none (by omega)]; rfl
end Go.Idl
end
