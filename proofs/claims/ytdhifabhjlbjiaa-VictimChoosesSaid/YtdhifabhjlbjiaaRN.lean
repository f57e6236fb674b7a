/- The document's numbers of two words, and its weighted shares. -/
import Derived.Test.YtdhifabhjlbjiaaPV
import Derived.Test.YtdhifabhjlbjiaaQS
set_option linter.all false
namespace Go.Idl
open Go.Proofs
set_option linter.unusedSimpArgs false
set_option linter.unusedVariables false
set_option maxRecDepth 8000
set_option maxHeartbeats 2000000

/-- a number of two words, the upper one with its sign -/
def wideR (z : Int) : D := .agg [I (z / 18446744073709551616), N64 (z % 18446744073709551616)]
theorem i64id {n : Int} (h : 0 ≤ n) (h2 : n < 9223372036854775808) : IntKind.i64.wrap n = n := wrap_i64 (by omega) (by omega)
/-- the lower half of a product -/
theorem half_lo {x y : Int} (hx : 0 ≤ x) (hx2 : x < 18446744073709551616) (hy : 0 ≤ y) (hy2 : y < 18446744073709551616) :
    ((((x / 4294967296) * (y % 4294967296) + (x % 4294967296) * (y % 4294967296) / 4294967296) % 4294967296 + (x % 4294967296) * (y / 4294967296)) * 4294967296 + (x % 4294967296) * (y % 4294967296) % 4294967296) % 18446744073709551616 = x * y % 18446744073709551616 := by
  have ex : x = (x / 4294967296) * 4294967296 + x % 4294967296 := by omega
  have ey : y = (y / 4294967296) * 4294967296 + y % 4294967296 := by omega
  have e : x * y = (x / 4294967296) * (y / 4294967296) * 18446744073709551616 + ((x / 4294967296) * (y % 4294967296) + (x % 4294967296) * (y / 4294967296)) * 4294967296 + (x % 4294967296) * (y % 4294967296) := by
    generalize hx1 : x / 4294967296 = x1 at ex
    generalize hx0 : x % 4294967296 = x0 at ex
    generalize hy1 : y / 4294967296 = y1 at ey
    generalize hy0 : y % 4294967296 = y0 at ey
    subst ex; subst ey
    grind
  rw [e]
  have b4 := mul_bound (a := x % 4294967296) (b := y % 4294967296) (by omega) (by omega) (by omega) (by omega)
  generalize (x / 4294967296) * (y / 4294967296) = p1 at *
  generalize (x / 4294967296) * (y % 4294967296) = p2 at *
  generalize (x % 4294967296) * (y / 4294967296) = p3 at *
  generalize (x % 4294967296) * (y % 4294967296) = p4 at *
  clear e ex ey
  omega
theorem shl32 (n : Int) : IntKind.u64.wrap (n * 2 ^ min 32 IntKind.u64.bits) = n * 4294967296 % 18446744073709551616 := by
  have e : (2 : Int) ^ min 32 IntKind.u64.bits = 4294967296 := by decide
  rw [e, u64w]
theorem rhalf_spec (x y : Int) (hx : 0 ≤ x) (hx2 : x < 9223372036854775808) (hy : 0 ≤ y) (hy2 : y < 9223372036854775808) : PCall Try.prog 229 [N64 x, N64 y] (.d (wideR (x * y))) := by
  have b1 := mul_bound (a := x / 4294967296) (b := y / 4294967296) (by omega) (by omega) (by omega) (by omega)
  have b2 := mul_bound (a := x / 4294967296) (b := y % 4294967296) (by omega) (by omega) (by omega) (by omega)
  have b3 := mul_bound (a := x % 4294967296) (b := y / 4294967296) (by omega) (by omega) (by omega) (by omega)
  have b4 := mul_bound (a := x % 4294967296) (b := y % 4294967296) (by omega) (by omega) (by omega) (by omega)
  have hh := half_hi hx (show x < 18446744073709551616 by omega) hy (show y < 18446744073709551616 by omega)
  have hlo := half_lo hx (show x < 18446744073709551616 by omega) hy (show y < 18446744073709551616 by omega)
  unfold wideR
  refine pcallS (fn := Try.f229) [] [] mixed (bodyOf Try.f229) [.cell 4 181] Try.func229 rfl rfl (by decide) 50 rfl (by kernel_rfl) ?_
  simp -implicitDefEqProofs [↓gd_tt, ↓gd_ff, ↓gd_tf, ↓gd_ft, bodyOf, Try.f229, stripC, stripL, stripM, onsOf, upto, hintOf, freeOf, List.replicate]
  have w1 : IntKind.u64.wrap (x / 4294967296 * (y / 4294967296)) = x / 4294967296 * (y / 4294967296) := u64id b1.1 (by omega)
  have w2 : IntKind.u64.wrap (x / 4294967296 * (y % 4294967296)) = x / 4294967296 * (y % 4294967296) := u64id b2.1 (by omega)
  have w3 : IntKind.u64.wrap (x % 4294967296 * (y / 4294967296)) = x % 4294967296 * (y / 4294967296) := u64id b3.1 (by omega)
  have w4 : IntKind.u64.wrap (x % 4294967296 * (y % 4294967296)) = x % 4294967296 * (y % 4294967296) := u64id b4.1 (by omega)
  have s1 : IntKind.u64.wrap (x / 4294967296 * (y % 4294967296) + x % 4294967296 * (y % 4294967296) / 4294967296) = x / 4294967296 * (y % 4294967296) + x % 4294967296 * (y % 4294967296) / 4294967296 := by
    generalize x / 4294967296 * (y % 4294967296) = p at *
    generalize x % 4294967296 * (y % 4294967296) = q at *
    exact u64id (by omega) (by omega)
  have t0 : 0 ≤ x / 4294967296 * (y % 4294967296) + x % 4294967296 * (y % 4294967296) / 4294967296 ∧ x / 4294967296 * (y % 4294967296) + x % 4294967296 * (y % 4294967296) / 4294967296 < 18446744073709551616 := by
    generalize x / 4294967296 * (y % 4294967296) = p at *
    generalize x % 4294967296 * (y % 4294967296) = q at *
    omega
  have a1 := and32' t0.1 t0.2
  have a2 := and32' (n := x % 4294967296 * (y % 4294967296)) b4.1 (by omega)
  have hfin : 0 ≤ x * y / 18446744073709551616 ∧ x * y / 18446744073709551616 < 9223372036854775808 := by
    have h0 := Int.mul_nonneg hx hy
    have h1 := Int.mul_le_mul (show x ≤ 9223372036854775807 by omega) (show y ≤ 9223372036854775807 by omega) hy (by decide)
    generalize x * y = z at *
    omega
  rw [← hh] at hfin ⊢
  rw [← hlo]
  generalize hT : x / 4294967296 * (y % 4294967296) + x % 4294967296 * (y % 4294967296) / 4294967296 = T at *
  have s2 : IntKind.u64.wrap (T % 4294967296 + x % 4294967296 * (y / 4294967296)) = T % 4294967296 + x % 4294967296 * (y / 4294967296) := by
    generalize x % 4294967296 * (y / 4294967296) = p at *
    exact u64id (by omega) (by omega)
  have s3 : IntKind.u64.wrap (x / 4294967296 * (y / 4294967296) + T / 4294967296) = x / 4294967296 * (y / 4294967296) + T / 4294967296 := by
    generalize x / 4294967296 * (y / 4294967296) = p at *
    exact u64id (by omega) (by omega)
  have s4 := u64id hfin.1 (show x / 4294967296 * (y / 4294967296) + T / 4294967296 + (T % 4294967296 + x % 4294967296 * (y / 4294967296)) / 4294967296 < 18446744073709551616 by omega)
  have s5 := i64id hfin.1 hfin.2
  simp -implicitDefEqProofs [↓gd_tt, ↓gd_ff, ↓gd_tf, ↓gd_ft, and32' hx (show x < 18446744073709551616 by omega), and32' hy (show y < 18446744073709551616 by omega), shr32, shl32, w1, w2, w3, w4, hT, s1, a1, a2, s2, s3, s4, s5]
  rw [u64w]
  generalize T % 4294967296 + x % 4294967296 * (y / 4294967296) = p at *
  generalize x % 4294967296 * (y % 4294967296) = q at *
  omega
theorem rsize_spec (a : Int) (h : 0 ≤ a ∧ a ≤ 2199023255552) : PCall Try.prog 230 [I a] (.d (N64 a)) := by
  have h1 : ¬ a < 0 := by omega
  have h2 := u64id h.1 (show a < 18446744073709551616 by omega)
  refine pcallS (fn := Try.f230) [] [] mixed (bodyOf Try.f230) [.tmp 2] Try.func230 rfl rfl (by decide) 9 rfl (by kernel_rfl) ?_
  simp -implicitDefEqProofs [↓gd_tt, ↓gd_ff, ↓gd_tf, ↓gd_ft, bodyOf, Try.f230, stripC, stripL, stripM, onsOf, upto, hintOf, freeOf, List.replicate]
  simp -implicitDefEqProofs [↓gd_tt, ↓gd_ff, ↓gd_tf, ↓gd_ft, h1, h2]
theorem rtimes_spec (a b : Int) (ha : 0 ≤ a ∧ a ≤ 2199023255552) (hb : 0 ≤ b ∧ b ≤ 2199023255552) : PCall Try.prog 213 [I a, I b] (.d (wideR (a * b))) := by
  have h1 : ¬ a < 0 := by omega
  have h2 : ¬ b < 0 := by omega
  refine pcallS (fn := Try.f213) [] [] mixed (bodyOf Try.f213) [.cell 4 181] Try.func213 rfl rfl (by decide) 18 rfl (by kernel_rfl) ?_
  simp -implicitDefEqProofs [↓gd_tt, ↓gd_ff, ↓gd_tf, ↓gd_ft, bodyOf, Try.f213, stripC, stripL, stripM, onsOf, upto, hintOf, freeOf, List.replicate]
  refine callK_pcall (rsize_spec a ha) rfl rfl ?_
  simp -implicitDefEqProofs [↓gd_tt, ↓gd_ff, ↓gd_tf, ↓gd_ft]
  refine callK_pcall (rsize_spec b hb) rfl rfl ?_
  simp -implicitDefEqProofs [↓gd_tt, ↓gd_ff, ↓gd_tf, ↓gd_ft]
  refine callK_pcall (rhalf_spec a b ha.1 (by omega) hb.1 (by omega)) rfl rfl ?_
  unfold wideR
  simp -implicitDefEqProofs [↓gd_tt, ↓gd_ff, ↓gd_tf, ↓gd_ft, h1, h2]
theorem rplus_spec (a b : Int) (ha : 0 ≤ a ∧ a ≤ 5070602400912917605986812821504) (hb : 0 ≤ b ∧ b ≤ 5070602400912917605986812821504) : PCall Try.prog 205 [wideR a, wideR b] (.d (wideR (a + b))) := by
  have w1 := i64id (n := a / 18446744073709551616 + b / 18446744073709551616) (by omega) (by omega)
  have w2 := i64id (n := a / 18446744073709551616 + b / 18446744073709551616 + 1) (by omega) (by omega)
  unfold wideR
  refine pcallS (fn := Try.f205) [] [] mixed (bodyOf Try.f205) [.cell 4 181] Try.func205 rfl rfl (by decide) 24 rfl (by kernel_rfl) ?_
  simp -implicitDefEqProofs [↓gd_tt, ↓gd_ff, ↓gd_tf, ↓gd_ft, bodyOf, Try.f205, stripC, stripL, stripM, onsOf, upto, hintOf, freeOf, List.replicate]
  simp -implicitDefEqProofs [↓gd_tt, ↓gd_ff, ↓gd_tf, ↓gd_ft, w1, w2, u64w]
  refine ⟨fun h => ?_, fun h => ?_⟩ <;> omega
theorem rless_spec (a b : Int) : PCall Try.prog 177 [wideR a, wideR b] (.d (.bool (decide (a < b)))) := by
  unfold wideR
  refine pcallS (fn := Try.f177) [] [] mixed (bodyOf Try.f177) [.tmp 4] Try.func177 rfl rfl (by decide) 22 rfl (by kernel_rfl) ?_
  simp -implicitDefEqProofs [↓gd_tt, ↓gd_ff, ↓gd_tf, ↓gd_ft, bodyOf, Try.f177, stripC, stripL, stripM, onsOf, upto, hintOf, freeOf, List.replicate]
  (repeat' (first | apply And.intro | intro _)) <;> omega
theorem rpart_spec (u t : Int) (hu : 0 ≤ u) (ht : 0 ≤ t) : PCall Try.prog 211 [I u, I t] (.d (encV (partZ u t))) := by
  unfold partZ
  refine pcallS (fn := Try.f211) [] [] mixed (bodyOf Try.f211) [.cell 4 203] Try.func211 rfl rfl (by decide) 14 rfl (by kernel_rfl) ?_
  simp -implicitDefEqProofs [↓gd_tt, ↓gd_ff, ↓gd_tf, ↓gd_ft, bodyOf, Try.f211, stripC, stripL, stripM, onsOf, upto, hintOf, freeOf, List.replicate]
  by_cases h1 : t = 0
  · subst h1
    by_cases h2 : 0 < u
    · simp -implicitDefEqProofs [↓gd_tt, ↓gd_ff, ↓gd_tf, ↓gd_ft, h2]
    · have : u = 0 := by omega
      subst this
      simp -implicitDefEqProofs [↓gd_tt, ↓gd_ff, ↓gd_tf, ↓gd_ft]
  · have h2 : 0 < t := by omega
    simp -implicitDefEqProofs [↓gd_tt, ↓gd_ff, ↓gd_tf, ↓gd_ft, h1, h2]
    intro h; omega
theorem rabove_spec (a b : Int × Int) (ha : (0 ≤ a.1 ∧ a.1 ≤ 1099511627776) ∧ 0 ≤ a.2 ∧ a.2 ≤ 1099511627776) (hb : (0 ≤ b.1 ∧ b.1 ≤ 1099511627776) ∧ 0 ≤ b.2 ∧ b.2 ≤ 1099511627776) : PCall Try.prog 212 [encV a, encV b] (.d (.bool (decide (b.1 * a.2 < a.1 * b.2)))) := by
  refine pcallS (fn := Try.f212) [] [] mixed (bodyOf Try.f212) [.tmp 4] Try.func212 rfl rfl (by decide) 14 rfl (by kernel_rfl) ?_
  simp -implicitDefEqProofs [↓gd_tt, ↓gd_ff, ↓gd_tf, ↓gd_ft, bodyOf, Try.f212, stripC, stripL, stripM, onsOf, upto, hintOf, freeOf, List.replicate]
  refine free_pcall (rtimes_spec b.1 a.2 (by omega) (by omega)) rfl rfl ?_
  simp -implicitDefEqProofs [↓gd_tt, ↓gd_ff, ↓gd_tf, ↓gd_ft]
  refine free_pcall (rtimes_spec a.1 b.2 (by omega) (by omega)) rfl rfl ?_
  simp -implicitDefEqProofs [↓gd_tt, ↓gd_ff, ↓gd_tf, ↓gd_ft]
  refine free_pcall (rless_spec (b.1 * a.2) (a.1 * b.2)) rfl rfl ?_
  simp -implicitDefEqProofs [↓gd_tt, ↓gd_ff, ↓gd_tf, ↓gd_ft]
theorem rshare_spec (u t : Int × Int) (hu : good u.1 u.2 = true) (ht : good t.1 t.2 = true) : PCall Try.prog 200 [encV u, encV t] (.d (encV (shareZ u t))) := by
  have gu := good_iff'.1 hu
  have gt := good_iff'.1 ht
  have q1 := partZ_bound gu.1 gt.1
  have q2 := partZ_bound gu.2 gt.2
  refine pcallS (fn := Try.f200) [] [(1, 500012)] mixed (bodyOf Try.f200) [.cell 4 203] Try.func200 rfl rfl (by decide) 20 rfl (by kernel_rfl) ?_
  simp -implicitDefEqProofs [↓gd_tt, ↓gd_ff, ↓gd_tf, ↓gd_ft, bodyOf, Try.f200, stripC, stripL, stripM, onsOf, upto, hintOf, freeOf, List.replicate]
  refine free_pcall (rpart_spec u.1 t.1 gu.1.1 gt.1.1) rfl rfl ?_
  simp -implicitDefEqProofs [↓gd_tt, ↓gd_ff, ↓gd_tf, ↓gd_ft]
  refine free_pcall (rpart_spec u.2 t.2 gu.2.1 gt.2.1) rfl rfl ?_
  simp -implicitDefEqProofs [↓gd_tt, ↓gd_ff, ↓gd_tf, ↓gd_ft]
  have hab := rabove_spec (partZ u.2 t.2) (partZ u.1 t.1) ⟨q2.1, q2.2.1⟩ ⟨q1.1, q1.2.1⟩
  refine ⟨?_, ?_⟩ <;>
  · refine callK_pcall hab rfl rfl ?_
    unfold shareZ
    by_cases h : (partZ u.1 t.1).1 * (partZ u.2 t.2).2 < (partZ u.2 t.2).1 * (partZ u.1 t.1).2
    · simp -implicitDefEqProofs [↓gd_tt, ↓gd_ff, ↓gd_tf, ↓gd_ft, h]
    · simp -implicitDefEqProofs [↓gd_tt, ↓gd_ff, ↓gd_tf, ↓gd_ft, h]
theorem bit_step (p w : Int) (j : Nat) : p * (w / 2 ^ j) = p * (w / 2 ^ (j + 1)) + p * (w / 2 ^ (j + 1)) + (if w / 2 ^ j % 2 = 1 then p else 0) := by
  have e : w / 2 ^ (j + 1) = w / 2 ^ j / 2 := by
    rw [Int.pow_succ, Int.ediv_ediv_of_nonneg (Int.pow_nonneg (by decide))]
  rw [e]
  generalize w / 2 ^ j = v
  have h : v = v / 2 + v / 2 + v % 2 := by omega
  have h2 : v % 2 = 0 ∨ v % 2 = 1 := by omega
  rcases h2 with k | k
  · rw [if_neg (by omega)]
    rw [k] at h
    rw [← Int.mul_add]
    generalize v / 2 = u at *
    rw [h]; simp
  · rw [if_pos k]
    rw [k] at h
    rw [← Int.mul_add]
    generalize v / 2 = u at *
    rw [h, Int.mul_add]; simp
theorem and1 {n : Int} (h : 0 ≤ n) (h2 : n < 9223372036854775808) : IntKind.i64.wrap (((n % 2 ^ IntKind.i64.bits).toNat &&& 1 % 2 ^ IntKind.i64.bits : Nat) : Int) = n % 2 := by
  have e0 : IntKind.i64.bits = 64 := rfl
  rw [e0]
  have e1 : (n % 2 ^ 64).toNat = n.toNat := by rw [Int.emod_eq_of_lt h (by omega)]
  have e2 : (1 % 2 ^ 64 : Nat) = 2 ^ 1 - 1 := by decide
  rw [e1, e2, Nat.and_two_pow_sub_one_eq_mod, i64id (by omega) (by omega)]
  omega
theorem rtimes3_spec (a b w : Int) (ha : 0 ≤ a ∧ a ≤ 1099511627776) (hb : 0 ≤ b ∧ b ≤ 1099511627776) (hw : 1 ≤ w ∧ w ≤ 1048576) : PCall Try.prog 201 [I a, I b, I w] (.d (wideR (a * b * w))) := by
  have h0 : 0 ≤ a * b := Int.mul_nonneg ha.1 hb.1
  have h1 : a * b ≤ 1208925819614629174706176 := by
    have := Int.mul_le_mul ha.2 hb.2 hb.1 (by decide)
    omega
  have ht := rtimes_spec a b (by omega) (by omega)
  generalize a * b = p at *
  have hS : ∀ j : Nat, 0 ≤ p * (w / 2 ^ j) ∧ p * (w / 2 ^ j) ≤ 1267650600228229401496703205376 := fun j => by
    have k1 : 0 ≤ w / 2 ^ j := Int.ediv_nonneg (by omega) (Int.pow_nonneg (by decide))
    have k2 : w / 2 ^ j ≤ 1048576 := Int.le_trans (Int.ediv_le_self _ (by omega)) hw.2
    have := Int.mul_le_mul h1 k2 k1 (by decide)
    exact ⟨Int.mul_nonneg h0 k1, by omega⟩
  have e21 : p * (w / 2097152) = 0 := by
    have : w / 2097152 = 0 := by omega
    rw [this]; simp
  refine pcallS (fn := Try.f201) [] [] mixed (bodyOf Try.f201) [.cell 6 181] Try.func201 rfl rfl (by decide) 27 rfl (by kernel_rfl) ?_
  simp -implicitDefEqProofs [↓gd_tt, ↓gd_ff, ↓gd_tf, ↓gd_ft, bodyOf, Try.f201, stripC, stripL, stripM, onsOf, upto, hintOf, freeOf, List.replicate]
  refine callK_pcall ht rfl rfl ?_
  simp -implicitDefEqProofs [↓gd_tt, ↓gd_ff, ↓gd_tf, ↓gd_ft, wideR]
  refine loopA mixed [false, false, false, false, false, false, false, false, false, true, false, false, false, false, true, true, true, true, true, true, true, true, true, true, true, true, true, true, true] (fun (j : Nat) => [(9, .d (I ((j : Int) - 1)))]) (fun (j : Nat) => [.var [.d (I 0), .d (N64 0)], .var [.d (I (p / 18446744073709551616)), .d (N64 (p % 18446744073709551616))], .var [.d (I (p * (w / 2 ^ j) / 18446744073709551616)), .d (N64 (p * (w / 2 ^ j) % 18446744073709551616))]]) (fun (j : Nat) => j ≤ 21) (fun (j : Nat) => j) (21) (Nat.le_refl _) (by simp [e21]) ?_
  rintro j hx
  rcases Nat.eq_zero_or_pos j with hj | hj
  · subst hj
    simp -implicitDefEqProofs [↓gd_tt, ↓gd_ff, ↓gd_tf, ↓gd_ft]
  obtain ⟨k, rfl⟩ : ∃ k, j = k + 1 := ⟨j - 1, by omega⟩
  have g1 : ((k + 1 : Nat) : Int) - 1 = k := by omega
  have hb2 := bit_step p w k
  have w1 : IntKind.i64.wrap ((k : Int) - 1) = (k : Int) - 1 := wrap_i64 (by omega) (by omega)
  have m1 : min k IntKind.i64.bits = k := by
    have : IntKind.i64.bits = 64 := rfl
    rw [this]; omega
  have hv0 : 0 ≤ w / 2 ^ k := Int.ediv_nonneg (by omega) (Int.pow_nonneg (by decide))
  have hv1 : w / 2 ^ k ≤ 1048576 := Int.le_trans (Int.ediv_le_self _ (by omega)) hw.2
  have f1 : w.fdiv (2 ^ k) = w / 2 ^ k := Int.fdiv_eq_ediv_of_nonneg _ (Int.pow_nonneg (by decide))
  have a1 := and1 hv0 (by omega)
  have s1 := hS (k + 1)
  have s0 := hS k
  have pl1 := rplus_spec (p * (w / 2 ^ (k + 1))) (p * (w / 2 ^ (k + 1))) (by omega) (by omega)
  have pl2 := rplus_spec (p * (w / 2 ^ (k + 1)) + p * (w / 2 ^ (k + 1))) p (by omega) (by omega)
  unfold wideR at pl1 pl2
  simp -implicitDefEqProofs [↓gd_tt, ↓gd_ff, ↓gd_tf, ↓gd_ft, g1, w1]
  refine callK_pcall pl1 rfl rfl ?_
  simp -implicitDefEqProofs [↓gd_tt, ↓gd_ff, ↓gd_tf, ↓gd_ft, g1, w1, m1, f1, a1]
  refine ⟨fun h => ?_, fun h => ⟨k, by omega, by omega, rfl, ?_⟩⟩
  · refine callK_pcall pl2 rfl rfl ?_
    simp -implicitDefEqProofs [↓gd_tt, ↓gd_ff, ↓gd_tf, ↓gd_ft, g1, w1, m1, f1, a1]
    refine ⟨k, by omega, by omega, rfl, ?_⟩
    rw [hb2, if_pos h]; exact ⟨rfl, rfl⟩
  · rw [hb2, if_neg h, Int.add_zero]; exact ⟨rfl, rfl⟩
theorem rless2_spec (a bb t : Int × Int) (wa wb : Int) (ha : good a.1 a.2 = true) (hb : good bb.1 bb.2 = true) (ht : good t.1 t.2 = true) (hwa : 1 ≤ wa ∧ wa ≤ 1048576) (hwb : 1 ≤ wb ∧ wb ≤ 1048576) :
    PCall Try.prog 154 [encV a, I wa, encV bb, I wb, encV t] (.d (I (ordZ a wa bb wb t))) := by
  obtain ⟨p1, p2, p3⟩ := shareZ_bound ha ht
  obtain ⟨q1, q2, q3⟩ := shareZ_bound hb ht
  have hsa := rshare_spec a t ha ht
  have hsb := rshare_spec bb t hb ht
  unfold ordZ
  generalize shareZ a t = f at *
  generalize shareZ bb t = g at *
  obtain ⟨fn, fd⟩ := f
  obtain ⟨gn, gd⟩ := g
  simp only at p1 p2 p3 q1 q2 q3
  refine pcallS (fn := Try.f154) [] [(1, 500008), (8, 500014)] mixed (bodyOf Try.f154) [.tmp 10] Try.func154 rfl rfl (by decide) 57 rfl (by kernel_rfl) ?_
  simp -implicitDefEqProofs [↓gd_tt, ↓gd_ff, ↓gd_tf, ↓gd_ft, bodyOf, Try.f154, stripC, stripL, stripM, onsOf, upto, hintOf, freeOf, List.replicate]
  refine free_pcall hsa rfl rfl ?_
  simp -implicitDefEqProofs [↓gd_tt, ↓gd_ff, ↓gd_tf, ↓gd_ft]
  refine free_pcall hsb rfl rfl ?_
  by_cases h1 : fd = 0 ∨ gd = 0
  · rw [if_pos h1]
    by_cases h2 : fd = 0
    · by_cases h3 : gd = 0
      · simp -implicitDefEqProofs [↓gd_tt, ↓gd_ff, ↓gd_tf, ↓gd_ft, h2, h3]
      · simp -implicitDefEqProofs [↓gd_tt, ↓gd_ff, ↓gd_tf, ↓gd_ft, h2, h3]
        omega
    · have h3 : gd = 0 := by omega
      simp -implicitDefEqProofs [↓gd_tt, ↓gd_ff, ↓gd_tf, ↓gd_ft, h2, h3]
      omega
  · have h2 : ¬ fd = 0 := by omega
    have h3 : ¬ gd = 0 := by omega
    rw [if_neg h1]
    simp -implicitDefEqProofs [↓gd_tt, ↓gd_ff, ↓gd_tf, ↓gd_ft, h2, h3]
    have t1 := rtimes3_spec fn gd wb p1 q2 hwb
    have t2 := rtimes3_spec gn fd wa q1 p2 hwa
    generalize fn * gd * wb = x at *
    generalize gn * fd * wa = y at *
    have k1 := rless_spec x y
    have k2 := rless_spec y x
    unfold wideR at *
    unfold sgn
    refine ⟨?_, ?_⟩ <;>
    · refine free_pcall t1 rfl rfl ?_
      simp -implicitDefEqProofs [↓gd_tt, ↓gd_ff, ↓gd_tf, ↓gd_ft, h2, h3]
      refine free_pcall t2 rfl rfl ?_
      simp -implicitDefEqProofs [↓gd_tt, ↓gd_ff, ↓gd_tf, ↓gd_ft, h2, h3]
      refine ⟨?_, ?_⟩ <;>
      · refine callK_pcall k1 rfl rfl ?_
        by_cases h4 : x < y
        · simp -implicitDefEqProofs [↓gd_tt, ↓gd_ff, ↓gd_tf, ↓gd_ft, h4]
        · simp -implicitDefEqProofs [↓gd_tt, ↓gd_ff, ↓gd_tf, ↓gd_ft, h4]
          refine callK_pcall k2 rfl rfl ?_
          by_cases h5 : y < x
          · simp -implicitDefEqProofs [↓gd_tt, ↓gd_ff, ↓gd_tf, ↓gd_ft, h5]
          · simp -implicitDefEqProofs [↓gd_tt, ↓gd_ff, ↓gd_tf, ↓gd_ft, h5]
end Go.Idl
