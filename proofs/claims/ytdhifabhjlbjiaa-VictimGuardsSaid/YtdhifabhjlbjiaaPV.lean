/- The program's numbers of 128 bits: Mul64, Product, Compare. -/
import Derived.Test.YtdhifabhjlbjiaaQF
import Derived.Test.YtdhifabhjlbjiaaMN
import Derived.Test.YtdhifabhjlbjiaaQP
import Derived.Test.YtdhifabhjlbjiaaIdlAny
set_option linter.all false
namespace Go.Idl
open Go.Proofs
set_option linter.unusedSimpArgs false
set_option linter.unusedVariables false
set_option maxRecDepth 8000
set_option maxHeartbeats 1000000

theorem mul64_spec (x y : Int) (hx : 0 ≤ x) (hx2 : x < 18446744073709551616) (hy : 0 ≤ y) (hy2 : y < 18446744073709551616) : PCall Try.prog 208 [N64 x, N64 y] (.tup [.d (N64 (x * y / 18446744073709551616)), .d (N64 (x * y % 18446744073709551616))]) := by
  have b1 := mul_bound (a := x / 4294967296) (b := y / 4294967296) (by omega) (by omega) (by omega) (by omega)
  have b2 := mul_bound (a := x / 4294967296) (b := y % 4294967296) (by omega) (by omega) (by omega) (by omega)
  have b3 := mul_bound (a := x % 4294967296) (b := y / 4294967296) (by omega) (by omega) (by omega) (by omega)
  have b4 := mul_bound (a := x % 4294967296) (b := y % 4294967296) (by omega) (by omega) (by omega) (by omega)
  have hh := half_hi hx hx2 hy hy2
  refine pcallS (fn := Try.f208) [] [] mixed (bodyOf Try.f208) [.tmp 4, .tmp 5] Try.func208 rfl rfl (by decide) 49 rfl (by kernel_rfl) ?_
  simp -implicitDefEqProofs [↓gd_tt, ↓gd_ff, ↓gd_tf, ↓gd_ft, bodyOf, Try.f208, stripC, stripL, stripM, onsOf, upto, hintOf, freeOf, List.replicate]
  have w1 : IntKind.u64.wrap (x / 4294967296 * (y / 4294967296)) = x / 4294967296 * (y / 4294967296) := u64id b1.1 (by omega)
  have w2 : IntKind.u64.wrap (x / 4294967296 * (y % 4294967296)) = x / 4294967296 * (y % 4294967296) := u64id b2.1 (by omega)
  have w3 : IntKind.u64.wrap (x % 4294967296 * (y / 4294967296)) = x % 4294967296 * (y / 4294967296) := u64id b3.1 (by omega)
  have w4 : IntKind.u64.wrap (x % 4294967296 * (y % 4294967296)) = x % 4294967296 * (y % 4294967296) := u64id b4.1 (by omega)
  have s1 : IntKind.u64.wrap (x / 4294967296 * (y % 4294967296) + x % 4294967296 * (y % 4294967296) / 4294967296) = x / 4294967296 * (y % 4294967296) + x % 4294967296 * (y % 4294967296) / 4294967296 := by
    generalize x / 4294967296 * (y % 4294967296) = p at *
    generalize x % 4294967296 * (y % 4294967296) = q at *
    exact u64id (by omega) (by omega)
  have t0 : 0 ≤ x / 4294967296 * (y % 4294967296) + x % 4294967296 * (y % 4294967296) / 4294967296 ∧ x / 4294967296 * (y % 4294967296) + x % 4294967296 * (y % 4294967296) / 4294967296 < 18446744073709551616 := by
    generalize x / 4294967296 * (y % 4294967296) = p at *
    generalize x % 4294967296 * (y % 4294967296) = q at *
    omega
  have a1 := and32' t0.1 t0.2
  have hfin : 0 ≤ x * y / 18446744073709551616 ∧ x * y / 18446744073709551616 < 18446744073709551616 := by
    have h0 := Int.mul_nonneg hx hy
    have h1 := Int.mul_le_mul (show x ≤ 18446744073709551615 by omega) (show y ≤ 18446744073709551615 by omega) hy (by decide)
    generalize x * y = z at *
    omega
  rw [← hh] at hfin ⊢
  generalize hT : x / 4294967296 * (y % 4294967296) + x % 4294967296 * (y % 4294967296) / 4294967296 = T at *
  have s2 : IntKind.u64.wrap (T % 4294967296 + x % 4294967296 * (y / 4294967296)) = T % 4294967296 + x % 4294967296 * (y / 4294967296) := by
    generalize x % 4294967296 * (y / 4294967296) = p at *
    exact u64id (by omega) (by omega)
  have s3 : IntKind.u64.wrap (x / 4294967296 * (y / 4294967296) + T / 4294967296) = x / 4294967296 * (y / 4294967296) + T / 4294967296 := by
    generalize x / 4294967296 * (y / 4294967296) = p at *
    exact u64id (by omega) (by omega)
  have s4 := u64id hfin.1 hfin.2
  simp -implicitDefEqProofs [↓gd_tt, ↓gd_ff, ↓gd_tf, ↓gd_ft, and32' hx hx2, and32' hy hy2, shr32, w1, w2, w3, w4, hT, s1, a1, s2, s3, s4]
  exact u64w _
theorem size_spec (a : Int) (h : In64 a) : PCall Try.prog 215 [I a] (.d (N64 a.natAbs)) := by
  refine pcallS (fn := Try.f215) [] [] mixed (bodyOf Try.f215) [.tmp 2] Try.func215 rfl rfl (by decide) 9 rfl (by kernel_rfl) ?_
  simp -implicitDefEqProofs [↓gd_tt, ↓gd_ff, ↓gd_tf, ↓gd_ft, bodyOf, Try.f215, stripC, stripL, stripM, onsOf, upto, hintOf, freeOf, List.replicate]
  obtain ⟨h1, h2⟩ := h
  refine ⟨fun e => ?_, fun e => ?_⟩
  · rw [u64w, u64w]; omega
  · rw [u64w]; omega
theorem product_spec (a b : Int) (ha : In64 a) (hb : In64 b) : PCall Try.prog 207 [I a, I b] (.d (wide (a * b))) := by
  have e1 : ((a * b).natAbs : Int) = (a.natAbs : Int) * (b.natAbs : Int) := by rw [Int.natAbs_mul]; simp
  refine pcallS (fn := Try.f207) [] [] mixed (bodyOf Try.f207) [.cell 4 198] Try.func207 rfl rfl (by decide) 27 rfl (by kernel_rfl) ?_
  simp -implicitDefEqProofs [↓gd_tt, ↓gd_ff, ↓gd_tf, ↓gd_ft, bodyOf, Try.f207, stripC, stripL, stripM, onsOf, upto, hintOf, freeOf, List.replicate]
  refine callK_pcall (size_spec a ha) rfl rfl ?_
  simp -implicitDefEqProofs [↓gd_tt, ↓gd_ff, ↓gd_tf, ↓gd_ft]
  refine callK_pcall (size_spec b hb) rfl rfl ?_
  simp -implicitDefEqProofs [↓gd_tt, ↓gd_ff, ↓gd_tf, ↓gd_ft]
  refine callK_pcall (mul64_spec a.natAbs b.natAbs (by omega) (by omega) (by omega) (by omega)) rfl rfl ?_
  have hP : 0 ≤ (a.natAbs : Int) * (b.natAbs : Int) ∧ (a.natAbs : Int) * (b.natAbs : Int) ≤ 85070591730234615865843651857942052864 := by
    refine ⟨Int.mul_nonneg (by omega) (by omega), ?_⟩
    obtain ⟨ha1, ha2⟩ := ha
    obtain ⟨hb1, hb2⟩ := hb
    have := Int.mul_le_mul (show (a.natAbs : Int) ≤ 9223372036854775808 by omega) (show (b.natAbs : Int) ≤ 9223372036854775808 by omega) (by omega) (by decide)
    omega
  have hs : decide (a * b < 0) = (!decide (a < 0 ↔ b < 0) && !decide ((a.natAbs : Int) * (b.natAbs : Int) = 0)) := by
    rw [← e1]
    rcases Int.lt_trichotomy a 0 with ha0 | ha0 | ha0 <;> rcases Int.lt_trichotomy b 0 with hb0 | hb0 | hb0
    · have := Int.mul_pos_of_neg_of_neg ha0 hb0
      simp [ha0, hb0]; omega
    · subst hb0; simp
    · have := Int.mul_neg_of_neg_of_pos ha0 hb0
      have h1 : ¬ b < 0 := by omega
      simp [ha0, h1, this]; omega
    · subst ha0; simp
    · subst ha0; simp
    · subst ha0; simp
    · have := Int.mul_neg_of_pos_of_neg ha0 hb0
      have h1 : ¬ a < 0 := by omega
      simp [hb0, h1, this]; omega
    · subst hb0; simp
    · have := Int.mul_pos ha0 hb0
      have h1 : ¬ a < 0 := by omega
      have h2 : ¬ b < 0 := by omega
      simp [h1, h2]; omega
  have hw : wide (a * b) = .agg [N64 ((a.natAbs : Int) * (b.natAbs : Int) / 18446744073709551616), N64 ((a.natAbs : Int) * (b.natAbs : Int) % 18446744073709551616), .bool (decide (a * b < 0))] := by
    unfold wide; rw [e1]
  rw [hw, hs]
  generalize (a.natAbs : Int) * (b.natAbs : Int) = z at *
  have ho := or_zero (a := z / 18446744073709551616) (b := z % 18446744073709551616) (by omega) (by omega) (by omega) (by omega)
  simp -implicitDefEqProofs [↓gd_tt, ↓gd_ff, ↓gd_tf, ↓gd_ft, ho]
  refine ⟨fun h => ?_, fun h h2 => absurd h h2⟩
  have hzz : (!decide (z / 18446744073709551616 = 0) || !decide (z % 18446744073709551616 = 0)) = !decide (z = 0) := by
    by_cases hz : z = 0
    · subst hz; simp
    · by_cases h1 : z / 18446744073709551616 = 0
      · have h2 : ¬ z % 18446744073709551616 = 0 := by omega
        simp [hz, h2]
      · simp [hz, h1]
  have hne : (!(decide (a < 0) == decide (b < 0))) = true := by
    by_cases h1 : a < 0 <;> by_cases h2 : b < 0 <;> simp_all
  rw [hzz, hne]; simp
theorem compare_spec (x y : Int) (hx : x.natAbs < 340282366920938463463374607431768211456) (hy : y.natAbs < 340282366920938463463374607431768211456) : PCall Try.prog 194 [wide x, wide y] (.d (I (sgn x y))) := by
  unfold wide
  refine pcallS (fn := Try.f194) [] [] mixed (bodyOf Try.f194) [.tmp 4] Try.func194 rfl rfl (by decide) 38 rfl (by kernel_rfl) ?_
  simp -implicitDefEqProofs [↓gd_tt, ↓gd_ff, ↓gd_tf, ↓gd_ft, bodyOf, Try.f194, stripC, stripL, stripM, onsOf, upto, hintOf, freeOf, List.replicate]
  unfold sgn
  (repeat' (first | apply And.intro | intro _)) <;> (try split) <;> (try split) <;> omega

/-- a part of a whole -/
def partZ (x y : Int) : Int × Int := if y = 0 then (if 0 < x then (1, 0) else (x, 1)) else (x, y)
/-- the dominant share -/
def shareZ (u t : Int × Int) : Int × Int := if (partZ u.1 t.1).1 * (partZ u.2 t.2).2 < (partZ u.2 t.2).1 * (partZ u.1 t.1).2 then partZ u.2 t.2 else partZ u.1 t.1
/-- whose weighted share is lesser -/
def ordZ (a : Int × Int) (wa : Int) (b : Int × Int) (wb : Int) (t : Int × Int) : Int :=
  if (shareZ a t).2 = 0 ∨ (shareZ b t).2 = 0 then min (shareZ b t).2 1 - min (shareZ a t).2 1
  else sgn ((shareZ a t).1 * (shareZ b t).2 * wb) ((shareZ b t).1 * (shareZ a t).2 * wa)
theorem good_iff' {a b : Int} : good a b = true ↔ (0 ≤ a ∧ a ≤ 1099511627776) ∧ 0 ≤ b ∧ b ≤ 1099511627776 := by
  simp [good, and_assoc]
theorem partZ_bound {x y : Int} (hx : 0 ≤ x ∧ x ≤ 1099511627776) (hy : 0 ≤ y ∧ y ≤ 1099511627776) : (0 ≤ (partZ x y).1 ∧ (partZ x y).1 ≤ 1099511627776) ∧ (0 ≤ (partZ x y).2 ∧ (partZ x y).2 ≤ 1099511627776) ∧ (0 < (partZ x y).1 ∨ 0 < (partZ x y).2) := by
  unfold partZ
  split
  · split <;> simp only <;> omega
  · simp only; omega
theorem in64_of {x : Int} (h : 0 ≤ x ∧ x ≤ 1099511627776) : In64 x := ⟨by omega, by omega⟩
theorem prod_small {x y : Int} (hx : -1 ≤ x ∧ x ≤ 1099511627776) (hy : 0 ≤ y ∧ y ≤ 1099511627776) : (x * y).natAbs < 340282366920938463463374607431768211456 := by
  rw [Int.natAbs_mul]
  have h := Nat.mul_le_mul (show x.natAbs ≤ 1099511627776 by omega) (show y.natAbs ≤ 1099511627776 by omega)
  omega
theorem sgn_pos {x y : Int} : (0 < sgn x y) = (y < x) := by
  unfold sgn
  apply propext
  split
  · constructor <;> intro h <;> omega
  · split
    · constructor <;> intro h <;> omega
    · constructor <;> intro h <;> omega
theorem share_spec (u t : Int × Int) (hu : good u.1 u.2 = true) (ht : good t.1 t.2 = true) : PCall Try.prog 193 [.agg [I u.1, I u.2], .agg [I t.1, I t.2]] (.tup [.d (I (shareZ u t).1), .d (I (shareZ u t).2)]) := by
  have gu := good_iff'.1 hu
  have gt := good_iff'.1 ht
  have q1 := partZ_bound gu.1 gt.1
  have q2 := partZ_bound gu.2 gt.2
  refine pcallS (fn := Try.f193) [] [(11, 1004)] mixed (bodyOf Try.f193) [.cell 4 2, .cell 5 2] Try.func193 rfl rfl (by decide) 31 rfl (by kernel_rfl) ?_
  simp -implicitDefEqProofs [↓gd_tt, ↓gd_ff, ↓gd_tf, ↓gd_ft, bodyOf, Try.f193, stripC, stripL, stripM, onsOf, upto, hintOf, freeOf, List.replicate]
  refine vparts_spec (u.1, u.2) (t.1, t.2) _ _ ?_
  simp -implicitDefEqProofs [↓gd_tt, ↓gd_ff, ↓gd_tf, ↓gd_ft]
  refine rangeY mixed (vparts_yields (u.1, u.2) (t.1, t.2) 4 5) (by simp) (by simp) (by simp) (by simp) (by simp) (by simp) (fun k hp => ∃ n d, hp = [.var [.d (I u.1), .d (I u.2)], .var [.d (I t.1), .d (I t.2)], .var [.d (I n)], .var [.d (I d)], .var [.d (I u.1), .d (I u.2)], .var [.d (I t.1), .d (I t.2)]] ∧ (k = 0 → n = -1 ∧ d = 1) ∧ (k = 1 → (n, d) = partZ u.1 t.1) ∧ (k = 2 → (n, d) = shareZ u t)) ⟨-1, 1, rfl, by simp, by simp, by simp⟩ (by rintro k hp ⟨n, d, rfl, _⟩; simp) ?_ ?_
  · rintro k hp ⟨n, d, rfl, h0, h1, h2⟩ hi L0 L1
    have : k = 0 ∨ k = 1 := by simp at hi; omega
    rcases this with rfl | rfl
    · obtain ⟨rfl, rfl⟩ := h0 rfl
      by_cases c1 : t.1 = 0
      · by_cases c2 : 0 < u.1
        · have hp : partZ u.1 t.1 = (1, 0) := by simp [partZ, c1, c2]
          rw [hp] at q1
          simp only at q1
          simp -implicitDefEqProofs [↓gd_tt, ↓gd_ff, ↓gd_tf, ↓gd_ft, c1, c2]
          refine free_pcall (product_spec (1) (1) ⟨by omega, by omega⟩ ⟨by omega, by omega⟩) rfl rfl ?_
          simp -implicitDefEqProofs [↓gd_tt, ↓gd_ff, ↓gd_tf, ↓gd_ft, c1, c2]
          refine free_pcall (product_spec ((-1)) (0) ⟨by omega, by omega⟩ ⟨by omega, by omega⟩) rfl rfl ?_
          simp -implicitDefEqProofs [↓gd_tt, ↓gd_ff, ↓gd_tf, ↓gd_ft, c1, c2]
          refine free_pcall (compare_spec ((1) * (1)) (((-1)) * (0)) (prod_small (by omega) (by omega)) (prod_small (by omega) (by omega))) (by simp) rfl ?_
          have hg : -1 * (0) < (1) * 1 := by omega
          have hsg : sgn ((1) * 1) (-1 * (0)) = 1 := by unfold sgn; rw [if_neg (by omega), if_pos hg]
          rw [hsg]
          simp -implicitDefEqProofs [↓gd_tt, ↓gd_ff, ↓gd_tf, ↓gd_ft, hp]
          rw [c1] at hp
          exact ⟨1, 0, ⟨rfl, rfl⟩, hp.symm⟩
        · have hp : partZ u.1 t.1 = (u.1, 1) := by simp [partZ, c1, c2]
          rw [hp] at q1
          simp only at q1
          simp -implicitDefEqProofs [↓gd_tt, ↓gd_ff, ↓gd_tf, ↓gd_ft, c1, c2]
          refine free_pcall (product_spec (u.1) (1) ⟨by omega, by omega⟩ ⟨by omega, by omega⟩) rfl rfl ?_
          simp -implicitDefEqProofs [↓gd_tt, ↓gd_ff, ↓gd_tf, ↓gd_ft, c1, c2]
          refine free_pcall (product_spec ((-1)) (1) ⟨by omega, by omega⟩ ⟨by omega, by omega⟩) rfl rfl ?_
          simp -implicitDefEqProofs [↓gd_tt, ↓gd_ff, ↓gd_tf, ↓gd_ft, c1, c2]
          refine free_pcall (compare_spec ((u.1) * (1)) (((-1)) * (1)) (prod_small (by omega) (by omega)) (prod_small (by omega) (by omega))) (by simp) rfl ?_
          have hg : -1 * (1) < (u.1) * 1 := by omega
          have hsg : sgn ((u.1) * 1) (-1 * (1)) = 1 := by unfold sgn; rw [if_neg (by omega), if_pos hg]
          rw [hsg]
          simp -implicitDefEqProofs [↓gd_tt, ↓gd_ff, ↓gd_tf, ↓gd_ft, hp]
          rw [c1] at hp
          exact ⟨u.1, 1, ⟨rfl, rfl⟩, hp.symm⟩
      · have hp : partZ u.1 t.1 = (u.1, t.1) := by simp [partZ, c1]
        rw [hp] at q1
        simp only at q1
        simp -implicitDefEqProofs [↓gd_tt, ↓gd_ff, ↓gd_tf, ↓gd_ft, c1]
        refine free_pcall (product_spec (u.1) (1) ⟨by omega, by omega⟩ ⟨by omega, by omega⟩) rfl rfl ?_
        simp -implicitDefEqProofs [↓gd_tt, ↓gd_ff, ↓gd_tf, ↓gd_ft, c1]
        refine free_pcall (product_spec ((-1)) (t.1) ⟨by omega, by omega⟩ ⟨by omega, by omega⟩) rfl rfl ?_
        simp -implicitDefEqProofs [↓gd_tt, ↓gd_ff, ↓gd_tf, ↓gd_ft, c1]
        refine free_pcall (compare_spec ((u.1) * (1)) (((-1)) * (t.1)) (prod_small (by omega) (by omega)) (prod_small (by omega) (by omega))) (by simp) rfl ?_
        have hg : -1 * (t.1) < (u.1) * 1 := by omega
        have hsg : sgn ((u.1) * 1) (-1 * (t.1)) = 1 := by unfold sgn; rw [if_neg (by omega), if_pos hg]
        rw [hsg]
        simp -implicitDefEqProofs [↓gd_tt, ↓gd_ff, ↓gd_tf, ↓gd_ft, hp]
    · have h1 := h1 rfl
      have hn1 : n = (partZ u.1 t.1).1 := by rw [← h1]
      have hd1 : d = (partZ u.1 t.1).2 := by rw [← h1]
      rw [← hn1, ← hd1] at q1
      by_cases c1 : t.2 = 0
      · by_cases c2 : 0 < u.2
        · have hp : partZ u.2 t.2 = (1, 0) := by simp [partZ, c1, c2]
          rw [hp] at q2
          simp only at q2
          simp -implicitDefEqProofs [↓gd_tt, ↓gd_ff, ↓gd_tf, ↓gd_ft, c1, c2]
          refine free_pcall (product_spec (1) (d) ⟨by omega, by omega⟩ ⟨by omega, by omega⟩) rfl rfl ?_
          simp -implicitDefEqProofs [↓gd_tt, ↓gd_ff, ↓gd_tf, ↓gd_ft, c1, c2]
          refine free_pcall (product_spec (n) (0) ⟨by omega, by omega⟩ ⟨by omega, by omega⟩) rfl rfl ?_
          simp -implicitDefEqProofs [↓gd_tt, ↓gd_ff, ↓gd_tf, ↓gd_ft, c1, c2]
          refine free_pcall (compare_spec ((1) * (d)) ((n) * (0)) (prod_small (by omega) (by omega)) (prod_small (by omega) (by omega))) (by simp) rfl ?_
          have hsz : shareZ u t = if n * (0) < (1) * d then (1, 0) else (n, d) := by unfold shareZ; rw [← h1, hp]
          simp -implicitDefEqProofs [↓gd_tt, ↓gd_ff, ↓gd_tf, ↓gd_ft, sgn_pos]
          refine ⟨fun e => ⟨1, 0, ⟨rfl, rfl⟩, ?_⟩, fun e => ⟨n, d, ⟨rfl, rfl⟩, ?_⟩⟩
          · rw [hsz, if_pos (by simpa using e)]
          · rw [hsz, if_neg (by simpa using e)]
        · have hp : partZ u.2 t.2 = (u.2, 1) := by simp [partZ, c1, c2]
          rw [hp] at q2
          simp only at q2
          simp -implicitDefEqProofs [↓gd_tt, ↓gd_ff, ↓gd_tf, ↓gd_ft, c1, c2]
          refine free_pcall (product_spec (u.2) (d) ⟨by omega, by omega⟩ ⟨by omega, by omega⟩) rfl rfl ?_
          simp -implicitDefEqProofs [↓gd_tt, ↓gd_ff, ↓gd_tf, ↓gd_ft, c1, c2]
          refine free_pcall (product_spec (n) (1) ⟨by omega, by omega⟩ ⟨by omega, by omega⟩) rfl rfl ?_
          simp -implicitDefEqProofs [↓gd_tt, ↓gd_ff, ↓gd_tf, ↓gd_ft, c1, c2]
          refine free_pcall (compare_spec ((u.2) * (d)) ((n) * (1)) (prod_small (by omega) (by omega)) (prod_small (by omega) (by omega))) (by simp) rfl ?_
          have hsz : shareZ u t = if n * (1) < (u.2) * d then (u.2, 1) else (n, d) := by unfold shareZ; rw [← h1, hp]
          simp -implicitDefEqProofs [↓gd_tt, ↓gd_ff, ↓gd_tf, ↓gd_ft, sgn_pos]
          refine ⟨fun e => ⟨u.2, 1, ⟨rfl, rfl⟩, ?_⟩, fun e => ⟨n, d, ⟨rfl, rfl⟩, ?_⟩⟩
          · rw [hsz, if_pos (by simpa using e)]
          · rw [hsz, if_neg (by simpa using e)]
      · have hp : partZ u.2 t.2 = (u.2, t.2) := by simp [partZ, c1]
        rw [hp] at q2
        simp only at q2
        simp -implicitDefEqProofs [↓gd_tt, ↓gd_ff, ↓gd_tf, ↓gd_ft, c1]
        refine free_pcall (product_spec (u.2) (d) ⟨by omega, by omega⟩ ⟨by omega, by omega⟩) rfl rfl ?_
        simp -implicitDefEqProofs [↓gd_tt, ↓gd_ff, ↓gd_tf, ↓gd_ft, c1]
        refine free_pcall (product_spec (n) (t.2) ⟨by omega, by omega⟩ ⟨by omega, by omega⟩) rfl rfl ?_
        simp -implicitDefEqProofs [↓gd_tt, ↓gd_ff, ↓gd_tf, ↓gd_ft, c1]
        refine free_pcall (compare_spec ((u.2) * (d)) ((n) * (t.2)) (prod_small (by omega) (by omega)) (prod_small (by omega) (by omega))) (by simp) rfl ?_
        have hsz : shareZ u t = if n * (t.2) < (u.2) * d then (u.2, t.2) else (n, d) := by unfold shareZ; rw [← h1, hp]
        simp -implicitDefEqProofs [↓gd_tt, ↓gd_ff, ↓gd_tf, ↓gd_ft, sgn_pos]
        refine ⟨fun e => ⟨u.2, t.2, ⟨rfl, rfl⟩, ?_⟩, fun e => ⟨n, d, ⟨rfl, rfl⟩, ?_⟩⟩
        · rw [hsz, if_pos (by simpa using e)]
        · rw [hsz, if_neg (by simpa using e)]
  · rintro hp' ⟨n, d, rfl, h0, h1, h2⟩
    have h2 := h2 rfl
    simp -implicitDefEqProofs [↓gd_tt, ↓gd_ff, ↓gd_tf, ↓gd_ft, ← h2]
    refine anyGo_B ?_
    simp -implicitDefEqProofs [↓gd_tt, ↓gd_ff, ↓gd_tf, ↓gd_ft, ag_zero, ag_succ, al_nil, al_cons, List.replicate]

theorem times_spec (a b w : Int) (ha : 0 ≤ a ∧ a ≤ 1099511627776) (hb : 0 ≤ b ∧ b ≤ 1099511627776) (hw : 1 ≤ w ∧ w ≤ 1048576) : PCall Try.prog 195 [I a, I b, I w] (.d (wide (a * b * w))) := by
  have h0 : 0 ≤ a * b := Int.mul_nonneg ha.1 hb.1
  have h1 : a * b ≤ 1208925819614629174706176 := by
    have := Int.mul_le_mul ha.2 hb.2 hb.1 (by decide)
    omega
  have hn : ((a * b).natAbs : Int) = a * b := by omega
  have hlt : ¬ a * b < 0 := by omega
  have h2 : 0 ≤ a * b * w := Int.mul_nonneg h0 (by omega)
  have hn2 : ((a * b * w).natAbs : Int) = a * b * w := by omega
  have hlt2 : ¬ a * b * w < 0 := by omega
  have w1 : IntKind.u64.wrap w = w := u64id (by omega) (by omega)
  generalize hz : a * b = z at *
  have g1 : 0 ≤ z / 18446744073709551616 * w ∧ z / 18446744073709551616 * w ≤ 65536 * 1048576 := by
    refine ⟨Int.mul_nonneg (by omega) (by omega), Int.mul_le_mul (by omega) hw.2 (by omega) (by decide)⟩
  have g2 : 0 ≤ z % 18446744073709551616 * w ∧ z % 18446744073709551616 * w ≤ 18446744073709551615 * 1048576 := by
    refine ⟨Int.mul_nonneg (by omega) (by omega), Int.mul_le_mul (by omega) hw.2 (by omega) (by decide)⟩
  have g3 : z * w = z / 18446744073709551616 * w * 18446744073709551616 + z % 18446744073709551616 * w := by
    have e : z = z / 18446744073709551616 * 18446744073709551616 + z % 18446744073709551616 := by omega
    generalize z / 18446744073709551616 = q at *
    generalize z % 18446744073709551616 = r at *
    subst e
    grind
  have w2 : IntKind.u64.wrap (z / 18446744073709551616 * w) = z / 18446744073709551616 * w := by
    generalize z / 18446744073709551616 * w = q at *
    exact u64id (by omega) (by omega)
  have hval : wide (z * w) = .agg [N64 (z % 18446744073709551616 * w / 18446744073709551616 + z / 18446744073709551616 * w), N64 (z % 18446744073709551616 * w % 18446744073709551616), .bool false] := by
    unfold wide
    rw [hn2, g3]
    have e1 : (z / 18446744073709551616 * w * 18446744073709551616 + z % 18446744073709551616 * w) / 18446744073709551616 = z % 18446744073709551616 * w / 18446744073709551616 + z / 18446744073709551616 * w := by
      generalize z / 18446744073709551616 * w = q at *
      generalize z % 18446744073709551616 * w = r at *
      omega
    have e2 : (z / 18446744073709551616 * w * 18446744073709551616 + z % 18446744073709551616 * w) % 18446744073709551616 = z % 18446744073709551616 * w % 18446744073709551616 := by
      generalize z / 18446744073709551616 * w = q at *
      generalize z % 18446744073709551616 * w = r at *
      omega
    rw [e1, e2, ← g3]
    simp [hlt2]
  have w3 : IntKind.u64.wrap (z % 18446744073709551616 * w / 18446744073709551616 + z / 18446744073709551616 * w) = z % 18446744073709551616 * w / 18446744073709551616 + z / 18446744073709551616 * w := by
    generalize z / 18446744073709551616 * w = q at *
    generalize z % 18446744073709551616 * w = r at *
    exact u64id (by omega) (by omega)
  have hwz : wide z = .agg [N64 (z / 18446744073709551616), N64 (z % 18446744073709551616), .bool false] := by
    unfold wide; rw [hn]; simp [hlt]
  rw [hval]
  have hpr := product_spec a b (in64_of ha) (in64_of hb)
  rw [hz, hwz] at hpr
  refine pcallS (fn := Try.f195) [] [] mixed (bodyOf Try.f195) [.cell 6 198] Try.func195 rfl rfl (by decide) 27 rfl (by kernel_rfl) ?_
  simp -implicitDefEqProofs [↓gd_tt, ↓gd_ff, ↓gd_tf, ↓gd_ft, bodyOf, Try.f195, stripC, stripL, stripM, onsOf, upto, hintOf, freeOf, List.replicate]
  refine callK_pcall hpr rfl rfl ?_
  simp -implicitDefEqProofs [↓gd_tt, ↓gd_ff, ↓gd_tf, ↓gd_ft, w1]
  refine callK_pcall (mul64_spec (z % 18446744073709551616) w (by omega) (by omega) (by omega) (by omega)) rfl rfl ?_
  simp -implicitDefEqProofs [↓gd_tt, ↓gd_ff, ↓gd_tf, ↓gd_ft, w1, w2, w3]
theorem shareZ_bound {u t : Int × Int} (hu : good u.1 u.2 = true) (ht : good t.1 t.2 = true) : (0 ≤ (shareZ u t).1 ∧ (shareZ u t).1 ≤ 1099511627776) ∧ (0 ≤ (shareZ u t).2 ∧ (shareZ u t).2 ≤ 1099511627776) ∧ (0 < (shareZ u t).1 ∨ 0 < (shareZ u t).2) := by
  have gu := good_iff'.1 hu
  have gt := good_iff'.1 ht
  unfold shareZ
  split
  · exact partZ_bound gu.2 gt.2
  · exact partZ_bound gu.1 gt.1
theorem three_small {a b w : Int} (ha : 0 ≤ a ∧ a ≤ 1099511627776) (hb : 0 ≤ b ∧ b ≤ 1099511627776) (hw : 1 ≤ w ∧ w ≤ 1048576) : (a * b * w).natAbs < 340282366920938463463374607431768211456 := by
  rw [Int.natAbs_mul, Int.natAbs_mul]
  have h := Nat.mul_le_mul (Nat.mul_le_mul (show a.natAbs ≤ 1099511627776 by omega) (show b.natAbs ≤ 1099511627776 by omega)) (show w.natAbs ≤ 1048576 by omega)
  omega
theorem order_spec (a b t : Int × Int) (wa wb : Int) (ha : good a.1 a.2 = true) (hb : good b.1 b.2 = true) (ht : good t.1 t.2 = true) (hwa : 1 ≤ wa ∧ wa ≤ 1048576) (hwb : 1 ≤ wb ∧ wb ≤ 1048576) :
    PCall Try.prog 141 [.agg [I a.1, I a.2], I wa, .agg [I b.1, I b.2], I wb, .agg [I t.1, I t.2]] (.d (I (ordZ a wa b wb t))) := by
  have ba := shareZ_bound ha ht
  have bb := shareZ_bound hb ht
  refine pcallS (fn := Try.f141) [] [] mixed (bodyOf Try.f141) [.tmp 10] Try.func141 rfl rfl (by decide) 42 rfl (by kernel_rfl) ?_
  simp -implicitDefEqProofs [↓gd_tt, ↓gd_ff, ↓gd_tf, ↓gd_ft, bodyOf, Try.f141, stripC, stripL, stripM, onsOf, upto, hintOf, freeOf, List.replicate]
  refine callK_pcall (share_spec a t ha ht) rfl rfl ?_
  simp -implicitDefEqProofs [↓gd_tt, ↓gd_ff, ↓gd_tf, ↓gd_ft]
  refine callK_pcall (share_spec b t hb ht) rfl rfl ?_
  unfold ordZ
  generalize (shareZ a t).1 = an at *
  generalize (shareZ a t).2 = ad at *
  generalize (shareZ b t).1 = bn at *
  generalize (shareZ b t).2 = bd at *
  by_cases h1 : ad = 0
  · simp -implicitDefEqProofs [↓gd_tt, ↓gd_ff, ↓gd_tf, ↓gd_ft, h1]
    split <;> (rw [wrap_i64 (by omega) (by omega)]; omega)
  · by_cases h2 : bd = 0
    · simp -implicitDefEqProofs [↓gd_tt, ↓gd_ff, ↓gd_tf, ↓gd_ft, h1, h2]
      split <;> (rw [wrap_i64 (by omega) (by omega)]; omega)
    · simp -implicitDefEqProofs [↓gd_tt, ↓gd_ff, ↓gd_tf, ↓gd_ft, h1, h2]
      refine callK_pcall (times_spec an bd wb ba.1 bb.2.1 hwb) rfl rfl ?_
      simp -implicitDefEqProofs [↓gd_tt, ↓gd_ff, ↓gd_tf, ↓gd_ft]
      refine callK_pcall (times_spec bn ad wa bb.1 ba.2.1 hwa) rfl rfl ?_
      simp -implicitDefEqProofs [↓gd_tt, ↓gd_ff, ↓gd_tf, ↓gd_ft]
      refine callK_pcall (compare_spec _ _ (three_small ba.1 bb.2.1 hwb) (three_small bb.1 ba.2.1 hwa)) rfl rfl ?_
      simp -implicitDefEqProofs [↓gd_tt, ↓gd_ff, ↓gd_tf, ↓gd_ft]
end Go.Idl
