/- Numbers of 128 bits as plain data: products by halves. No program here. -/
import Derived.Test.YtdhifabhjlbjiaaMQall
set_option linter.all false
namespace Go.Idl
set_option linter.unusedSimpArgs false
set_option linter.unusedVariables false

abbrev N64 (n : Int) : D := .int .u64 n
theorem u64w (n : Int) : IntKind.u64.wrap n = n % 18446744073709551616 := rfl
theorem u64id {n : Int} (h : 0 ≤ n) (h2 : n < 18446744073709551616) : IntKind.u64.wrap n = n := by
  rw [u64w]; exact Int.emod_eq_of_lt h h2
theorem and32' {n : Int} (h : 0 ≤ n) (h2 : n < 18446744073709551616) : IntKind.u64.wrap (((n % 2 ^ IntKind.u64.bits).toNat &&& 4294967295 % 2 ^ IntKind.u64.bits : Nat) : Int) = n % 4294967296 := by
  have e0 : IntKind.u64.bits = 64 := rfl
  rw [e0]
  have e1 : (n % 2 ^ 64).toNat = n.toNat := by rw [Int.emod_eq_of_lt h (by simpa using h2)]
  have e2 : (4294967295 % 2 ^ 64 : Nat) = 2 ^ 32 - 1 := by decide
  rw [e1, e2, Nat.and_two_pow_sub_one_eq_mod, u64id (by omega) (by omega)]
  omega
theorem or_zero {a b : Int} (ha : 0 ≤ a) (ha2 : a < 18446744073709551616) (hb : 0 ≤ b) (hb2 : b < 18446744073709551616) : (IntKind.u64.wrap (((a % 2 ^ IntKind.u64.bits).toNat ||| (b % 2 ^ IntKind.u64.bits).toNat : Nat) : Int) = 0) = (a = 0 ∧ b = 0) := by
  have e0 : IntKind.u64.bits = 64 := rfl
  rw [e0]
  have e1 : (a % 2 ^ 64).toNat = a.toNat := by rw [Int.emod_eq_of_lt ha (by simpa using ha2)]
  have e2 : (b % 2 ^ 64).toNat = b.toNat := by rw [Int.emod_eq_of_lt hb (by simpa using hb2)]
  have e3 : a.toNat ||| b.toNat < 2 ^ 64 := Nat.or_lt_two_pow (by omega) (by omega)
  rw [e1, e2, u64id (by omega) (by omega)]
  apply propext
  constructor
  · intro h
    have h' : a.toNat ||| b.toNat = 0 := by omega
    rw [Nat.or_eq_zero_iff] at h'
    omega
  · rintro ⟨rfl, rfl⟩; simp
theorem shr32 (n : Int) : n.fdiv (2 ^ min 32 IntKind.u64.bits) = n / 4294967296 := by
  have e : (2 : Int) ^ min 32 IntKind.u64.bits = 4294967296 := by decide
  rw [e]; exact Int.fdiv_eq_ediv_of_nonneg _ (by decide)
theorem mul_bound {a b : Int} (ha : 0 ≤ a) (ha2 : a ≤ 4294967295) (hb : 0 ≤ b) (hb2 : b ≤ 4294967295) : 0 ≤ a * b ∧ a * b ≤ 18446744065119617025 := by
  refine ⟨Int.mul_nonneg ha hb, ?_⟩
  have := Int.mul_le_mul ha2 hb2 hb (by omega)
  omega
/-- the upper half of a product -/
theorem half_hi {x y : Int} (hx : 0 ≤ x) (hx2 : x < 18446744073709551616) (hy : 0 ≤ y) (hy2 : y < 18446744073709551616) :
    (x / 4294967296) * (y / 4294967296) + ((x / 4294967296) * (y % 4294967296) + (x % 4294967296) * (y % 4294967296) / 4294967296) / 4294967296 + (((x / 4294967296) * (y % 4294967296) + (x % 4294967296) * (y % 4294967296) / 4294967296) % 4294967296 + (x % 4294967296) * (y / 4294967296)) / 4294967296 = x * y / 18446744073709551616 := by
  have ex : x = (x / 4294967296) * 4294967296 + x % 4294967296 := by omega
  have ey : y = (y / 4294967296) * 4294967296 + y % 4294967296 := by omega
  have e : x * y = (x / 4294967296) * (y / 4294967296) * 18446744073709551616 + ((x / 4294967296) * (y % 4294967296) + (x % 4294967296) * (y / 4294967296)) * 4294967296 + (x % 4294967296) * (y % 4294967296) := by
    generalize hx1 : x / 4294967296 = x1 at ex
    generalize hx0 : x % 4294967296 = x0 at ex
    generalize hy1 : y / 4294967296 = y1 at ey
    generalize hy0 : y % 4294967296 = y0 at ey
    subst ex; subst ey
    grind
  rw [e]
  have b1 := mul_bound (a := x / 4294967296) (b := y / 4294967296) (by omega) (by omega) (by omega) (by omega)
  have b2 := mul_bound (a := x / 4294967296) (b := y % 4294967296) (by omega) (by omega) (by omega) (by omega)
  have b3 := mul_bound (a := x % 4294967296) (b := y / 4294967296) (by omega) (by omega) (by omega) (by omega)
  have b4 := mul_bound (a := x % 4294967296) (b := y % 4294967296) (by omega) (by omega) (by omega) (by omega)
  generalize (x / 4294967296) * (y / 4294967296) = p1 at *
  generalize (x / 4294967296) * (y % 4294967296) = p2 at *
  generalize (x % 4294967296) * (y / 4294967296) = p3 at *
  generalize (x % 4294967296) * (y % 4294967296) = p4 at *
  clear e ex ey
  omega
/-- a number of 128 bits: its size in two words, and whether it is below 0 -/
def wide (z : Int) : D := .agg [N64 ((z.natAbs : Int) / 18446744073709551616), N64 ((z.natAbs : Int) % 18446744073709551616), .bool (decide (z < 0))]
def sgn (x y : Int) : Int := if x < y then -1 else if y < x then 1 else 0
end Go.Idl
