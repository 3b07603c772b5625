/- The calculus over the mini interpreter: arithmetic of 64 bit words. -/
import Derived.Test.YtehnbdbhjeffaaaGreatGz8
set_option linter.all false
section
set_option autoImplicit false
namespace Gx
open Go Go.RowKit
attribute [go_sem] Int.reduceToNat Int.reducePow
@[go_sem] theorem min_32 : min 32 64 = 32 := rfl
@[go_sem] theorem min_16 : min 16 64 = 16 := rfl
@[go_sem] theorem min_8 : min 8 64 = 8 := rfl
@[go_sem] theorem min_1 : min 1 64 = 1 := rfl
@[go_sem] theorem min_63 : min 63 64 = 63 := rfl
theorem q7p (a b : Nat) : IntKind.u64.wrap ((a : Int) * (b : Int)) = ((a * b % 18446744073709551616 : Nat) : Int) := by
 rw [IntKind.wrap_u64, ← Int.natCast_mul]; omega
theorem q2x (a b : Nat) : IntKind.u64.wrap ((a : Int) + (b : Int)) = (((a + b) % 18446744073709551616 : Nat) : Int) := by
 rw [IntKind.wrap_u64]; omega
theorem u64sub (a b : Nat) (h : b ≤ 18446744073709551616) : IntKind.u64.wrap ((a : Int) - (b : Int)) = (((a + 18446744073709551616 - b) % 18446744073709551616 : Nat) : Int) := by
 rw [IntKind.wrap_u64]; omega
theorem u64shl (a k : Nat) : IntKind.u64.wrap ((a : Int) * 2 ^ k) = ((a * 2 ^ k % 18446744073709551616 : Nat) : Int) := by
 have : (2 : Int) ^ k = ((2 ^ k : Nat) : Int) := by simp
 rw [IntKind.wrap_u64, this, ← Int.natCast_mul]; omega
theorem u64shr (a k : Nat) : Int.fdiv (a : Int) (2 ^ k) = ((a / 2 ^ k : Nat) : Int) := by
 have : (2 : Int) ^ k = ((2 ^ k : Nat) : Int) := by simp
 rw [this, Int.fdiv_eq_ediv_of_nonneg _ (Int.natCast_nonneg _), ← Int.natCast_ediv]
theorem shr32 (a : Nat) : Int.fdiv (a : Int) 4294967296 = ((a / 4294967296 : Nat) : Int) := u64shr a 32
theorem shr16 (a : Nat) : Int.fdiv (a : Int) 65536 = ((a / 65536 : Nat) : Int) := u64shr a 16
theorem shr8 (a : Nat) : Int.fdiv (a : Int) 256 = ((a / 256 : Nat) : Int) := u64shr a 8
theorem shl32 (a : Nat) : IntKind.u64.wrap ((a : Int) * 4294967296) = ((a * 4294967296 % 18446744073709551616 : Nat) : Int) := q7p a 4294967296
theorem shl32' (a : Nat) : IntKind.u64.wrap (4294967296 * (a : Int)) = ((4294967296 * a % 18446744073709551616 : Nat) : Int) := q7p 4294967296 a
theorem q7k (x : Nat) (hx : x < 18446744073709551616) : q6t .and .u64 (x : Int) 4294967295 = some (.int .u64 ((x % 4294967296 : Nat) : Int)) := by
 have := ibits_and (x := x) (y := 4294967295) hx (by decide)
 have h2 : x &&& 4294967295 = x % 4294967296 := Nat.and_two_pow_sub_one_eq_mod x 32
 rw [h2] at this; exact this
theorem u64quo (a b : Nat) (ha : a < 18446744073709551616) : IntKind.u64.wrap (Int.tdiv (a : Int) (b : Int)) = ((a / b : Nat) : Int) := by
 have : Int.tdiv (a : Int) (b : Int) = ((a / b : Nat) : Int) := rfl
 rw [this, u64n (Nat.lt_of_le_of_lt (Nat.div_le_self _ _) ha)]
theorem u64rem (a b : Nat) : Int.tmod (a : Int) (b : Int) = ((a % b : Nat) : Int) := rfl
theorem mask32m (n : Nat) : q6t .and .u64 ((n % 18446744073709551616 : Nat) : Int) 4294967295 = some (.int .u64 ((n % 4294967296 : Nat) : Int)) := by
 rw [q7k _ (Nat.mod_lt _ (by decide))]
 congr 3; omega
theorem mul_parts (x y : Nat) (hx : x < 18446744073709551616) (hy : y < 18446744073709551616) : x * y = x / 4294967296 * (y / 4294967296) * 18446744073709551616 + (x / 4294967296 * (y % 4294967296) + x % 4294967296 * (y / 4294967296)) * 4294967296 + x % 4294967296 * (y % 4294967296) ∧
  x / 4294967296 * (y / 4294967296) ≤ 18446744065119617025 ∧ x / 4294967296 * (y % 4294967296) ≤ 18446744065119617025 ∧ x % 4294967296 * (y / 4294967296) ≤ 18446744065119617025 ∧ x % 4294967296 * (y % 4294967296) ≤ 18446744065119617025 := by
 have h1 : x / 4294967296 ≤ 4294967295 := by omega
 have h2 : x % 4294967296 ≤ 4294967295 := by omega
 have h3 : y / 4294967296 ≤ 4294967295 := by omega
 have h4 : y % 4294967296 ≤ 4294967295 := by omega
 refine ⟨?_, Nat.mul_le_mul h1 h3, Nat.mul_le_mul h1 h4, Nat.mul_le_mul h2 h3, Nat.mul_le_mul h2 h4⟩
 have hx' : x = 4294967296 * (x / 4294967296) + x % 4294967296 := by omega
 have hy' : y = 4294967296 * (y / 4294967296) + y % 4294967296 := by omega
 generalize x / 4294967296 = x1 at *
 generalize x % 4294967296 = x0 at *
 generalize y / 4294967296 = y1 at *
 generalize y % 4294967296 = y0 at *
 rw [hx', hy']
 grind
theorem q8u {P : Program} {md : Md} {lk : Nat} {σ : Env} {H : Heap} {Q : Ex → Env → Heap → Prop} {a rest : Code} {i : Nat} (J : Env → Heap → Prop) (h1 : Runs P md lk a σ H (Blk' i (Join J Q))) (h3 : ∀ σ H, J σ H → Runs P md lk rest σ H Q) : Runs P md lk a σ H (Blk' i (Then P md lk rest Q)) := by
 refine h1.mono ?_
 intro e σ H h
 cases e with
 | normal => exact h3 σ H h
 | exit j =>
  rw [w4q] at h ⊢
  split
  ·rename_i hj; rw [if_pos hj] at h; exact h3 σ H h
  ·rename_i hj; rw [if_neg hj] at h; exact h
 | ret => exact h
end Gx
end
