/- Quotients: by one limb, shifts, the guess of a digit, a digit times a number taken off, and put back. -/
import Derived.Test.YtcepdndhkidehaaDoorQTensBackN4
namespace Go.Proofs.YtcepdndhkidehaaDoor.F
open Go Go.Proofs.YtcepdndhkidehaaDoor.E
set_option linter.unusedVariables false
set_option linter.unusedSimpArgs false

theorem or_add {a b : Nat} (hb : b < 4294967296) : 4294967296 * a ||| b = 4294967296 * a + b := (Nat.two_pow_add_eq_or_of_lt (i := 32) hb a).symm
theorem two_limbs {h l : Nat} (hh : h < 4294967296) (hl : l < 4294967296) : IntKind.u64.wrap ((BitVec.ofInt IntKind.u64.bits (IntKind.u64.wrap ((IntKind.u64.wrap (h : Int)) * 2 ^ 32)) ||| BitVec.ofInt IntKind.u64.bits (IntKind.u64.wrap (l : Int))).toNat) = ((4294967296 * h + l : Nat) : Int) := by
  rw [wrap_u64_nat (n := h) (by omega), wrap_u64_nat (n := l) (by omega), show (h : Int) * 2 ^ 32 = ((4294967296 * h : Nat) : Int) by omega, wrap_u64_nat (n := 4294967296 * h) (by omega), bits_or64 (by omega) (by omega), or_add hl]
theorem tdiv_nat (a b : Nat) : Int.tdiv (a : Int) (b : Int) = ((a / b : Nat) : Int) := rfl
theorem tmod_nat (a b : Nat) : Int.tmod (a : Int) (b : Int) = ((a % b : Nat) : Int) := rfl
/-! ### shifts by less than a limb -/
theorem shl32 {v k : Nat} (hk : k < 32) : IntKind.u32.wrap ((v : Int) * 2 ^ (min ((k : Nat) : Int).toNat 32)) = ((v * 2 ^ k % 4294967296 : Nat) : Int) := by
  rw [Int.toNat_natCast, Nat.min_eq_left (a := k) (b := 32) (by omega), u32_def, show (v : Int) * 2 ^ k = ((v * 2 ^ k : Nat) : Int) by rw [Int.natCast_mul, Int.natCast_pow]; rfl]
  rfl
theorem shl64 {v k : Nat} (hk : k < 32) (hv : v < 4294967296) : IntKind.u64.wrap (IntKind.u64.wrap (v : Int) * 2 ^ (min ((k : Nat) : Int).toNat 64)) = ((v * 2 ^ k : Nat) : Int) := by
  have h1 : 2 ^ k ≤ 2 ^ 31 := Nat.pow_le_pow_right (by decide) (by omega)
  have h2 : v * 2 ^ k ≤ 4294967295 * 2 ^ 31 := Nat.mul_le_mul (by omega) h1
  rw [wrap_u64_nat (by omega), Int.toNat_natCast, Nat.min_eq_left (a := k) (b := 64) (by omega), show (v : Int) * 2 ^ k = ((v * 2 ^ k : Nat) : Int) by rw [Int.natCast_mul, Int.natCast_pow]; rfl, wrap_u64_nat (by omega)]
theorem or_low {c a k : Nat} (hc : c < 2 ^ k) : c ||| 2 ^ k * a = c + 2 ^ k * a := by
  rw [Nat.or_comm, ← Nat.two_pow_add_eq_or_of_lt hc a, Nat.add_comm]
theorem shl_low (v k : Nat) (hk : k < 32) : v * 2 ^ k % 4294967296 = 2 ^ k * (v % 2 ^ (32 - k)) := by
  have : (4294967296 : Nat) = 2 ^ k * 2 ^ (32 - k) := by rw [← Nat.pow_add, show k + (32 - k) = 32 by omega]
  rw [this, Nat.mul_comm v, Nat.mul_mod_mul_left]
theorem shr32 {v k : Nat} (hk : k < 32) : (v : Int).fdiv (2 ^ (min ((k : Nat) : Int).toNat 32)) = ((v / 2 ^ k : Nat) : Int) := by
  rw [Int.toNat_natCast, Nat.min_eq_left (a := k) (b := 32) (by omega), Int.fdiv_eq_ediv_of_nonneg _ (Int.le_of_lt (Int.pow_pos (by decide))), Int.natCast_ediv, Int.natCast_pow]; rfl
theorem shr64 {v k : Nat} (hk : k < 32) : (v : Int).fdiv (2 ^ (min ((k : Nat) : Int).toNat 64)) = ((v / 2 ^ k : Nat) : Int) := by
  rw [Int.toNat_natCast, Nat.min_eq_left (a := k) (b := 64) (by omega), Int.fdiv_eq_ediv_of_nonneg _ (Int.le_of_lt (Int.pow_pos (by decide))), Int.natCast_ediv, Int.natCast_pow]; rfl
end Go.Proofs.YtcepdndhkidehaaDoor.F
