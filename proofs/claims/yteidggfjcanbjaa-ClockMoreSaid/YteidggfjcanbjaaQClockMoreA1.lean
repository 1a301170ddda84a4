/- Fractions near numbers. -/
import Derived.Test.YteidggfjcanbjaaQClockMoreR2
namespace Go.Proofs.Yteidggfjcanbjaa.F
open Go Go.Proofs.Yteidggfjcanbjaa.E
set_option linter.unusedVariables false
set_option linter.unusedSimpArgs false

/-- The whole number next to x over y; of two as near the greater one. -/
def near (x y : Nat) : Nat := (2 * x + y) / (2 * y)
theorem near_half {x y : Nat} (hy : 0 < y) : (x / y + if y ≤ 2 * (x % y) then 1 else 0) = near x y := by
  have h1 := Nat.div_add_mod x y
  have h2 := Nat.mod_lt x hy
  unfold near
  generalize x / y = q at *
  generalize x % y = r at *
  subst h1
  have e : 2 * (y * q + r) + y = (2 * r + y) + 2 * y * q := by rw [Nat.mul_assoc]; omega
  rw [e, Nat.add_mul_div_left _ _ (by omega : 0 < 2 * y), Nat.add_comm q]
  congr 1
  split
  · rw [Nat.div_eq_of_lt_le] <;> omega
  · rw [Nat.div_eq_of_lt]; omega
theorem near_scale {x y X Y : Nat} (hy : 0 < y) (hY : 0 < Y) (h : x * Y = X * y) : near x y = near X Y := by
  unfold near
  rw [← Nat.mul_div_mul_right (2 * x + y) (2 * y) hY, ← Nat.mul_div_mul_right (2 * X + Y) (2 * Y) hy]
  congr 1
  · rw [Nat.add_mul, Nat.add_mul, Nat.mul_assoc, Nat.mul_assoc, h, Nat.mul_comm y]
  · rw [Nat.mul_assoc, Nat.mul_assoc, Nat.mul_comm y]
theorem near_le {x y : Nat} (hy : 0 < y) : near x y ≤ x + 1 := by
  rw [← near_half hy]
  have := Nat.div_le_self x y
  split <;> omega
end Go.Proofs.Yteidggfjcanbjaa.F
