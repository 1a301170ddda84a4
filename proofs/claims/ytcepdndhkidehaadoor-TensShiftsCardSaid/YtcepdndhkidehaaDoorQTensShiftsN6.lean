/- Knuth's D: the guess of a digit is right or one too great; a digit times the divisor is taken off, and the divisor put back. -/
import Derived.Test.YtcepdndhkidehaaDoorQTensShiftsN5
namespace Go.Proofs.YtcepdndhkidehaaDoor.F
open Go Go.Proofs.YtcepdndhkidehaaDoor.E
set_option linter.unusedVariables false
set_option linter.unusedSimpArgs false

/-- plain numbers: U of three top digits u3 and what is below, V of two, v, and what is below -/
theorem guess_low {U V P u3 v q : Nat} (hV : v * P ≤ V) (hU : U < (u3 + 1) * P) (h : q ≤ U / V) (hV0 : 0 < V) : q * v ≤ u3 := by
  have h1 : q * V ≤ U := by rw [← Nat.le_div_iff_mul_le hV0]; exact h
  have h2 : q * v * P ≤ q * V := by rw [Nat.mul_assoc]; exact Nat.mul_le_mul_left q hV
  have h3 : q * v * P < (u3 + 1) * P := by omega
  have := Nat.lt_of_mul_lt_mul_right h3
  omega
theorem guess_high {U V P u3 v q : Nat} (hV : V < (v + 1) * P) (hU : u3 * P ≤ U) (hq : q * v ≤ u3) (hqv : q ≤ v) (hV0 : 0 < V) : q ≤ U / V + 1 := by
  cases q with
  | zero => exact Nat.zero_le _
  | succ q =>
    have h1 : q * (v + 1) ≤ u3 := by
      have e1 : (q + 1) * v = q * v + v := Nat.succ_mul q v
      have e2 : q * (v + 1) = q * v + q := Nat.mul_succ q v
      omega
    have h2 : q * V ≤ U := by
      refine Nat.le_trans (Nat.mul_le_mul_left q (Nat.le_of_lt hV)) ?_
      rw [← Nat.mul_assoc]
      exact Nat.le_trans (Nat.mul_le_mul_right P h1) hU
    have := (Nat.le_div_iff_mul_le hV0).mpr h2
    omega

/-! ### a digit times the divisor is taken off -/
/-! ### the divisor is put back -/
end Go.Proofs.YtcepdndhkidehaaDoor.F
