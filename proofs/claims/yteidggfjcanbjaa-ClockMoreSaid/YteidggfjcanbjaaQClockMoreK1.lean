/- What 64 bits say. -/
import Derived.Test.YteidggfjcanbjaaQClockMoreN8
import Derived.Test.YteidggfjcanbjaaQClockMoreT1
namespace Go.Proofs.Yteidggfjcanbjaa.F
open Go Go.Proofs.Yteidggfjcanbjaa.E
set_option linter.unusedVariables false
set_option linter.unusedSimpArgs false

def W (s e f : Nat) : Nat := s * 9223372036854775808 + e * 4503599627370496 + f
/-- The value: its class, its sign, its mantissa, its exponent. -/
def V (s e f : Nat) : Int × Bool × Int × Int :=
  if e = 2047 then (if f = 0 then (2, decide (s = 1), 0, 0) else (3, false, 0, 0))
  else if e = 0 then (if f = 0 then (0, decide (s = 1), 0, 0) else (1, decide (s = 1), (f : Int), -1074))
  else (1, decide (s = 1), ((f + 4503599627370496 : Nat) : Int), ((e : Int) - 1075))
theorem W_split {b : Nat} (h : b < 18446744073709551616) : ∃ s e f, s ≤ 1 ∧ e < 2048 ∧ f < 4503599627370496 ∧ b = W s e f :=
  ⟨b / 9223372036854775808, b / 4503599627370496 % 2048, b % 4503599627370496, by omega, by omega, by omega, by unfold W; omega⟩
theorem and_splitK (k x y : Nat) : x &&& y = 2 ^ k * (x / 2 ^ k &&& y / 2 ^ k) + (x % 2 ^ k &&& y % 2 ^ k) := by
  have h := Nat.div_add_mod (x &&& y) (2 ^ k)
  have h1 : (x &&& y) / 2 ^ k = x / 2 ^ k &&& y / 2 ^ k := by
    have := Nat.shiftRight_and_distrib (a := x) (b := y) (i := k)
    rw [Nat.shiftRight_eq_div_pow, Nat.shiftRight_eq_div_pow, Nat.shiftRight_eq_div_pow] at this
    exact this
  have h2 : (x &&& y) % 2 ^ k = x % 2 ^ k &&& y % 2 ^ k := Nat.and_mod_two_pow
  rw [h1, h2] at h
  exact h.symm
theorem and_mask52 (x : Nat) : x &&& 4503599627370495 = x % 4503599627370496 := Nat.and_two_pow_sub_one_eq_mod x 52
theorem and_mask11 (x : Nat) : x &&& 2047 = x % 2048 := Nat.and_two_pow_sub_one_eq_mod x 11
theorem and_mask63 (x : Nat) : x &&& 9223372036854775807 = x % 9223372036854775808 := Nat.and_two_pow_sub_one_eq_mod x 63
theorem and_sign {s r : Nat} (hs : s ≤ 1) (hr : r < 9223372036854775808) : (s * 9223372036854775808 + r) &&& 9223372036854775808 = s * 9223372036854775808 := by
  have h := and_splitK 63 (s * 9223372036854775808 + r) 9223372036854775808
  rw [h, show (2 : Nat) ^ 63 = 9223372036854775808 by decide, show (s * 9223372036854775808 + r) / 9223372036854775808 = s by omega, show 9223372036854775808 / 9223372036854775808 = 1 by decide, show 9223372036854775808 % 9223372036854775808 = 0 by decide, Nat.and_zero, Nat.and_one_is_mod]
  omega
theorem or_sign {r : Nat} (hr : r < 9223372036854775808) : r ||| 9223372036854775808 = 9223372036854775808 + r := by
  have := Nat.two_pow_add_eq_or_of_lt (i := 63) (b := r) hr 1
  rw [Nat.or_comm]
  exact this.symm
theorem or_hidden {f : Nat} (e : Nat) (hf : f < 4503599627370496) : f ||| e * 4503599627370496 = e * 4503599627370496 + f := by
  have := Nat.two_pow_add_eq_or_of_lt (i := 52) (b := f) hf e
  rw [Nat.or_comm, Nat.mul_comm e]
  exact this.symm
theorem b64_and {a b : Nat} (ha : a < 18446744073709551616) (hb : b < 18446744073709551616) {x y : Int} (hx : x = (a : Int)) (hy : y = (b : Int)) : IntKind.u64.wrap ((BitVec.ofInt IntKind.u64.bits x &&& BitVec.ofInt IntKind.u64.bits y).toNat) = ((a &&& b : Nat) : Int) := by
  subst hx; subst hy; exact bits_and64 ha hb
theorem b64_or {a b : Nat} (ha : a < 18446744073709551616) (hb : b < 18446744073709551616) {x y : Int} (hx : x = (a : Int)) (hy : y = (b : Int)) : IntKind.u64.wrap ((BitVec.ofInt IntKind.u64.bits x ||| BitVec.ofInt IntKind.u64.bits y).toNat) = ((a ||| b : Nat) : Int) := by
  subst hx; subst hy; exact bits_or64 ha hb
theorem fin_bits {t v : Int × Bool × Int × Int} {b : Int} (h : t = v) : Ev (if ¬ (t.1 = v.1 ∧ t.2.1 = v.2.1 ∧ t.2.2.1 = v.2.2.1 ∧ t.2.2.2 = v.2.2.2) then M.ret ((0 : Int), false) else M.ret (b, true)) (b, true) := by
  subst h
  exact ev_neg (fun h => h ⟨rfl, rfl, rfl, rfl⟩) (ev_now rfl)
end Go.Proofs.Yteidggfjcanbjaa.F
