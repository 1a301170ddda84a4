/- Shifts of numbers, noughts at the end, powers of ten. -/
import Derived.Test.YteidggfjcanbjaaQClockMoreN5
namespace Go.Proofs.Yteidggfjcanbjaa.F
open Go Go.Proofs.Yteidggfjcanbjaa.E
set_option linter.unusedVariables false
set_option linter.unusedSimpArgs false

/-! ### the lowest bit -/
theorem and_split (x y : Nat) : x &&& y = 2 * (x / 2 &&& y / 2) + (x % 2 &&& y % 2) := by
  have h := Nat.div_add_mod (x &&& y) 2
  have h1 : (x &&& y) / 2 = x / 2 &&& y / 2 := by
    have := Nat.shiftRight_and_distrib (a := x) (b := y) (i := 1)
    rw [Nat.shiftRight_eq_div_pow, Nat.shiftRight_eq_div_pow, Nat.shiftRight_eq_div_pow] at this
    exact this
  have h2 : (x &&& y) % 2 = x % 2 &&& y % 2 := Nat.and_mod_two_pow (a := x) (b := y) (n := 1)
  rw [h1, h2] at h
  exact h.symm
theorem and_compl : ∀ (w m : Nat), m < 2 ^ w → m &&& (2 ^ w - 1 - m) = 0
  | 0, m, h => by
    have : m = 0 := by rw [Nat.pow_zero] at h; omega
    subst this; rfl
  | w + 1, m, h => by
    rw [Nat.pow_succ] at h ⊢
    have ih := and_compl w (m / 2) (by omega)
    rw [and_split, show (2 ^ w * 2 - 1 - m) / 2 = 2 ^ w - 1 - m / 2 by omega, ih]
    have h2 : (2 ^ w * 2 - 1 - m) % 2 = 1 - m % 2 := by omega
    rw [h2]
    rcases Nat.mod_two_eq_zero_or_one m with h3 | h3 <;> rw [h3]
    · rfl
    · rfl
/-- k noughts at the end -/
def Tz (n k : Nat) : Prop := ∃ m, n = 2 ^ k * (2 * m + 1)
theorem low_bit : ∀ (w k m : Nat), 2 ^ k * (2 * m + 1) < 2 ^ w → (2 ^ k * (2 * m + 1)) &&& (2 ^ w - 2 ^ k * (2 * m + 1)) = 2 ^ k
  | 0, k, m, h => by
    have : 0 < 2 ^ k * (2 * m + 1) := Nat.mul_pos (Nat.pow_pos (by decide)) (by omega)
    rw [Nat.pow_zero] at h; omega
  | w + 1, 0, m, h => by
    rw [Nat.pow_zero, Nat.one_mul, Nat.pow_succ] at *
    rw [and_split, show (2 * m + 1) / 2 = m by omega, show (2 ^ w * 2 - (2 * m + 1)) / 2 = 2 ^ w - 1 - m by omega, and_compl w m (by omega), show (2 * m + 1) % 2 = 1 by omega, show (2 ^ w * 2 - (2 * m + 1)) % 2 = 1 by omega]
    rfl
  | w + 1, k + 1, m, h => by
    have e : 2 ^ (k + 1) * (2 * m + 1) = 2 ^ k * (2 * m + 1) * 2 := by rw [Nat.pow_succ, Nat.mul_assoc, Nat.mul_comm 2, ← Nat.mul_assoc]
    rw [e, Nat.pow_succ] at h
    have ih := low_bit w k m (by omega)
    rw [e, Nat.pow_succ 2 w, Nat.pow_succ 2 k]
    generalize 2 ^ k * (2 * m + 1) = x at *
    rw [and_split, show x * 2 / 2 = x by omega, show (2 ^ w * 2 - x * 2) / 2 = 2 ^ w - x by omega, ih, show x * 2 % 2 = 0 by omega, Nat.zero_and]
    omega
theorem tz_ex : ∀ (n : Nat), 0 < n → ∃ k, Tz n k := by
  intro n
  induction n using Nat.strongRecOn with
  | _ n ih =>
    intro h
    rcases Nat.mod_two_eq_zero_or_one n with h2 | h2
    · obtain ⟨k, m, hm⟩ := ih (n / 2) (by omega) (by omega)
      refine ⟨k + 1, m, ?_⟩
      rw [Nat.pow_succ, Nat.mul_assoc, Nat.mul_comm 2, ← Nat.mul_assoc, ← hm]; omega
    · exact ⟨0, n / 2, by rw [Nat.pow_zero, Nat.one_mul]; omega⟩
theorem Tz.pos {n k : Nat} (h : Tz n k) : 0 < n := by
  obtain ⟨m, rfl⟩ := h
  exact Nat.mul_pos (Nat.pow_pos (by decide)) (by omega)
theorem Tz.mul {n k : Nat} (h : Tz n k) (c : Nat) : Tz (n * 2 ^ c) (k + c) := by
  obtain ⟨m, rfl⟩ := h
  exact ⟨m, by rw [Nat.pow_add, Nat.mul_assoc, Nat.mul_assoc, Nat.mul_comm (2 * m + 1)]⟩
theorem Tz.mod {n k : Nat} (h : Tz n k) (c : Nat) : n % 2 ^ c = 0 ↔ c ≤ k := by
  obtain ⟨m, rfl⟩ := h
  constructor
  · intro h
    rcases Nat.lt_or_ge k c with hc | hc
    · exfalso
      obtain ⟨d, rfl⟩ : ∃ d, c = k + (d + 1) := ⟨c - k - 1, by omega⟩
      rw [Nat.pow_add, Nat.mul_mod_mul_left] at h
      have h3 : (2 * m + 1) % 2 ^ (d + 1) = 0 := by
        rcases Nat.eq_zero_or_pos ((2 * m + 1) % 2 ^ (d + 1)) with h4 | h4
        · exact h4
        · have := Nat.mul_pos (Nat.pow_pos (n := k) (by decide : 0 < 2)) h4
          omega
      have h5 := Nat.div_add_mod (2 * m + 1) (2 ^ (d + 1))
      rw [h3, Nat.pow_succ, Nat.add_zero, Nat.mul_comm (2 ^ d), Nat.mul_assoc] at h5
      omega
    · exact hc
  · intro h
    obtain ⟨d, rfl⟩ : ∃ d, k = c + d := ⟨k - c, by omega⟩
    rw [Nat.pow_add, Nat.mul_assoc, Nat.mul_mod_right]
theorem Tz.div {n k : Nat} (h : Tz n k) : n / 2 ^ k % 2 = 1 := by
  obtain ⟨m, rfl⟩ := h
  rw [Nat.mul_div_cancel_left _ (Nat.pow_pos (by decide))]
  omega
/-! ### down -/
theorem down_digit {Z z0 z1 z2 s : Nat} (hs : s < 32) (hZ : Z = z0 + 4294967296 * (z1 + 4294967296 * z2)) : Z / 2 ^ s = (z0 + 4294967296 * z1) / 2 ^ s % 4294967296 + 4294967296 * ((z1 + 4294967296 * z2) / 2 ^ s) ∨ ¬ z0 < 4294967296 := by
  rcases Nat.lt_or_ge z0 4294967296 with h0 | h0
  · left
    have hp : 0 < 2 ^ s := Nat.pow_pos (by decide)
    obtain ⟨e, he⟩ : ∃ e, 4294967296 = 2 ^ s * e := ⟨2 ^ (32 - s), by rw [← Nat.pow_add, show s + (32 - s) = 32 by omega]⟩
    have h1 : Z / 2 ^ s / 4294967296 = (z1 + 4294967296 * z2) / 2 ^ s := by
      rw [Nat.div_div_eq_div_mul, Nat.mul_comm, ← Nat.div_div_eq_div_mul, hZ, Nat.add_mul_div_left _ _ (by decide), Nat.div_eq_of_lt h0, Nat.zero_add]
    have h2 : Z / 2 ^ s % 4294967296 = (z0 + 4294967296 * z1) / 2 ^ s % 4294967296 := by
      have h3 : Z = z0 + 4294967296 * z1 + 2 ^ s * (e * 4294967296 * z2) := by
        rw [hZ, Nat.mul_add, ← Nat.add_assoc]
        congr 1
        rw [Nat.mul_assoc e, ← Nat.mul_assoc (2 ^ s), ← he]
      rw [h3, Nat.add_mul_div_left _ _ hp, Nat.mul_comm e, Nat.mul_assoc, Nat.add_mul_mod_self_left]
    have h4 := Nat.mod_add_div (Z / 2 ^ s) 4294967296
    rw [h1, h2] at h4
    exact h4.symm
  · right; omega
theorem pow_split (c : Nat) : 4294967296 ^ (c / 32) * 2 ^ (c % 32) = 2 ^ c := by
  rw [show (4294967296 : Nat) = 2 ^ 32 by decide, ← Nat.pow_mul, ← Nat.pow_add, Nat.div_add_mod]
theorem tdiv32 (c : Nat) : ((c : Nat) : Int).tdiv 32 = ((c / 32 : Nat) : Int) := by rw [Int.tdiv_eq_ediv_of_nonneg (by omega)]; omega
theorem tmod32 (c : Nat) : ((c : Nat) : Int).tmod 32 = ((c % 32 : Nat) : Int) := by rw [Int.tmod_eq_emod_of_nonneg (by omega)]; omega
/-! ### up -/
theorem ln_pow2 (n c : Nat) : ln (n * 2 ^ c) ≤ ln n + c / 32 + 1 := by
  refine (dg_len b32 _ _).mpr ?_
  have h1 := dg_lt b32 n
  have h2 : 2 ^ c < 4294967296 ^ (c / 32 + 1) := by
    rw [show (4294967296 : Nat) = 2 ^ 32 by decide, ← Nat.pow_mul]
    exact Nat.pow_lt_pow_right (by decide) (by omega)
  rw [Nat.add_assoc, Nat.pow_add]
  exact Nat.mul_lt_mul'' h1 h2

/-! ### powers of ten -/
theorem ten {c : Nat} (hc : c ≤ 1073741824) : Ev (tens_Ten.f (c : Int)) (L (10 ^ c)) := by
  have l10 := ln_small (n := 10) (by decide)
  have h := Nat.mul_le_mul_left c l10
  exact ev_eq tens_Ten.f_eq (Ev.bind (of_val (n := 10) (by decide)) (Ev.bind (npow (n := 10) (k := c) (by omega) (by omega)) (ev_now rfl)))
theorem ten_neg {c : Int} (hc : c ≤ 0) : Ev (tens_Ten.f c) (L 1) :=
  ev_eq tens_Ten.f_eq (Ev.bind (of_val (n := 10) (by decide)) (Ev.bind (npow_neg (n := 10) hc) (ev_now rfl)))
theorem dg_ten (c : Nat) : dg 10 (10 ^ c) = List.replicate c 0 ++ [1] := by
  induction c with
  | zero => rfl
  | succ c ih => rw [dg_pos b10 (Nat.pow_pos (by decide)), Nat.pow_succ, Nat.mul_mod_left, Nat.mul_div_cancel _ (by decide), ih]; rfl
end Go.Proofs.Yteidggfjcanbjaa.F
