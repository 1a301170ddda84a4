/- Rounding to the nearest 64 bits. -/
import Derived.Test.YtjkhkmcmnnhmcaaQBitsDecimalsY07
namespace Go.Proofs.Ytjkhkmcmnnhmcaa.F
open Go Go.Proofs.Ytjkhkmcmnnhmcaa.E
set_option linter.unusedVariables false
set_option linter.unusedSimpArgs false

/-- The whole number next to u over v, of two as near the even one. -/
def rnd (u v : Nat) : Nat := if v < 2 * (u % v) ∨ (2 * (u % v) = v ∧ u / v % 2 = 1) then u / v + 1 else u / v
theorem rnd_pos {u v : Nat} (h : v < 2 * (u % v) ∨ (2 * (u % v) = v ∧ u / v % 2 = 1)) : rnd u v = u / v + 1 := if_pos h
theorem rnd_neg {u v : Nat} (h : ¬(v < 2 * (u % v) ∨ (2 * (u % v) = v ∧ u / v % 2 = 1))) : rnd u v = u / v := if_neg h
theorem rnd_ge (u v : Nat) : u / v ≤ rnd u v := by unfold rnd; split <;> omega
theorem rnd_at {u v w A q t : Nat} (hv : 0 < v) (hw : 0 < w) (h : u * w = A * v) (hA : A = q * w + t) (ht : t ≤ w) : rnd u v = (if w < 2 * t ∨ (2 * t = w ∧ q % 2 = 1) then q + 1 else q) := by
  have h1 := Nat.div_add_mod u v
  have h2 := Nat.mod_lt u hv
  -- the rest, times w, is t times v
  rcases Nat.lt_or_ge t w with hlt | hge
  · have hq : u / v = q := by
      refine Nat.div_eq_of_lt_le ?_ ?_
      · refine Nat.le_of_mul_le_mul_right ?_ hw
        rw [h, hA, Nat.add_mul, Nat.mul_right_comm]; omega
      · refine Nat.lt_of_mul_lt_mul_right (a := w) ?_
        rw [h, hA, Nat.add_mul, Nat.add_mul, Nat.one_mul, Nat.add_mul, Nat.mul_right_comm q w v, Nat.mul_comm v w]
        have := Nat.mul_lt_mul_of_pos_right hlt hv
        omega
    have hr : u % v * w = t * v := by
      have e : (v * (u / v) + u % v) * w = A * v := by rw [h1]; exact h
      rw [hq, hA, Nat.add_mul, Nat.add_mul, Nat.mul_comm v q, Nat.mul_right_comm q v w] at e
      omega
    have c1 : v < 2 * (u % v) ↔ w < 2 * t := by
      rw [← Nat.mul_lt_mul_right (b := v) hw, ← Nat.mul_lt_mul_right (b := w) hv, Nat.mul_assoc 2, hr, Nat.mul_comm v w, ← Nat.mul_assoc]
    have c2 : 2 * (u % v) = v ↔ 2 * t = w := by
      constructor
      · intro e
        refine Nat.eq_of_mul_eq_mul_right hv ?_
        rw [Nat.mul_assoc, ← hr, ← Nat.mul_assoc, e, Nat.mul_comm]
      · intro e
        refine Nat.eq_of_mul_eq_mul_right hw ?_
        rw [Nat.mul_assoc, hr, ← Nat.mul_assoc, e, Nat.mul_comm]
    unfold rnd
    rw [hq]
    by_cases d1 : w < 2 * t
    · rw [if_pos (.inl (c1.mpr d1)), if_pos (.inl d1)]
    · by_cases d2 : 2 * t = w ∧ q % 2 = 1
      · rw [if_pos (.inr ⟨c2.mpr d2.1, d2.2⟩), if_pos (.inr d2)]
      · rw [if_neg (fun hh => hh.elim (fun a => d1 (c1.mp a)) (fun a => d2 ⟨c2.mp a.1, a.2⟩)), if_neg (fun hh => hh.elim d1 d2)]
  · have he : t = w := by omega
    subst he
    have hu : u = (q + 1) * v := by
      refine Nat.eq_of_mul_eq_mul_right hw ?_
      rw [h, hA, Nat.mul_right_comm, Nat.add_mul q 1 t, Nat.one_mul]
    have hq : u / v = q + 1 := by rw [hu, Nat.mul_div_cancel _ hv]
    have hr : u % v = 0 := by rw [hu, Nat.mul_mod_left]
    unfold rnd
    rw [hq, hr, if_neg (by omega), if_pos (.inl (by omega))]
theorem rounded_ok {x y K j : Nat} (hy : 0 < y) (hx : ln x ≤ 1000) (hly : ln y ≤ 1000) (hK : K = 1074) (hj : j ≤ 3000) :
    ∃ u v, 0 < v ∧ u * 2 ^ j * y = x * 2 ^ K * v ∧ (u / v < 9223372036854775808 → Ev (bits_rounded.f (L x) (L y) ((j : Int) - (K : Int))) ((rnd u v : Nat) : Int)) := by
  have fin : ∀ {u v : Nat}, u / v < 9223372036854775808 → Ev (if cmpI (u % v + u % v) v > 0 then M.ret (IntKind.u64.wrap (((u / v : Nat) : Int) + 1)) else (if cmpI (u % v + u % v) v = 0 then (if (IntKind.u64.wrap ((BitVec.ofInt IntKind.u64.bits ((u / v : Nat) : Int) &&& BitVec.ofInt IntKind.u64.bits 1).toNat)) = 1 then M.ret (IntKind.u64.wrap (((u / v : Nat) : Int) + 1)) else M.ret ((u / v : Nat) : Int)) else M.ret ((u / v : Nat) : Int))) ((rnd u v : Nat) : Int) := by
    intro u v hq
    have hand : IntKind.u64.wrap ((BitVec.ofInt IntKind.u64.bits ((u / v : Nat) : Int) &&& BitVec.ofInt IntKind.u64.bits 1).toNat) = ((u / v % 2 : Nat) : Int) := by
      rw [b64_and (a := u / v) (b := 1) (y := 1) (by omega) (by decide) rfl rfl, Nat.and_one_is_mod]
    have hs : IntKind.u64.wrap (((u / v : Nat) : Int) + 1) = ((u / v + 1 : Nat) : Int) := by
      generalize u / v = z at *
      rw [u64_id] <;> omega
    rw [hand, hs]
    have r1 := @rnd_pos u v
    have r2 := @rnd_neg u v
    generalize rnd u v = R at *
    generalize u / v = q at *
    generalize u % v = r at *
    by_cases c1 : v < 2 * r
    · rw [r1 (.inl c1)]
      exact ev_pos (cmpI_gt.mpr (by omega)) (ev_now rfl)
    · refine ev_neg (fun h => by have := cmpI_gt.mp h; omega) ?_
      by_cases c2 : 2 * r = v
      · refine ev_pos (cmpI_eq0.mpr (by omega)) ?_
        by_cases c3 : q % 2 = 1
        · rw [r1 (.inr ⟨c2, c3⟩)]
          exact ev_pos (by omega) (ev_now rfl)
        · rw [r2 (fun h => h.elim c1 (fun h => c3 h.2))]
          exact ev_neg (by omega) (ev_now rfl)
      · rw [r2 (fun h => h.elim c1 (fun h => c2 h.1))]
        exact ev_neg (fun h => by have := cmpI_eq0.mp h; omega) (ev_now rfl)
  by_cases hs : K < j
  · obtain ⟨d, hd⟩ : ∃ d, j = K + d := ⟨j - K, by omega⟩
    have hp : 0 < 2 ^ d := Nat.pow_pos (by decide)
    have l1 := ln_pow2 y d
    refine ⟨x, y * 2 ^ d, Nat.mul_pos hy hp, by rw [hd, Nat.pow_add]; grind, fun hq => ?_⟩
    have l2 := ln_mono (Nat.div_le_self x (y * 2 ^ d))
    have l3 := ln_mono (Nat.mod_le x (y * 2 ^ d))
    have l4 := ln_add (x % (y * 2 ^ d)) (x % (y * 2 ^ d))
    refine ev_eq bits_rounded.f_eq (ev_pos (by omega) ?_)
    rw [show (j : Int) - (K : Int) = (d : Int) by omega]
    exact Ev.bind (up (by omega) (by omega)) (Ev.bind (qdiv (Nat.mul_pos hy hp) (by omega) (by omega)) (Ev.bind (nsmall (by omega)) (Ev.bind (nadd (by omega) (by omega)) (Ev.bind (ncmp (by omega) (by omega)) (fin hq)))))
  · obtain ⟨d, hd⟩ : ∃ d, K = j + d := ⟨K - j, by omega⟩
    have hp : 0 < 2 ^ d := Nat.pow_pos (by decide)
    have l1 := ln_pow2 x d
    refine ⟨x * 2 ^ d, y, hy, by rw [hd, Nat.pow_add]; grind, fun hq => ?_⟩
    have l2 := ln_mono (Nat.div_le_self (x * 2 ^ d) y)
    have l3 := ln_mono (Nat.mod_le (x * 2 ^ d) y)
    have l4 := ln_add (x * 2 ^ d % y) (x * 2 ^ d % y)
    refine ev_eq bits_rounded.f_eq (ev_neg (by omega) ?_)
    rw [show IntKind.i64.wrap (0 - ((j : Int) - (K : Int))) = (d : Int) by rw [wrap_id (by omega) (by omega)]; omega]
    exact Ev.bind (up (by omega) (by omega)) (Ev.bind (qdiv hy (by omega) (by omega)) (Ev.bind (nsmall (by omega)) (Ev.bind (nadd (by omega) (by omega)) (Ev.bind (ncmp (by omega) (by omega)) (fin hq)))))
/-- A mantissa of 53 bits and what stands above it. -/
theorem enc {X g : Nat} (h1 : 4503599627370496 ≤ X) (h2 : X < 9007199254740992) (hg : g < 2048) {G Y : Int} (hG : G = (g : Int)) (hY : Y = (X : Int)) :
    IntKind.u64.wrap ((BitVec.ofInt IntKind.u64.bits (IntKind.u64.wrap ((IntKind.u64.wrap G) * 2 ^ 52)) ||| BitVec.ofInt IntKind.u64.bits (IntKind.u64.wrap ((BitVec.ofInt IntKind.u64.bits Y &&& BitVec.ofInt IntKind.u64.bits 4503599627370495).toNat))).toNat) = ((g * 4503599627370496 + (X - 4503599627370496) : Nat) : Int) := by
  subst hG; subst hY
  rw [b64_and (a := X) (b := 4503599627370495) (y := 4503599627370495) (by omega) (by decide) rfl rfl, and_mask52, wrap_u64_nat (n := g) (by omega), show (g : Int) * 2 ^ 52 = ((g * 4503599627370496 : Nat) : Int) by omega, wrap_u64_nat (n := g * 4503599627370496) (by omega),
    b64_or (a := g * 4503599627370496) (b := X % 4503599627370496) (by omega) (by omega) rfl rfl, Nat.or_comm, or_hidden g (Nat.mod_lt _ (by decide))]
  omega
end Go.Proofs.Ytjkhkmcmnnhmcaa.F
