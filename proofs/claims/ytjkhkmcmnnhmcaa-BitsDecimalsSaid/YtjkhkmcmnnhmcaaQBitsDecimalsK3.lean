/- The bits nearest to a quotient. -/
import Derived.Test.YtjkhkmcmnnhmcaaQBitsDecimalsK2
namespace Go.Proofs.Ytjkhkmcmnnhmcaa.F
open Go Go.Proofs.Ytjkhkmcmnnhmcaa.E
set_option linter.unusedVariables false
set_option linter.unusedSimpArgs false
theorem rnd_le (u v : Nat) : rnd u v ≤ u / v + 1 := by unfold rnd; split <;> omega
theorem rnd_ratio {u v a b : Nat} (hv : 0 < v) (hb : 0 < b) (h : u * b = a * v) : rnd u v = rnd a b := by
  have e := Nat.div_add_mod a b
  rw [rnd_at hv hb h (q := a / b) (t := a % b) (by rw [Nat.mul_comm]; omega) (Nat.le_of_lt (Nat.mod_lt _ hb))]
  rfl
theorem div_ratio {u v a b : Nat} (hv : 0 < v) (hb : 0 < b) (h : u * b = a * v) : u / v = a / b := by
  rw [← Nat.mul_div_mul_right u v hb, h, Nat.mul_comm v b, Nat.mul_div_mul_right a b hv]
theorem rnd_half {u v : Nat} (hv : 0 < v) (h1 : u < 9007199254740992 * v) (h2 : rnd u v = 9007199254740992) : rnd u (v * 2) = 4503599627370496 := by
  have hq : u / v < 9007199254740992 := Nat.div_lt_of_lt_mul (by rw [Nat.mul_comm]; exact h1)
  have hle := rnd_le u v
  have hq2 : u / v = 9007199254740991 := by omega
  have hm := Nat.div_add_mod u v
  have hr : v ≤ 2 * (u % v) := by
    by_cases c : v < 2 * (u % v) ∨ (2 * (u % v) = v ∧ u / v % 2 = 1)
    · omega
    · rw [rnd_neg c] at h2; omega
  rw [hq2] at hm
  generalize u % v = r at *
  have hlt : r < v := by omega
  have d : u / (v * 2) = 4503599627370495 := Nat.div_eq_of_lt_le (by omega) (by omega)
  have m : u % (v * 2) = v + r := by
    have := Nat.div_add_mod u (v * 2)
    rw [d] at this
    omega
  have := rnd_pos (u := u) (v := v * 2) (.inl (by omega))
  omega
theorem rounded_at {x y K j : Nat} (hy : 0 < y) (hx : ln x ≤ 1000) (hly : ln y ≤ 1000) (hK : K = 1074) (hj : j ≤ 3000) (hq : x * 2 ^ K / (y * 2 ^ j) < 9223372036854775808) :
    Ev (bits_rounded.f (L x) (L y) ((j : Int) - (K : Int))) ((rnd (x * 2 ^ K) (y * 2 ^ j) : Nat) : Int) := by
  obtain ⟨u, v, hv, he, h⟩ := rounded_ok hy hx hly hK hj
  have hw : 0 < y * 2 ^ j := Nat.mul_pos hy (Nat.pow_pos (by decide))
  have he2 : u * (y * 2 ^ j) = x * 2 ^ K * v := by rw [← he]; grind
  rw [← rnd_ratio hv hw he2]
  rw [← div_ratio hv hw he2] at hq
  exact h hq
theorem exp_at {a b K : Nat} (ha : a ≤ 100000) (hb : b ≤ 100000) (hK : K = 1074) : mxI (IntKind.i64.wrap ((IntKind.i64.wrap ((IntKind.i64.wrap ((a : Int) - (b : Int))) - 52)) - 1)) (-1074) = ((a + 1021 - b : Nat) : Int) - (K : Int) := by
  rw [wrap_id (x := (a : Int) - (b : Int)) (by omega) (by omega), wrap_id (x := (a : Int) - (b : Int) - 52) (by omega) (by omega), wrap_id (x := (a : Int) - (b : Int) - 52 - 1) (by omega) (by omega)]
  unfold mxI
  split <;> omega
theorem fin0 {m j : Nat} {s Y : Int} (hs : s = (j : Int) - 1074) (hM : Y = (m : Int)) (hm : m < 9007199254740992) (hj : j = 0 ∨ 4503599627370496 ≤ m) (ht : j * 4503599627370496 + m < 9218868437227405312) :
    Ev (if (IntKind.i64.wrap (s + 1075)) ≥ 2047 then (M.ret ((9218868437227405312 : Int), true)) else (if Y < 4503599627370496 then (M.ret (Y, true)) else (M.ret (IntKind.u64.wrap ((BitVec.ofInt IntKind.u64.bits (IntKind.u64.wrap ((IntKind.u64.wrap (IntKind.i64.wrap (s + 1075))) * 2 ^ 52)) ||| BitVec.ofInt IntKind.u64.bits (IntKind.u64.wrap ((BitVec.ofInt IntKind.u64.bits Y &&& BitVec.ofInt IntKind.u64.bits 4503599627370495).toNat))).toNat), true)))) (((j * 4503599627370496 + m : Nat) : Int), true) := by
  subst hs
  have hw : IntKind.i64.wrap ((j : Int) - 1074 + 1075) = ((j + 1 : Nat) : Int) := by rw [wrap_id (by omega) (by omega)]; omega
  refine ev_neg (by rw [hw]; omega) ?_
  by_cases c : m < 4503599627370496
  · refine ev_pos (by omega) (ev_now ?_)
    rw [hM, show j * 4503599627370496 + m = m by omega]
  · refine ev_neg (by omega) (ev_now ?_)
    rw [enc (X := m) (g := j + 1) (by omega) hm (by omega) hw hM]
    refine congrArg (fun z : Nat => ((z : Int), true)) ?_
    omega
theorem fin1 {j : Nat} {s Y : Int} (hs : s = (j : Int) - 1074) (hM : Y = 9007199254740992) (ht : j * 4503599627370496 + 9007199254740992 < 9218868437227405312) :
    Ev (if (IntKind.i64.wrap (IntKind.i64.wrap (s + 1) + 1075)) ≥ 2047 then (M.ret ((9218868437227405312 : Int), true)) else (if Y.fdiv (2 ^ 1) < 4503599627370496 then (M.ret (Y.fdiv (2 ^ 1), true)) else (M.ret (IntKind.u64.wrap ((BitVec.ofInt IntKind.u64.bits (IntKind.u64.wrap ((IntKind.u64.wrap (IntKind.i64.wrap (IntKind.i64.wrap (s + 1) + 1075))) * 2 ^ 52)) ||| BitVec.ofInt IntKind.u64.bits (IntKind.u64.wrap ((BitVec.ofInt IntKind.u64.bits (Y.fdiv (2 ^ 1)) &&& BitVec.ofInt IntKind.u64.bits 4503599627370495).toNat))).toNat), true)))) (((j * 4503599627370496 + 9007199254740992 : Nat) : Int), true) := by
  have hd : Y.fdiv (2 ^ 1) = ((4503599627370496 : Nat) : Int) := by rw [hM]; decide
  have hs1 : IntKind.i64.wrap (s + 1) = ((j + 1 : Nat) : Int) - 1074 := by rw [hs, wrap_id (by omega) (by omega)]; omega
  have := fin0 (m := 4503599627370496) (j := j + 1) hs1 hd (by decide) (.inr (Nat.le_refl _)) (by omega)
  rw [show (j + 1) * 4503599627370496 + 4503599627370496 = j * 4503599627370496 + 9007199254740992 by omega] at this
  exact this
theorem nearest {x y K E : Nat} (hK : K = 1074) (hx0 : 0 < x) (hy : 0 < y) (hx : ln x ≤ 1000) (hly : ln y ≤ 1000) (h1 : x * 2 ^ K < 9007199254740992 * (y * 2 ^ E)) (h2 : E = 0 ∨ 4503599627370496 * (y * 2 ^ E) ≤ x * 2 ^ K)
    (h3 : E * 4503599627370496 + rnd (x * 2 ^ K) (y * 2 ^ E) < 9218868437227405312) : Ev (bits_Nearest.f (L x) (L y)) (((E * 4503599627370496 + rnd (x * 2 ^ K) (y * 2 ^ E) : Nat) : Int), true) := by
  have ba := bl_le_ln x
  have bb := bl_le_ln y
  have pa := bl_pos hx0
  have pb := bl_pos hy
  have hv : 0 < y * 2 ^ E := Nat.mul_pos hy (Nat.pow_pos (by decide))
  have hq : x * 2 ^ K / (y * 2 ^ E) < 9007199254740992 := Nat.div_lt_of_lt_mul (by rw [Nat.mul_comm (y * 2 ^ E)]; exact h1)
  have hR := rnd_le (x * 2 ^ K) (y * 2 ^ E)
  have hR2 := rnd_ge (x * 2 ^ K) (y * 2 ^ E)
  have hge : E = 0 ∨ 4503599627370496 ≤ x * 2 ^ K / (y * 2 ^ E) := h2.imp id (fun h => (Nat.le_div_iff_mul_le hv).mpr h)
  have hup : bl x + K ≤ 53 + bl y + E := by
    have a1 := bl_ge hx0
    have a2 := bl_lt y
    have a3 : 2 ^ (bl x - 1 + K) < 2 ^ (53 + bl y + E) := by
      rw [Nat.pow_add, Nat.pow_add, Nat.pow_add, Nat.mul_assoc]
      refine Nat.lt_of_le_of_lt (Nat.mul_le_mul_right _ a1) (Nat.lt_of_lt_of_le h1 ?_)
      exact Nat.mul_le_mul (by decide) (Nat.mul_le_mul_right _ (Nat.le_of_lt a2))
    have := (Nat.pow_lt_pow_iff_right (by decide)).mp a3
    omega
  have hdn : E = 0 ∨ 52 + bl y + E ≤ bl x + K := h2.imp id (fun h => by
    have a1 := bl_ge hy
    have a2 := bl_lt x
    have a3 : 2 ^ (52 + (bl y - 1) + E) < 2 ^ (bl x + K) := by
      rw [Nat.pow_add, Nat.pow_add, Nat.pow_add, Nat.mul_assoc]
      refine Nat.lt_of_le_of_lt ?_ (Nat.mul_lt_mul_of_pos_right a2 (Nat.pow_pos (by decide)))
      exact Nat.le_trans (Nat.mul_le_mul (by decide) (Nat.mul_le_mul_right _ a1)) h
    have := (Nat.pow_lt_pow_iff_right (by decide)).mp a3
    omega)
  have hexp := exp_at (a := bl x) (b := bl y) (by omega) (by omega) hK
  refine ev_eq bits_Nearest.f_eq (Ev.bind (nbits (by omega)) (ev_neg (by omega) (Ev.bind (nbits (by omega)) (Ev.bind (nbits (by omega)) (Ev.bind (nbits (by omega)) (ev_neg (by omega) ?_))))))
  rw [hexp]
  have hE : E ≤ 2047 := by omega
  -- the last part, when the exponent is E
  have last : ∀ {s Y : Int}, s = (E : Int) - 1074 → Y = ((rnd (x * 2 ^ K) (y * 2 ^ E) : Nat) : Int) → rnd (x * 2 ^ K) (y * 2 ^ E) < 9007199254740992 → Ev (if (IntKind.i64.wrap (s + 1075)) ≥ 2047 then (M.ret ((9218868437227405312 : Int), true)) else (if Y < 4503599627370496 then (M.ret (Y, true)) else (M.ret (IntKind.u64.wrap ((BitVec.ofInt IntKind.u64.bits (IntKind.u64.wrap ((IntKind.u64.wrap (IntKind.i64.wrap (s + 1075))) * 2 ^ 52)) ||| BitVec.ofInt IntKind.u64.bits (IntKind.u64.wrap ((BitVec.ofInt IntKind.u64.bits Y &&& BitVec.ofInt IntKind.u64.bits 4503599627370495).toNat))).toNat), true)))) (((E * 4503599627370496 + rnd (x * 2 ^ K) (y * 2 ^ E) : Nat) : Int), true) :=
    fun hs hM hlt => fin0 hs hM hlt (hge.imp id (fun h => by omega)) h3
  by_cases cj : bl x + 1021 - bl y = E
  · rw [cj]
    refine Ev.bind (rounded_at hy hx hly hK (by omega) (by omega)) ?_
    by_cases cR : rnd (x * 2 ^ K) (y * 2 ^ E) < 9007199254740992
    · exact ev_neg (by omega) (ev_neg (by omega) (last (by omega) rfl cR))
    · have hRe : rnd (x * 2 ^ K) (y * 2 ^ E) = 9007199254740992 := by omega
      have hh : rnd (x * 2 ^ K) (y * 2 ^ (E + 1)) = 4503599627370496 := by
        rw [Nat.pow_succ, ← Nat.mul_assoc]
        exact rnd_half hv h1 hRe
      have hq2 : x * 2 ^ K / (y * 2 ^ (E + 1)) < 9223372036854775808 := by
        have := rnd_ge (x * 2 ^ K) (y * 2 ^ (E + 1))
        omega
      have r2 := rounded_at (j := E + 1) hy hx hly hK (by omega) hq2
      rw [hh] at r2
      refine ev_pos (by omega) ?_
      rw [show IntKind.i64.wrap ((E : Int) - (K : Int) + 1) = ((E + 1 : Nat) : Int) - (K : Int) by rw [wrap_id (by omega) (by omega)]; omega]
      refine Ev.bind r2 (ev_neg (by decide) ?_)
      rw [hRe] at h3 ⊢
      have := fin0 (m := 4503599627370496) (j := E + 1) (s := ((E + 1 : Nat) : Int) - (K : Int)) (by omega) rfl (by decide) (.inr (Nat.le_refl _)) (by omega)
      rw [show (E + 1) * 4503599627370496 + 4503599627370496 = E * 4503599627370496 + 9007199254740992 by omega] at this
      exact this
  · obtain ⟨F, hF⟩ : ∃ F, E = F + 1 := ⟨E - 1, by omega⟩
    have cj2 : bl x + 1021 - bl y = F := by omega
    rw [cj2]
    have hvF : 0 < y * 2 ^ F := Nat.mul_pos hy (Nat.pow_pos (by decide))
    have hp : y * 2 ^ E = 2 * (y * 2 ^ F) := by rw [hF, Nat.pow_succ]; grind
    have g1 : x * 2 ^ K / (y * 2 ^ F) < 18014398509481984 := Nat.div_lt_of_lt_mul (by rw [hp] at h1; omega)
    have g2 : 9007199254740992 ≤ x * 2 ^ K / (y * 2 ^ F) := (Nat.le_div_iff_mul_le hvF).mpr (by rcases h2 with h | h; omega; rw [hp] at h; omega)
    have g3 := rnd_ge (x * 2 ^ K) (y * 2 ^ F)
    refine Ev.bind (rounded_at hy hx hly hK (by omega) (by omega)) (ev_pos (by omega) ?_)
    rw [show IntKind.i64.wrap ((F : Int) - (K : Int) + 1) = (E : Int) - (K : Int) by rw [wrap_id (by omega) (by omega)]; omega]
    refine Ev.bind (rounded_at hy hx hly hK (by omega) (by omega)) ?_
    by_cases cR : rnd (x * 2 ^ K) (y * 2 ^ E) < 9007199254740992
    · exact ev_neg (by omega) (last (by omega) rfl cR)
    · have hRe : rnd (x * 2 ^ K) (y * 2 ^ E) = 9007199254740992 := by omega
      refine ev_pos (by omega) ?_
      rw [hRe] at h3 ⊢
      exact fin1 (by omega) rfl h3
theorem nearest0 {y : Nat} (hy : 0 < y) (hly : ln y ≤ 1000) : Ev (bits_Nearest.f (L 0) (L y)) (0, true) := by
  have pb := bl_pos hy
  have l0 := ln_small (n := 0) (by decide)
  have b0 := bl_zero
  exact ev_eq bits_Nearest.f_eq (Ev.bind (nbits (by omega)) (ev_neg (by omega) (Ev.bind (nbits (by omega)) (Ev.bind (nbits (by omega)) (Ev.bind (nbits (by omega)) (ev_pos (by rw [b0]; rfl) (ev_now rfl)))))))
end Go.Proofs.Ytjkhkmcmnnhmcaa.F
