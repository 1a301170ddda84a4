/- Of every two numbers of up to twenty limbs: the whole number next to their quotient, of two as near the greater one, is told; of nothing as divisor there is none. -/
import Derived.Test.YtcepdndhkidehaaQQuotHalvesY04
namespace Go.Proofs.Ytcepdndhkidehaa.Pure
open Go Go.Proofs.Ytcepdndhkidehaa.E Go.Proofs.Ytcepdndhkidehaa.F
set_option linter.unusedVariables false
theorem half_near {a b q : Nat} (hb : 0 < b) (hq : q = a / b + if b ≤ 2 * (a % b) then 1 else 0) : q * (b + b) ≤ a + a + b ∧ a + a < q * (b + b) + b := by
  have h1 := Nat.div_add_mod a b
  have h2 := Nat.mod_lt a hb
  generalize a / b = d at *
  generalize a % b = r at *
  subst h1
  split at hq
  · have e : q * (b + b) = b * d + b * d + b + b := by rw [hq, Nat.add_mul, Nat.mul_add, Nat.mul_comm d b]; omega
    omega
  · have e : q * (b + b) = b * d + b * d := by rw [hq, Nat.add_zero, Nat.mul_add, Nat.mul_comm d b]
    omega
theorem QuotHalves (a0 : List Int) (h0 : ∀ n ∈ a0, (Lit.int .u32 n).wf = true) (s0 : a0.length * 4 ≤ 140737488351232) (a1 : List Int) (h1 : ∀ n ∈ a1, (Lit.int .u32 n).wf = true) (s1 : a1.length * 4 ≤ 140737488351232) :
    Ev (numerarylaw04_QuotHalves.f a0 a1) true := by
  obtain ⟨s, rfl, hs⟩ := num_in h0
  obtain ⟨t, rfl, ht⟩ := num_in h1
  obtain ⟨a, la, ma, _⟩ := hs 20 (by omega)
  obtain ⟨b, lb, mb, _⟩ := ht 20 (by omega)
  refine ev_eq numerarylaw04_QuotHalves.f_eq ?_
  refine Ev.bind (few04 s 20 rfl) (Ev.bind ma (Ev.bind (few04 t 20 rfl) (Ev.bind mb ?_)))
  rcases Nat.eq_zero_or_pos b with rfl | hb
  · refine Ev.bind (qhalf0 (by omega)) (Ev.bind (nbits (by omega)) (ev_pos (by decide) (Ev.bind wakes04 (ev_pos rfl (ev_pos rfl ?_)))))
    exact Ev.bind (nbits (n := 0) (by decide)) (ev_now (by decide))
  · have hbp := bl_pos hb
    obtain ⟨q, hq⟩ : ∃ q, q = a / b + if b ≤ 2 * (a % b) then 1 else 0 := ⟨_, rfl⟩
    have hh := qhalf (a := a) hb (by omega) (by omega)
    rw [← hq] at hh
    obtain ⟨n1, n2⟩ := half_near hb hq
    have lq : ln q ≤ 22 := by
      have h3 : q ≤ a + 1 := by rw [hq]; have := Nat.div_le_self a b; split <;> omega
      have h4 := ln_mono h3
      have h5 := ln_add a 1
      have h6 := ln_small (n := 1) (by decide)
      omega
    have l2b := ln_add b b
    have l2a := ln_add a a
    have lm := ln_mul q (b + b)
    have l3 := ln_add (q * (b + b)) b
    have l4 := ln_add (a + a) b
    refine Ev.bind hh (Ev.bind (nbits (by omega)) (ev_neg (by omega) ?_))
    refine Ev.bind (nadd (by omega) (by omega)) (Ev.bind (nmul (by omega) (by omega)) (Ev.bind (nadd (by omega) (by omega)) (Ev.bind (nadd (by omega) (by omega)) (Ev.bind (nadd (by omega) (by omega)) (Ev.bind wakes04 (ev_pos rfl (ev_pos rfl ?_)))))))
    refine Ev.bind (ncmp (by omega) (by omega)) (ev_pos ?_ (Ev.bind (nadd (by omega) (by omega)) (Ev.bind (ncmp (by omega) (by omega)) (ev_now ?_))))
    · have := cmpI_gt (m := q * (b + b)) (n := a + a + b); omega
    · exact decide_eq_true (cmpI_lt.mpr n2)
end Go.Proofs.Ytcepdndhkidehaa.Pure
