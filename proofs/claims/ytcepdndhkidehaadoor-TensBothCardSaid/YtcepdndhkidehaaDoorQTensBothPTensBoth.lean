/- The power of ten of every count of up to 255 is as many times five, shifted up by as many; every number of up to fifteen limbs, shifted by two counts one behind the other, is as shifted by both, up and down, and what is lost is told alike. -/
import Derived.Test.YtcepdndhkidehaaDoorQTensBothY05
namespace Go.Proofs.YtcepdndhkidehaaDoor.Pure
open Go Go.Proofs.YtcepdndhkidehaaDoor.E Go.Proofs.YtcepdndhkidehaaDoor.F
set_option linter.unusedVariables false
theorem TensBoth (a0 : List Int) (h0 : ∀ n ∈ a0, (Lit.int .u32 n).wf = true) (s0 : a0.length * 4 ≤ 140737488351232) (a1 : Int) (h1 : (Lit.int .u8 a1).wf = true) (a2 : Int) (h2 : (Lit.int .u8 a2).wf = true) : Ev (numerarylaw05_TensBoth.f a0 a1 a2) true := by
  obtain ⟨s, rfl, hs⟩ := num_in h0
  obtain ⟨a, la, ma, _⟩ := hs 15 (by omega)
  obtain ⟨h1a, h1b⟩ := wf_u8 h1
  obtain ⟨h2a, h2b⟩ := wf_u8 h2
  obtain ⟨j, rfl⟩ : ∃ j : Nat, a1 = (j : Int) := ⟨a1.toNat, by omega⟩
  obtain ⟨k, rfl⟩ : ∃ k : Nat, a2 = (k : Int) := ⟨a2.toNat, by omega⟩
  have lfive : ∀ i, i ≤ 256 → ln (5 ^ i) ≤ 34 := by
    intro i hi
    have h1 := ln_mono (show 5 ^ i ≤ 10 ^ i from Nat.pow_le_pow_left (by decide) i)
    have h2 := ln_pow10 i
    omega
  refine ev_eq numerarylaw05_TensBoth.f_eq ?_
  rw [wrap_nat (a := j) (by omega)]
  refine Ev.bind (few05 s) (Ev.bind ma (Ev.bind (of_val (n := 1) (by decide)) ?_))
  have fin : Ev (numerarylaw05_TensBoth.l0 (j : Int) (k : Int) (L a) (j : Int) (L (5 ^ j)) (j : Int) (j : Int)) true := by
    have l5 := lfive j (by omega)
    have lt := ln_pow10 j
    have l1 := ln_mono (Nat.div_le_self a (2 ^ j))
    have l2 := ln_mono (Nat.div_le_self (a / 2 ^ j) (2 ^ k))
    have u1 := ln_pow2 a j
    have u2 := ln_pow2 (a * 2 ^ j) k
    have l6 := ln_mono (Nat.div_le_self a (2 ^ (j + k)))
    have hu := up (n := 5 ^ j) (c := j) (by omega) (by omega)
    rw [← Nat.mul_pow, show 5 * 2 = 10 by decide] at hu
    have huu := up (n := a * 2 ^ j) (c := k) (by omega) (by omega)
    have hub := up (n := a) (c := j + k) (by omega) (by omega)
    rw [Nat.mul_assoc, ← Nat.pow_add] at huu u2
    have hdd := down (n := a / 2 ^ j) (c := k) (by omega) (by omega)
    rw [Nat.div_div_eq_div_mul, ← Nat.pow_add] at hdd l2
    refine ev_loop numerarylaw05_TensBoth.l0_eq numerarylaw05_TensBoth.l0_step (ev_neg (by omega) ?_)
    rw [wrap_nat (a := j) (by omega), wrap_nat (a := k) (by omega), wrap_add (by omega)]
    refine Ev.bind (down (n := a) (c := j) (by omega) (by omega)) (Ev.bind hdd (Ev.bind (down (n := a) (c := j + k) (by omega) (by omega)) (Ev.bind wakes05 (ev_pos rfl (Ev.bind hu (Ev.bind (ten (by omega)) (Ev.bind (ncmp (by omega) (by omega)) (ev_pos (cmpI_self _) ?_))))))))
    refine Ev.bind (up (n := a) (c := j) (by omega) (by omega)) (Ev.bind huu (Ev.bind hub (Ev.bind (ncmp (by omega) (by omega)) (ev_pos (cmpI_self _) (Ev.bind (ncmp (by omega) (by omega)) (ev_pos (cmpI_self _) ?_))))))
    have hmod : a % 2 ^ (j + k) = a % 2 ^ j + 2 ^ j * (a / 2 ^ j % 2 ^ k) := by rw [Nat.pow_add, Nat.mod_mul]
    by_cases hz : a % 2 ^ j = 0
    · refine ev_neg (by simp [hz]) (ev_now ?_)
      refine decide_eq_true (decide_eq_decide.mpr ?_)
      rw [hmod, hz, Nat.zero_add]
      have hp : 0 < 2 ^ j := Nat.pow_pos (by decide)
      constructor
      · intro h h2; rw [h2] at h; exact h rfl
      · intro h h2
        rcases Nat.mul_eq_zero.mp h2 with h3 | h3
        · omega
        · exact h h3
    · refine ev_pos (decide_eq_true hz) (ev_now ?_)
      refine decide_eq_true (decide_eq_true ?_)
      rw [hmod]; omega
  have loop : ∀ d i, i + d = j → Ev (numerarylaw05_TensBoth.l0 (j : Int) (k : Int) (L a) (j : Int) (L (5 ^ i)) (j : Int) (i : Int)) true := by
    intro d
    induction d with
    | zero => intro i hi; have : i = j := by omega
              subst this; exact fin
    | succ d ih =>
      intro i hi
      have l5 := lfive i (by omega)
      have lu := ln_pow2 (5 ^ i) 2
      refine ev_loop numerarylaw05_TensBoth.l0_eq numerarylaw05_TensBoth.l0_step (ev_pos (by omega) ?_)
      refine Ev.bind (up (n := 5 ^ i) (c := 2) (by omega) (by omega)) (Ev.bind (nadd (by omega) (by omega)) ?_)
      rw [succ_wrap (by omega), show 5 ^ i * 2 ^ 2 + 5 ^ i = 5 ^ (i + 1) by rw [Nat.pow_succ]; omega]
      exact ih (i + 1) (by omega)
  exact loop j 0 (by omega)
end Go.Proofs.YtcepdndhkidehaaDoor.Pure
