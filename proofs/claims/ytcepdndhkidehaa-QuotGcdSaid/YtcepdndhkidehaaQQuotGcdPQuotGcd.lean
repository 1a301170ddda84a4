/- Of every two numbers of up to six limbs, both times a third one of one limb: what divides both and is the greatest is the same in the other order, the quotients by it have none in common but 1, and the third one divides it. -/
import Derived.Test.YtcepdndhkidehaaQQuotGcdY04
namespace Go.Proofs.Ytcepdndhkidehaa.Pure
open Go Go.Proofs.Ytcepdndhkidehaa.E Go.Proofs.Ytcepdndhkidehaa.F
set_option linter.unusedVariables false
theorem QuotGcd (a0 : List Int) (h0 : ∀ n ∈ a0, (Lit.int .u32 n).wf = true) (s0 : a0.length * 4 ≤ 140737488351232) (a1 : List Int) (h1 : ∀ n ∈ a1, (Lit.int .u32 n).wf = true) (s1 : a1.length * 4 ≤ 140737488351232) (a2 : Int) (h2 : (Lit.int .u32 a2).wf = true) : Ev (numerarylaw04_QuotGcd.f a0 a1 a2) true := by
  obtain ⟨s, rfl, hs⟩ := num_in h0
  obtain ⟨t, rfl, ht⟩ := num_in h1
  obtain ⟨h2a, h2b⟩ := wf_u32 h2
  obtain ⟨k, rfl⟩ : ∃ k : Nat, a2 = (k : Int) := ⟨a2.toNat, by omega⟩
  obtain ⟨a, la, ma, _⟩ := hs 6 (by omega)
  obtain ⟨b, lb, mb, _⟩ := ht 6 (by omega)
  have lk := ln_small (n := k) (by omega)
  obtain ⟨x, hx⟩ : ∃ x, a * k = x := ⟨_, rfl⟩
  obtain ⟨y, hy⟩ : ∃ y, b * k = y := ⟨_, rfl⟩
  have lx := ln_mul a k
  have ly := ln_mul b k
  have mx := nmul (m := a) (n := k) (by omega) (by omega)
  have my := nmul (m := b) (n := k) (by omega) (by omega)
  rw [hx] at lx mx
  rw [hy] at ly my
  obtain ⟨g, hg⟩ : ∃ g, Nat.gcd x y = g := ⟨_, rfl⟩
  have g1 := qgcd (a := x) (b := y) (by omega) (by omega)
  have g2 := qgcd (a := y) (b := x) (by omega) (by omega)
  rw [hg] at g1
  rw [Nat.gcd_comm, hg] at g2
  have dx : g ∣ x := by rw [← hg]; exact Nat.gcd_dvd_left x y
  have dy : g ∣ y := by rw [← hg]; exact Nat.gcd_dvd_right x y
  have dk : k ∣ g := by rw [← hg, ← hx, ← hy]; exact Nat.dvd_gcd (Nat.dvd_mul_left k a) (Nat.dvd_mul_left k b)
  have lg : ln g ≤ 9 := by
    rcases Nat.eq_zero_or_pos x with h | h
    · rw [h, Nat.gcd_zero_left] at hg; rw [← hg]; omega
    · have := ln_mono (Nat.le_of_dvd h dx); omega
  have lxy := ln_add x y
  refine ev_eq numerarylaw04_QuotGcd.f_eq ?_
  rw [wrap_u64_nat (by omega)]
  refine Ev.bind (of_val (by omega)) (Ev.bind (few04 s 6 rfl) (Ev.bind ma (Ev.bind mx (Ev.bind (few04 t 6 rfl) (Ev.bind mb (Ev.bind my (Ev.bind g1 (Ev.bind g2 (Ev.bind (ncmp (by omega) (by omega)) (ev_neg (by simp [cmpI_self]) (Ev.bind (nbits (by omega)) ?_)))))))))))
  rcases Nat.eq_zero_or_pos x with h | hx0
  · refine ev_pos (by rw [h]; rfl) (Ev.bind wakes04 (ev_pos rfl (Ev.bind (nadd (by omega) (by omega)) (Ev.bind (ncmp (by omega) (by omega)) (ev_now ?_)))))
    rw [h, Nat.gcd_zero_left] at hg
    rw [h, Nat.zero_add, hg, cmpI_self]; rfl
  · have hbx := bl_pos hx0
    refine ev_neg (by omega) (Ev.bind (nbits (by omega)) ?_)
    rcases Nat.eq_zero_or_pos y with h | hy0
    · refine ev_pos (by rw [h]; rfl) (Ev.bind wakes04 (ev_pos rfl (Ev.bind (nadd (by omega) (by omega)) (Ev.bind (ncmp (by omega) (by omega)) (ev_now ?_)))))
      rw [h, Nat.gcd_zero_right] at hg
      rw [h, Nat.add_zero, hg, cmpI_self]; rfl
    · have hby := bl_pos hy0
      have hg0 : 0 < g := Nat.pos_of_dvd_of_pos dx hx0
      have hk0 : 0 < k := Nat.pos_of_dvd_of_pos dk hg0
      have q1 := qdiv (a := x) hg0 (by omega) (by omega)
      have q2 := qdiv (a := y) hg0 (by omega) (by omega)
      have q3 := qdiv (a := g) hk0 (by omega) (by omega)
      rw [Nat.mod_eq_zero_of_dvd dx] at q1
      rw [Nat.mod_eq_zero_of_dvd dy] at q2
      rw [Nat.mod_eq_zero_of_dvd dk] at q3
      have l1 := ln_mono (Nat.div_le_self x g)
      have l2 := ln_mono (Nat.div_le_self y g)
      have g3 := qgcd (a := x / g) (b := y / g) (by omega) (by omega)
      have e1 : Nat.gcd (x / g) (y / g) = 1 := by rw [Nat.gcd_div dx dy, hg, Nat.div_self hg0]
      rw [e1] at g3
      have z := nbits (n := 0) (by decide)
      refine ev_neg (by omega) (Ev.bind q1 (Ev.bind q2 (Ev.bind q3 (Ev.bind g3 (Ev.bind (nsmall (n := 1) (by decide)) (Ev.bind wakes04 (ev_pos rfl (ev_pos rfl (ev_pos rfl (ev_pos rfl (Ev.bind z (Ev.bind z (Ev.bind z ?_)))))))))))))
      exact ev_pos (by decide) (ev_pos rfl (ev_now (by decide)))
end Go.Proofs.Ytcepdndhkidehaa.Pure
