/- A fraction whose denominator may be is told as it is, in lowest terms; whole numbers have the denominator 1. -/
import Derived.Test.YtjkhkmcmnnhmcaaQApproxExactA1
namespace Go.Proofs.Ytjkhkmcmnnhmcaa.Pure
open Go Go.Proofs.Ytjkhkmcmnnhmcaa.E Go.Proofs.Ytjkhkmcmnnhmcaa.F
set_option linter.unusedVariables false
theorem ApproxExact (a0 : Int) (h0 : (Lit.int .u64 a0).wf = true) (a1 : Int) (h1 : (Lit.int .u32 a1).wf = true) (a2 : Int) (h2 : (Lit.int .u32 a2).wf = true) : Ev (numerarylaw22_ApproxExact.f a0 a1 a2) true := by
  obtain ⟨h0a, h0b⟩ := wf_u64 h0
  obtain ⟨h1a, h1b⟩ := wf_u32 h1
  obtain ⟨h2a, h2b⟩ := wf_u32 h2
  obtain ⟨a, rfl⟩ : ∃ n : Nat, a0 = (n : Int) := ⟨a0.toNat, by omega⟩
  obtain ⟨b, rfl⟩ : ∃ n : Nat, a1 = (n : Int) := ⟨a1.toNat, by omega⟩
  obtain ⟨k, rfl⟩ : ∃ n : Nat, a2 = (n : Int) := ⟨a2.toNat, by omega⟩
  obtain ⟨q, hq, hq1, hq2⟩ : ∃ q : Nat, IntKind.u64.wrap (IntKind.u64.wrap ((b : Int).tmod 999999999) + 1) = (q : Int) ∧ 1 ≤ q ∧ q ≤ 999999999 :=
    ⟨b % 999999999 + 1, by rw [Int.tmod_eq_emod_of_nonneg (by omega), u64_id (x := (b : Int) % 999999999) (by omega) (by omega), u64_id (by omega) (by omega)]; omega, by omega, by omega⟩
  obtain ⟨m, hm, hm1, hm2⟩ : ∃ m : Nat, mnI 999999999 (IntKind.i64.wrap (IntKind.i64.wrap (q : Int) + IntKind.i64.wrap ((k : Int).tmod 1000))) = (m : Int) ∧ q ≤ m ∧ m ≤ 999999999 := by
    rw [Int.tmod_eq_emod_of_nonneg (by omega), wrap_id (x := (q : Int)) (by omega) (by omega), wrap_id (x := (k : Int) % 1000) (by omega) (by omega), wrap_id (by omega) (by omega)]
    exact ⟨min 999999999 (q + k % 1000), by unfold mnI; split <;> omega, by omega, by omega⟩
  obtain ⟨d, r, hd, hr, hof⟩ := of22 (a := a) (b := q) (by omega) (by omega)
  obtain rfl : d = q := by omega
  obtain ⟨d1, w, hd1, hw, hof1⟩ := of22 (a := a) (b := 1) (by omega) (by omega)
  obtain rfl : d1 = 1 := by omega
  obtain ⟨n', d', rfl, p1, g, e1, la, lb⟩ := hr
  obtain ⟨n2, d2, rfl, p2, g2, e2, la2, lb2⟩ := hw
  have hdv : d' ∣ d := by
    have : d' ∣ n' * d := ⟨a, by rw [e1, Nat.mul_comm]⟩
    exact Nat.Coprime.dvd_of_dvd_mul_left (by rw [Nat.Coprime, Nat.gcd_comm]; exact g) this
  have hdle := Nat.le_of_dvd (by omega) hdv
  have hd2 : d2 = 1 := by
    rw [Nat.mul_one] at e2
    have : d2 ∣ Nat.gcd n2 d2 := Nat.dvd_gcd ⟨a, by rw [e2, Nat.mul_comm]⟩ (Nat.dvd_refl _)
    rw [g2] at this
    exact Nat.eq_one_of_dvd_one this
  subst hd2
  rw [Nat.mul_one, Nat.mul_one] at e2
  subst e2
  have hb1 := best_exact (n := n') (d := d') (m := m) p1 g (by omega) hm2 (by omega)
  have hb2 := best_exact (n := n2) (d := 1) (m := m) (by decide) g2 (by omega) hm2 (by omega)
  refine ev_eq numerarylaw22_ApproxExact.f_eq ?_
  rw [hq, hm]
  refine Ev.bind hof (Ev.bind (terms_pos p1 (by omega)) (Ev.bind (nsmall (n := d') (by omega)) (Ev.bind hb1 (Ev.bind hof1 (Ev.bind hb2 (Ev.bind (nsmall (n := n2) (by omega)) (Ev.bind wakes22 (ev_pos rfl (ev_pos rfl (ev_pos rfl (ev_pos ?_ ?_)))))))))))
  · exact u64_id (x := (d' : Int)) (by omega) (by omega)
  · exact Ev.bind (ncmp (by omega) (by omega)) (ev_pos (cmpI_self _) (ev_pos rfl (ev_pos rfl (ev_pos rfl (ev_now (decide_eq_true rfl))))))
end Go.Proofs.Ytjkhkmcmnnhmcaa.Pure
