/- The numerator over every denominator from 1 to 999999999 that is nearest to a number is the document's, of two as near the greater one; over another denominator there is none. -/
import Derived.Test.YtjkhkmcmnnhmcaaQApproxOverA1
namespace Go.Proofs.Ytjkhkmcmnnhmcaa.Pure
open Go Go.Proofs.Ytjkhkmcmnnhmcaa.E Go.Proofs.Ytjkhkmcmnnhmcaa.F
set_option linter.unusedVariables false
theorem ApproxOver (a0 : Int) (h0 : (Lit.int .u64 a0).wf = true) (a1 : Int) (h1 : (Lit.int .u64 a1).wf = true) (a2 : Int) (h2 : (Lit.int .i64 a2).wf = true) : Ev (numerarylaw22_ApproxOver.f a0 a1 a2) true := by
  obtain ⟨h0a, h0b⟩ := wf_u64 h0
  obtain ⟨h1a, h1b⟩ := wf_u64 h1
  obtain ⟨h2a, h2b⟩ := wf_i64 h2
  obtain ⟨a, rfl⟩ : ∃ n : Nat, a0 = (n : Int) := ⟨a0.toNat, by omega⟩
  obtain ⟨b, rfl⟩ : ∃ n : Nat, a1 = (n : Int) := ⟨a1.toNat, by omega⟩
  obtain ⟨d, ⟨rn, rd⟩, hd, hr, hof⟩ := of22 (a := a) (b := b) (by omega) (by omega)
  have hd0 : 0 < d := by omega
  have hr := hr.le (show 2 ≤ 1000 by decide)
  have da := dn_small (n := a) (by omega)
  have dd := dn_small (n := d) (by omega)
  have la := ln_small (n := a) (by omega)
  obtain ⟨K, hK⟩ : ∃ K : Int, IntKind.i64.wrap (1 + ((mxI 0 a2).tmod 999999999)) = K := ⟨_, rfl⟩
  refine ev_eq numerarylaw22_ApproxOver.f_eq (Ev.bind hof ?_)
  rw [hK]
  have round : ∀ (i : Nat) (x : Int), i < 2 → rdI [a2, K] (i : Int) = x → Ev (numerarylaw22_ApproxOver.l0 rn rd (D a) (D d) [a2, K] 2 ((i + 1 : Nat) : Int)) true → Ev (numerarylaw22_ApproxOver.l0 rn rd (D a) (D d) [a2, K] 2 (i : Int)) true := by
    intro i x hi hx nxt
    refine ev_loop numerarylaw22_ApproxOver.l0_eq numerarylaw22_ApproxOver.l0_step (ev_pos (by omega) (ev_pos (by omega) (ev_pos (by simp only [List.length_cons, List.length_nil]; omega) ?_)))
    rw [hx, succ_wrap (by omega)]
    by_cases c : 1 ≤ x ∧ x ≤ 999999999
    · obtain ⟨k, rfl⟩ : ∃ k : Nat, x = (k : Int) := ⟨x.toNat, by omega⟩
      have lk := ln_small (n := k) (by omega)
      have dk := dn_small (n := k) (by omega)
      have n1 := near_le (x := a * k) hd0
      have l1 := ln_mul a k
      have l2 := ln_mono n1
      have l3 := ln_add (a * k) 1
      have l4 := ln_small (n := 1) (by decide)
      have e1 := dn_mul a k
      have e2 := dn_mono n1
      have e3 := dn_add (a * k) 1
      have e4 := dn_small (n := 1) (by decide)
      refine Ev.bind (over_ok hr hd0 (by omega) (by omega)) (ev_pos (by omega) (ev_neg (fun h => h (decide_eq_true (by omega)).symm) (ev_neg (by simp) (ev_pos rfl ?_))))
      refine Ev.bind (digits22 (by omega)) (Ev.bind (ref_over hd0 (by omega) (by omega) (by omega)) (Ev.bind (rcmp_D (by omega) (by omega)) (ev_neg ?_ nxt)))
      rw [cmpI_self]; decide
    · have z := nbits (n := 0) (by decide)
      refine Ev.bind (over_bad (by omega)) ?_
      by_cases c1 : x ≥ 1
      · exact ev_pos c1 (ev_neg (fun h => h (decide_eq_false (by omega)).symm) (ev_pos rfl (Ev.bind z (ev_neg (by decide) (ev_neg (by simp) nxt)))))
      · exact ev_neg c1 (ev_neg (by simp) (ev_pos rfl (Ev.bind z (ev_neg (by decide) (ev_neg (by simp) nxt)))))
  refine round 0 a2 (by decide) rfl (round 1 K (by decide) rfl ?_)
  exact ev_loop numerarylaw22_ApproxOver.l0_eq numerarylaw22_ApproxOver.l0_step (ev_neg (by omega) (Ev.bind wakes22 (ev_now rfl)))
end Go.Proofs.Ytjkhkmcmnnhmcaa.Pure
