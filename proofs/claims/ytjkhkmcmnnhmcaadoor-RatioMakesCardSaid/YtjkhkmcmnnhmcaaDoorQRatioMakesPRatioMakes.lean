/- The quotient of every two numbers of up to five limbs is the document's, in lowest terms, or there is none; the quotient that nothing was made of is nothing over 1. -/
import Derived.Test.YtjkhkmcmnnhmcaaDoorQRatioMakesR2
namespace Go.Proofs.YtjkhkmcmnnhmcaaDoor.Pure
open Go Go.Proofs.YtjkhkmcmnnhmcaaDoor.E Go.Proofs.YtjkhkmcmnnhmcaaDoor.F
set_option linter.unusedVariables false
theorem RatioMakes (a0 : List Int) (h0 : ∀ n ∈ a0, (Lit.int .u32 n).wf = true) (s0 : a0.length * 4 ≤ 140737488351232) (a1 : List Int) (h1 : ∀ n ∈ a1, (Lit.int .u32 n).wf = true) (s1 : a1.length * 4 ≤ 140737488351232) : Ev (numerarylaw08_RatioMakes.f a0 a1) true := by
  obtain ⟨s, rfl, hs⟩ := limbs_in h0
  obtain ⟨t, rfl, ht⟩ := limbs_in h1
  obtain ⟨a, b, la, lb, h⟩ := of08 hs ht
  have z := nbits (n := 0) (by decide)
  refine ev_eq numerarylaw08_RatioMakes.f_eq ?_
  rcases h with ⟨rfl, h⟩ | ⟨hb, r, hr, h⟩
  · refine Ev.bind h (ev_neg (fun h => h rfl) (Ev.bind terms_zero (Ev.bind (nsmall (n := 1) (by decide)) (Ev.bind wakes08 (ev_pos rfl (ev_pos rfl (Ev.bind z (ev_pos rfl (ev_pos rfl (ev_now rfl))))))))))
  · have hdp := dn_pos hb
    have hL : decide (((D b).length : Int) > 0) = true := decide_eq_true (by rw [D_length]; omega)
    have da := dn_le_ln a
    have db := dn_le_ln b
    refine Ev.bind h (ev_neg (fun h => h hL.symm) (Ev.bind terms_zero (Ev.bind (nsmall (n := 1) (by decide)) (Ev.bind wakes08 (ev_pos rfl (ev_neg (by simp) ?_))))))
    exact Ev.bind (same08 hr hb (by decide) (by omega) (by omega)) (ev_pos rfl (Ev.bind z (ev_pos rfl (ev_pos rfl (ev_now rfl)))))
end Go.Proofs.YtjkhkmcmnnhmcaaDoor.Pure
