/- Of every two quotients of numbers of up to five limbs: which is greater, the sum, the product, and how far they are from one another, are the document's, in lowest terms. -/
import Derived.Test.YtjkhkmcmnnhmcaaDoorQRatioReckonsR2
namespace Go.Proofs.YtjkhkmcmnnhmcaaDoor.Pure
open Go Go.Proofs.YtjkhkmcmnnhmcaaDoor.E Go.Proofs.YtjkhkmcmnnhmcaaDoor.F
set_option linter.unusedVariables false
theorem RatioReckons (a0 : List Int) (h0 : ∀ n ∈ a0, (Lit.int .u32 n).wf = true) (s0 : a0.length * 4 ≤ 140737488351232) (a1 : List Int) (h1 : ∀ n ∈ a1, (Lit.int .u32 n).wf = true) (s1 : a1.length * 4 ≤ 140737488351232) (a2 : List Int) (h2 : ∀ n ∈ a2, (Lit.int .u32 n).wf = true) (s2 : a2.length * 4 ≤ 140737488351232) : Ev (numerarylaw08_RatioReckons.f a0 a1 a2) true := by
  obtain ⟨s, rfl, hs⟩ := limbs_in h0
  obtain ⟨t, rfl, ht⟩ := limbs_in h1
  obtain ⟨u, rfl, hu⟩ := limbs_in h2
  obtain ⟨n, d, ln1, ld1, h⟩ := of08 hs ht
  obtain ⟨m, e, lm1, le1, k⟩ := of08 hu (Dg.cons (x := 1) (by decide) (hs.take 5))
  have s5 : (s.take 5).length ≤ 5 := List.length_take_le _ _
  refine ev_eq numerarylaw08_RatioReckons.f_eq ?_
  rcases h with ⟨rfl, h⟩ | ⟨hd, r, hr, h⟩
  · refine Ev.bind h (Ev.bind (few08 s) (ev_pos (by rw [nl_length]; simp only [List.length_cons, List.length_nil]; omega) ?_))
    rcases k with ⟨rfl, k⟩ | ⟨he, q, hq, k⟩
    · exact Ev.bind k (ev_pos rfl (Ev.bind wakes08 (ev_now rfl)))
    · exact Ev.bind k (ev_pos rfl (Ev.bind wakes08 (ev_now rfl)))
  · refine Ev.bind h (Ev.bind (few08 s) (ev_pos (by rw [nl_length]; simp only [List.length_cons, List.length_nil]; omega) ?_))
    rcases k with ⟨rfl, k⟩ | ⟨he, q, hq, k⟩
    · exact Ev.bind k (ev_neg (by simp) (ev_pos rfl (Ev.bind wakes08 (ev_now rfl))))
    · have dn1 := dn_le_ln n
      have dd1 := dn_le_ln d
      have dm1 := dn_le_ln m
      have de1 := dn_le_ln e
      have hde : 0 < d * e := Nat.mul_pos hd he
      have b1 := dn_mul n e
      have b2 := dn_mul m d
      have b3 := dn_mul d e
      have b4 := dn_add (n * e) (m * d)
      have b5 := dn_mul n m
      have b6 : dn (ad (n * e) (m * d)) ≤ 101 := by
        have := dn_mono (ad_le (n * e) (m * d))
        rcases Nat.le_total (n * e) (m * d) with h | h
        · rw [Nat.max_eq_right h] at this; omega
        · rw [Nat.max_eq_left h] at this; omega
      obtain ⟨t1, p1, v1⟩ := ratio_add hr hq hd he (by decide) (by decide)
      obtain ⟨t2, p2, v2⟩ := ratio_mul hr hq hd he (by decide) (by decide)
      obtain ⟨t3, p3, v3⟩ := ratio_away hr hq hd he (by decide) (by decide)
      obtain ⟨t4, p4, v4⟩ := ratio_away hq hr he hd (by decide) (by decide)
      rw [ad_comm, Nat.mul_comm e d] at p4
      refine Ev.bind k (ev_neg (by simp) (ev_neg (by simp) (Ev.bind wakes08 (ev_pos rfl (Ev.bind (ratio_cmp hr hq hd he (by decide) (by decide)) (Ev.bind (rcmp08 (by omega) (by omega) (by omega) (by omega)) (ev_pos rfl ?_)))))))
      refine Ev.bind v1 (Ev.bind (radd08 (by omega) (by omega) (by omega) (by omega)) (Ev.bind (same08 p1 hde (by decide) (by omega) (by omega)) (ev_pos rfl ?_)))
      refine Ev.bind v2 (Ev.bind (rmul08 (by omega) (by omega) (by omega) (by omega)) (Ev.bind (same08 p2 hde (by decide) (by omega) (by omega)) (ev_pos rfl ?_)))
      refine Ev.bind v3 (Ev.bind (raway08 (by omega) (by omega) (by omega) (by omega)) (Ev.bind (same08 p3 hde (by decide) (by omega) (by omega)) (ev_pos rfl ?_)))
      exact Ev.bind v4 (Ev.bind (raway08 (by omega) (by omega) (by omega) (by omega)) (Ev.bind (same08 p4 hde (by decide) (by omega) (by omega)) (ev_now rfl)))
end Go.Proofs.YtjkhkmcmnnhmcaaDoor.Pure
