/- Of every three quotients of numbers of up to five limbs: sums and products hang on no order, and go through one another; a sum less one of its parts is the other one. -/
import Derived.Test.YtjkhkmcmnnhmcaaDoorQRatioLawsR2
namespace Go.Proofs.YtjkhkmcmnnhmcaaDoor.Pure
open Go Go.Proofs.YtjkhkmcmnnhmcaaDoor.E Go.Proofs.YtjkhkmcmnnhmcaaDoor.F
set_option linter.unusedVariables false
theorem RatioLaws (a0 : List Int) (h0 : ∀ n ∈ a0, (Lit.int .u32 n).wf = true) (s0 : a0.length * 4 ≤ 140737488351232) (a1 : List Int) (h1 : ∀ n ∈ a1, (Lit.int .u32 n).wf = true) (s1 : a1.length * 4 ≤ 140737488351232) (a2 : List Int) (h2 : ∀ n ∈ a2, (Lit.int .u32 n).wf = true) (s2 : a2.length * 4 ≤ 140737488351232) : Ev (numerarylaw08_RatioLaws.f a0 a1 a2) true := by
  obtain ⟨s, rfl, hs⟩ := limbs_in h0
  obtain ⟨t, rfl, ht⟩ := limbs_in h1
  obtain ⟨u, rfl, hu⟩ := limbs_in h2
  obtain ⟨n1, d1, ln1, ld1, h⟩ := of08 hs ht
  obtain ⟨n2, d2, ln2, ld2, k⟩ := of08 hu (Dg.cons (x := 3) (by decide) (hs.take 5))
  obtain ⟨n3, d3, ln3, ld3, l⟩ := of08 ht (Dg.cons (x := 5) (by decide) (hu.take 5))
  have s5 : (s.take 5).length ≤ 5 := List.length_take_le _ _
  have u5 : (u.take 5).length ≤ 5 := List.length_take_le _ _
  have c1 : (([3] : List Int).length + (nl (s.take 5)).length) ≤ 1099511627776 := by rw [nl_length]; simp only [List.length_cons, List.length_nil]; omega
  have c2 : (([5] : List Int).length + (nl (u.take 5)).length) ≤ 1099511627776 := by rw [nl_length]; simp only [List.length_cons, List.length_nil]; omega
  refine ev_eq numerarylaw08_RatioLaws.f_eq ?_
  rcases h with ⟨rfl, h⟩ | ⟨p1, a, ha, h⟩
  · refine Ev.bind h (Ev.bind (few08 s) (ev_pos c1 ?_))
    rcases k with ⟨rfl, k⟩ | ⟨p2, b, hb, k⟩
    · refine Ev.bind k (Ev.bind (few08 u) (ev_pos c2 ?_))
      rcases l with ⟨rfl, l⟩ | ⟨p3, c, hc, l⟩
      · exact Ev.bind l (ev_pos rfl (Ev.bind wakes08 (ev_now rfl)))
      · exact Ev.bind l (ev_pos rfl (Ev.bind wakes08 (ev_now rfl)))
    · refine Ev.bind k (Ev.bind (few08 u) (ev_pos c2 ?_))
      rcases l with ⟨rfl, l⟩ | ⟨p3, c, hc, l⟩
      · exact Ev.bind l (ev_pos rfl (Ev.bind wakes08 (ev_now rfl)))
      · exact Ev.bind l (ev_pos rfl (Ev.bind wakes08 (ev_now rfl)))
  · refine Ev.bind h (Ev.bind (few08 s) (ev_pos c1 ?_))
    rcases k with ⟨rfl, k⟩ | ⟨p2, b, hb, k⟩
    · refine Ev.bind k (Ev.bind (few08 u) (ev_pos c2 ?_))
      rcases l with ⟨rfl, l⟩ | ⟨p3, c, hc, l⟩
      · exact Ev.bind l (ev_neg (by simp) (ev_pos rfl (Ev.bind wakes08 (ev_now rfl))))
      · exact Ev.bind l (ev_neg (by simp) (ev_pos rfl (Ev.bind wakes08 (ev_now rfl))))
    · refine Ev.bind k (Ev.bind (few08 u) (ev_pos c2 ?_))
      rcases l with ⟨rfl, l⟩ | ⟨p3, c, hc, l⟩
      · exact Ev.bind l (ev_neg (by simp) (ev_neg (by simp) (ev_pos rfl (Ev.bind wakes08 (ev_now rfl)))))
      · have q12 : 0 < d1 * d2 := Nat.mul_pos p1 p2
        have q21 : 0 < d2 * d1 := Nat.mul_pos p2 p1
        have q23 : 0 < d2 * d3 := Nat.mul_pos p2 p3
        have q13 : 0 < d1 * d3 := Nat.mul_pos p1 p3
        obtain ⟨ab, hab, vab⟩ := ratio_add ha hb p1 p2 (by decide) (by decide)
        obtain ⟨ba, hba, vba⟩ := ratio_add hb ha p2 p1 (by decide) (by decide)
        obtain ⟨abc, habc, vabc⟩ := ratio_add hab hc q12 p3 (by decide) (by decide)
        obtain ⟨bc, hbc, vbc⟩ := ratio_add hb hc p2 p3 (by decide) (by decide)
        obtain ⟨a_bc, ha_bc, va_bc⟩ := ratio_add ha hbc p1 q23 (by decide) (by decide)
        obtain ⟨mab, hmab, vmab⟩ := ratio_mul ha hb p1 p2 (by decide) (by decide)
        obtain ⟨mba, hmba, vmba⟩ := ratio_mul hb ha p2 p1 (by decide) (by decide)
        obtain ⟨sc, hsc, vsc⟩ := ratio_mul hab hc q12 p3 (by decide) (by decide)
        obtain ⟨ac, hac, vac⟩ := ratio_mul ha hc p1 p3 (by decide) (by decide)
        obtain ⟨bc2, hbc2, vbc2⟩ := ratio_mul hb hc p2 p3 (by decide) (by decide)
        obtain ⟨dis, hdis, vdis⟩ := ratio_add hac hbc2 q13 q23 (by decide) (by decide)
        obtain ⟨aw, haw, vaw⟩ := ratio_away hab hb q12 p2 (by decide) (by decide)
        have eaw : ad ((n1 * d2 + n2 * d1) * d2) (n2 * (d1 * d2)) = n1 * d2 * d2 := by
          rw [Nat.add_mul, Nat.mul_assoc n2]; unfold ad; omega
        rw [eaw] at haw
        refine Ev.bind l (ev_neg (by simp) (ev_neg (by simp) (ev_neg (by simp) (Ev.bind vab (Ev.bind wakes08 (ev_pos rfl ?_))))))
        refine Ev.bind vba (Ev.bind (ratio_eq hab hba q12 q21 (by decide) (by decide) (by grind)) (ev_pos rfl ?_))
        refine Ev.bind vabc (Ev.bind vbc (Ev.bind va_bc (Ev.bind (ratio_eq habc ha_bc (Nat.mul_pos q12 p3) (Nat.mul_pos p1 q23) (by decide) (by decide) (by grind)) (ev_pos rfl ?_))))
        refine Ev.bind vmab (Ev.bind vmba (Ev.bind (ratio_eq hmab hmba q12 q21 (by decide) (by decide) (by grind)) (ev_pos rfl ?_)))
        refine Ev.bind vsc (Ev.bind vac (Ev.bind vbc2 (Ev.bind vdis (Ev.bind (ratio_eq hsc hdis (Nat.mul_pos q12 p3) (Nat.mul_pos q13 q23) (by decide) (by decide) (by grind)) (ev_pos rfl ?_)))))
        exact Ev.bind vaw (Ev.bind (ratio_eq haw ha (Nat.mul_pos q12 p2) p1 (by decide) (by decide) (by grind)) (ev_now rfl))
end Go.Proofs.YtjkhkmcmnnhmcaaDoor.Pure
