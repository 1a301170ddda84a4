/- Of every quotient of numbers of up to five limbs: the whole part and the rest, which is below 1, together are the quotient; scaled by a power of ten, of up to 60 places, it is as many times as much; by one too great it is 0. -/
import Derived.Test.YtjkhkmcmnnhmcaaDoorQRatioPartsR2
namespace Go.Proofs.YtjkhkmcmnnhmcaaDoor.Pure
open Go Go.Proofs.YtjkhkmcmnnhmcaaDoor.E Go.Proofs.YtjkhkmcmnnhmcaaDoor.F
set_option linter.unusedVariables false
theorem dg_shift (n : Nat) (hn : 0 < n) (k : Nat) : dg 10 (n * 10 ^ k) = List.replicate k 0 ++ dg 10 n := by
  induction k with
  | zero => rw [Nat.pow_zero, Nat.mul_one]; rfl
  | succ k ih =>
    rw [dg_pos b10 (Nat.mul_pos hn (Nat.pow_pos (by decide))), Nat.pow_succ, ← Nat.mul_assoc, Nat.mul_mod_left, Nat.mul_div_cancel _ (by decide), ih]; rfl
theorem tens_up {n k : Nat} (hn : dn n ≤ 1048576) (hk : k ≤ 1048576) : Ev (numeraryref07_Tens.f (D n) (k : Int)) (D (n * 10 ^ k)) := by
  refine ev_eq numeraryref07_Tens.f_eq ?_
  rcases Nat.eq_zero_or_pos n with rfl | h0
  · exact ev_pos rfl (ev_now (by rw [Nat.zero_mul]))
  · have := dn_pos h0
    refine ev_neg (by rw [D_length]; omega) ?_
    rcases Nat.eq_zero_or_pos k with rfl | hk0
    · exact ev_pos (by omega) (ev_now (by rw [Nat.pow_zero, Nat.mul_one]))
    · refine ev_neg (by omega) (ev_pos (by omega) (ev_pos (by omega) (ev_pos ?_ (ev_now ?_))))
      · rw [D_length, List.length_replicate, Int.toNat_natCast]; omega
      · rw [Int.toNat_natCast, show List.replicate k (0 : Int) = nl (List.replicate k 0) from nl_replicate k 0]
        unfold D
        rw [dg_shift n h0, nl_append]
theorem tens_low {n : Nat} {k : Int} (hk : k < 1) : Ev (numeraryref07_Tens.f (D n) k) (D n) := by
  refine ev_eq numeraryref07_Tens.f_eq ?_
  by_cases h : ((D n).length : Int) = 0
  · exact ev_pos h (ev_now rfl)
  · exact ev_neg h (ev_pos hk (ev_now rfl))
theorem dn_pow10 (n k : Nat) : dn (n * 10 ^ k) ≤ dn n + k := by
  refine (dg_len b10 _ _).mpr ?_
  rw [Nat.pow_add]
  exact Nat.mul_lt_mul_of_pos_right (dg_lt b10 n) (Nat.pow_pos (by decide))
theorem RatioParts (a0 : List Int) (h0 : ∀ n ∈ a0, (Lit.int .u32 n).wf = true) (s0 : a0.length * 4 ≤ 140737488351232) (a1 : List Int) (h1 : ∀ n ∈ a1, (Lit.int .u32 n).wf = true) (s1 : a1.length * 4 ≤ 140737488351232) (a2 : Int) (h2 : (Lit.int .i64 a2).wf = true) : Ev (numerarylaw08_RatioParts.f a0 a1 a2) true := by
  obtain ⟨s, rfl, hs⟩ := limbs_in h0
  obtain ⟨t, rfl, ht⟩ := limbs_in h1
  obtain ⟨h2a, h2b⟩ := wf_i64 h2
  obtain ⟨n, d, ln1, ld1, h⟩ := of08 hs ht
  have l1 := ln_small (n := 1) (by decide)
  refine ev_eq numerarylaw08_RatioParts.f_eq ?_
  rcases h with ⟨rfl, h⟩ | ⟨hd, r, hr, h⟩
  · exact Ev.bind h (ev_pos rfl (Ev.bind wakes08 (ev_now rfl)))
  · obtain ⟨n', d', rfl, p1, g, e1, la, lb⟩ := hr
    have hr : RQ (L n', L d') n d 5 := ⟨n', d', rfl, p1, g, e1, la, lb⟩
    have hr2 : RQ (L n', L d') n' d' 5 := ⟨n', d', rfl, p1, g, rfl, la, lb⟩
    have dn1 := dn_le_ln n
    have dd1 := dn_le_ln d
    have hw : n' / d' = n / d := by
      rw [← Nat.mul_div_mul_right n' d' hd, e1, Nat.mul_comm d' d, Nat.mul_div_mul_right n d p1]
    have lq := ln_mono (Nat.div_le_self n' d')
    have lr := ln_mono (Nat.mod_le n' d')
    have hml := Nat.mod_lt n' p1
    obtain ⟨rest, hrest, vrest⟩ := lowest (a := n' % d') (b := d') (c := 5) p1 (by decide) (by omega) lb
    have hparts : Ev (ratio_Ratio_Parts.f (L n', L d')) (L (n' / d'), rest) := ev_eq ratio_Ratio_Parts.f_eq (Ev.bind (under_pos p1 (by omega)) (Ev.bind (qdiv p1 (by omega) (by omega)) (Ev.bind vrest (ev_now rfl))))
    obtain ⟨whole, hwhole, vwhole⟩ := ratio_of (a := n' / d') (b := 1) (c := 5) (by decide) (by decide) (by omega) (by omega)
    obtain ⟨one, hone, vone⟩ := ratio_of (a := 1) (b := 1) (c := 5) (by decide) (by decide) (by omega) (by omega)
    obtain ⟨sum, hsum, vsum⟩ := ratio_add hwhole hrest (by decide) p1 (by decide) (by decide)
    have hcmp := ratio_cmp hrest hone p1 (by decide) (by decide) (by decide)
    have heq := ratio_eq hsum hr2 (Nat.mul_pos (by decide) p1) p1 (by decide) (by decide) (by
      have := Nat.div_add_mod n' d'
      rw [Nat.mul_one, Nat.one_mul, Nat.mul_comm (n' / d'), this])
    have dq := dn_le_ln (n' / d')
    have dq2 := dn_mono (Nat.div_le_self n d)
    have hdiv := rdiv_D (a := n) (b := d) hd (by omega) (by omega)
    obtain ⟨K, hK, hKb⟩ : ∃ K : Int, mxI (-60) (mnI a2 60) = K ∧ -60 ≤ K ∧ K ≤ 60 := ⟨_, rfl, by unfold mxI mnI; split <;> split <;> omega, by unfold mxI mnI; split <;> split <;> omega⟩
    rw [hK]
    have main : ∃ y1 y2 q, Ev (numeraryref07_Tens.f (D n) K) y1 ∧ Ev (numeraryref07_Tens.f (D d) (IntKind.i64.wrap (0 - K))) y2 ∧ Ev (ratio_Ratio_Scale.f (L n', L d') K) q ∧ Ev (numerarylaw08_same.f q (y1, y2)) true := by
      have hwk : IntKind.i64.wrap (0 - K) = 0 - K := wrap_id (by omega) (by omega)
      rw [hwk]
      by_cases h0 : 0 ≤ K
      · obtain ⟨k, rfl⟩ : ∃ k : Nat, K = (k : Int) := ⟨K.toNat, by omega⟩
        have lt := ln_mul n' (10 ^ k)
        have lk : ln (10 ^ k) ≤ 60 := (dg_len b32 _ _).mpr (by
          have h1 : 10 ^ k ≤ 10 ^ 60 := Nat.pow_le_pow_right (by decide) (by omega)
          have h2 : 10 ^ 60 < 4294967296 ^ 60 := Nat.pow_lt_pow_left (by decide) (by decide)
          omega)
        obtain ⟨q, hq, vq⟩ := lowest (a := n' * 10 ^ k) (b := d') (c := 100) p1 (by decide) (by omega) (by omega)
        have hq2 : RQ q (n * 10 ^ k) d 100 := hq.trans p1 (by rw [Nat.mul_right_comm, e1, Nat.mul_right_comm])
        have dk := dn_pow10 n k
        exact ⟨_, _, q, tens_up (by omega) (by omega), tens_low (by omega), ev_eq ratio_Ratio_Scale.f_eq (ev_neg (by omega) (ev_neg (by omega) (ev_neg (by omega) (Ev.bind (ten (by omega)) (Ev.bind (nmul (by omega) (by omega)) (Ev.bind (under_pos p1 (by omega)) (Ev.bind vq (ev_now rfl)))))))), same08 hq2 hd (by decide) (by omega) (by omega)⟩
      · obtain ⟨k, hk⟩ : ∃ k : Nat, 0 - K = (k : Int) := ⟨(0 - K).toNat, by omega⟩
        rw [hk]
        have lt := ln_mul d' (10 ^ k)
        have lk : ln (10 ^ k) ≤ 60 := (dg_len b32 _ _).mpr (by
          have h1 : 10 ^ k ≤ 10 ^ 60 := Nat.pow_le_pow_right (by decide) (by omega)
          have h2 : 10 ^ 60 < 4294967296 ^ 60 := Nat.pow_lt_pow_left (by decide) (by decide)
          omega)
        have hp10 : 0 < 10 ^ k := Nat.pow_pos (by decide)
        obtain ⟨q, hq, vq⟩ := lowest (a := n') (b := d' * 10 ^ k) (c := 100) (Nat.mul_pos p1 hp10) (by decide) (by omega) (by omega)
        have hq2 : RQ q n (d * 10 ^ k) 100 := hq.trans (Nat.mul_pos p1 hp10) (by rw [← Nat.mul_assoc, e1, Nat.mul_assoc])
        have dk := dn_pow10 d k
        refine ⟨_, _, q, tens_low (by omega), tens_up (by omega) (by omega), ev_eq ratio_Ratio_Scale.f_eq (ev_neg (by omega) (ev_neg (by omega) (ev_pos (by omega) (Ev.bind (under_pos p1 (by omega)) ?_)))), same08 hq2 (Nat.mul_pos hd hp10) (by decide) (by omega) (by omega)⟩
        rw [hwk, hk]
        exact Ev.bind (ten (by omega)) (Ev.bind (nmul (by omega) (by omega)) (Ev.bind vq (ev_now rfl)))
    obtain ⟨y1, y2, q, hy1, hy2, hsc, hsame⟩ := main
    have hone1 := of_val (n := 1) (by decide)
    have hzero : Ev (ratio_Cmp.f (([] : List Int), ([] : List Int)) (([] : List Int), ([] : List Int))) 0 :=
      ev_eq ratio_Cmp.f_eq (Ev.bind (ev_eq ratio_crossed.f_eq (Ev.bind under_zero (Ev.bind under_zero (Ev.bind (nmul (m := 0) (n := 1) (by decide) (by omega)) (Ev.bind (nmul (m := 0) (n := 1) (by decide) (by omega)) (Ev.bind (nmul (m := 1) (n := 1) (by omega) (by omega)) (ev_now rfl))))))) (Ev.bind (ncmp (m := 0 * 1) (n := 0 * 1) (by decide) (by decide)) (ev_now rfl)))
    refine Ev.bind h (ev_neg (by simp) (Ev.bind hparts (Ev.bind hdiv (Ev.bind hone1 (Ev.bind vwhole (Ev.bind hone1 (Ev.bind hone1 (Ev.bind vone (Ev.bind hy1 (Ev.bind hy2 (Ev.bind wakes08 (ev_pos rfl ?_))))))))))))
    refine Ev.bind (digits08 (by omega)) (Ev.bind (rcmp_D (by omega) (by omega)) (ev_pos (by rw [hw, cmpI_self]) (Ev.bind hcmp (ev_pos (cmpI_lt.mpr (by rw [Nat.mul_one, Nat.one_mul]; exact hml)) (Ev.bind vsum (Ev.bind heq (ev_pos rfl (Ev.bind hsc (Ev.bind hsame (ev_pos rfl ?_))))))))))
    by_cases c1 : a2 ≥ -5000
    · refine ev_pos c1 ?_
      by_cases c2 : a2 ≤ 5000
      · exact ev_pos c2 (ev_now rfl)
      · exact ev_neg c2 (Ev.bind (ev_eq ratio_Ratio_Scale.f_eq (ev_neg (by omega) (ev_pos (by omega) (ev_now rfl)))) (Ev.bind hzero (ev_now rfl)))
    · exact ev_neg c1 (Ev.bind (ev_eq ratio_Ratio_Scale.f_eq (ev_pos (by omega) (ev_now rfl))) (Ev.bind hzero (ev_now rfl)))
end Go.Proofs.YtjkhkmcmnnhmcaaDoor.Pure
