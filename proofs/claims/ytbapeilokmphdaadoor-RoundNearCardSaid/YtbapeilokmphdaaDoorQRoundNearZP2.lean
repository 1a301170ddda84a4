/- What a quotient is rounded to is half a step from it at most, below it less than that or as much above it; rounded again it stays. -/
import Derived.Test.YtbapeilokmphdaaDoorQRoundNearZP1
namespace Go.Proofs.YtbapeilokmphdaaDoor.Pure
open Go Go.Proofs.YtbapeilokmphdaaDoor.E Go.Proofs.YtbapeilokmphdaaDoor.F
set_option linter.unusedVariables false
set_option linter.unusedSimpArgs false
theorem tenfold_ok {m : Nat} (h : ln m ≤ 100000) : Ev (numerarylaw09_tenfold.f (L m)) (L (10 * m)) := by
  have a2 := ln_add m m
  have a4 := ln_add (m + m) (m + m)
  have a8 := ln_add (m + m + (m + m)) (m + m + (m + m))
  have a10 := ln_add (m + m + (m + m) + (m + m + (m + m))) (m + m)
  have e : m + m + (m + m) + (m + m + (m + m)) + (m + m) = 10 * m := by omega
  refine ev_eq numerarylaw09_tenfold.f_eq (Ev.bind (nadd (by omega) (by omega)) (Ev.bind (nadd (by omega) (by omega)) (Ev.bind (nadd (by omega) (by omega)) (Ev.bind (nadd (by omega) (by omega)) (Ev.bind (limbs_L (by omega)) (ev_now ?_))))))
  rw [e]
theorem made_L {m : Nat} (h : ln m ≤ 100000) : Ev (nat_Made.f (L m)) (L m) := by
  have := made_val (l := dg 4294967296 m) (by show ln m ≤ _; omega) (Dg_dg b32 m)
  rw [val_dg b32] at this
  exact this
theorem ln_dec (m : Nat) {k : Nat} (h : m < 10 ^ k) : ln m ≤ k := by
  refine (dg_len b32 _ _).mpr (Nat.lt_of_lt_of_le h (Nat.pow_le_pow_left (by decide) k))
theorem RoundNear (a0 : List Int) (h0 : ∀ n ∈ a0, (Lit.int .u32 n).wf = true) (s0 : a0.length * 4 ≤ 140737488351232) (a1 : List Int) (h1 : ∀ n ∈ a1, (Lit.int .u32 n).wf = true) (s1 : a1.length * 4 ≤ 140737488351232) (a2 : Int) (h2 : (Lit.int .u8 a2).wf = true) : Ev (numerarylaw09_RoundNear.f a0 a1 a2) true := by
  obtain ⟨x, rfl, hx⟩ := made_in h0
  obtain ⟨y, rfl, hy⟩ := made_in h1
  obtain ⟨h2a, h2b⟩ := wf_u8 h2
  obtain ⟨z, rfl⟩ : ∃ n : Nat, a2 = (n : Int) := ⟨a2.toNat, by omega⟩
  obtain ⟨p, hp, hp2⟩ : ∃ p : Nat, IntKind.i64.wrap ((z : Int).tmod 50) = (p : Int) ∧ p < 50 := ⟨z % 50, by
    rw [Int.tmod_eq_emod_of_nonneg (by omega), wrap_id (by omega) (by omega)]; omega, Nat.mod_lt _ (by decide)⟩
  obtain ⟨n, ln1, mn⟩ := hx 4 (by decide)
  obtain ⟨d, ld, md⟩ := hy 4 (by decide)
  obtain ⟨fx1, fx2, fx3⟩ := few_of (l := x) 4 (N := 4) rfl
  obtain ⟨fy1, fy2, fy3⟩ := few_of (l := y) 4 (N := 4) rfl
  have l1 := ln_small (n := 1) (by decide)
  refine ev_eq numerarylaw09_RoundNear.f_eq (ev_pos fx2 (ev_pos fx3 ?_))
  rw [fx1, hp]
  refine Ev.bind mn (ev_pos fy2 (ev_pos fy3 ?_))
  rw [fy1]
  refine Ev.bind md ?_
  rcases Nat.eq_zero_or_pos d with rfl | hd
  · exact Ev.bind ratio_of0 (ev_pos rfl (Ev.bind wakes09 (ev_now rfl)))
  · obtain ⟨r, hr, vr⟩ := ratio_of (a := n) (b := d) (c := 4) hd (by decide) ln1 ld
    have hat := at_ok (p := p) hr hd (by decide) (by omega)
    obtain ⟨N, hN⟩ : ∃ N, N = near (n * 10 ^ p) d := ⟨_, rfl⟩
    rw [← hN] at hat
    have lT := ten_ln (k := p) (by omega)
    have lN : ln N ≤ 2000 := by
      have h1 := near_le (x := n * 10 ^ p) hd
      rw [← hN] at h1
      have h2 := ln_mono h1
      have h3 := ln_add (n * 10 ^ p) 1
      have h4 := ln_mul n (10 ^ p)
      omega
    have dN : dn N ≤ 20000 := Nat.le_trans (dn_of_ln lN) (by decide)
    have hm := mod10_lt N p
    have hT : 0 < 10 ^ p := Nat.pow_pos (by decide)
    obtain ⟨l, hl⟩ : ∃ l, l = decs0 (N / 10 ^ p) ++ tail p (N % 10 ^ p) := ⟨_, rfl⟩
    have hlD : isD l := by rw [hl]; exact (decs0_isD _).app (tail_isD _ _)
    have hnum : num l = N := by rw [hl, num_app, num_decs0, num_tail, tail_len hm]; exact split10 N p
    have hdq := dn_mono (Nat.div_le_self N (10 ^ p))
    have hll : l.length ≤ 30000 := by rw [hl, List.length_append, decs0_len, tail_len hm]; omega
    refine Ev.bind vr (ev_neg (by simp) (Ev.bind hat (ev_pos (by rw [S_size, S_size, decs0_len, tail_len hm]; omega) ?_)))
    dsimp only
    rw [S_app, ← hl, bytesOf_S hlD.dg, nl_length]
    -- what follows the loop
    obtain ⟨q, hq, vq⟩ := ratio_of (a := N) (b := 10 ^ p) (c := 2000) hT (by decide) lN (by omega)
    obtain ⟨st, hst, vst⟩ := ratio_of (a := 1) (b := 10 ^ p) (c := 1300) hT (by decide) (by omega) (by omega)
    have lTT := ln_add (10 ^ p) (10 ^ p)
    obtain ⟨hf, hhf, vhf⟩ := ratio_of (a := 1) (b := 10 ^ p + 10 ^ p) (c := 1300) (by omega) (by decide) (by omega) (by omega)
    obtain ⟨aw, haw, vaw⟩ := ratio_away hr hq hd hT (by decide) (by decide)
    have v1 := ratio_cmp haw hhf (Nat.mul_pos hd hT) (by omega) (by decide) (by decide)
    have v2 := ratio_cmp hq hr hT hd (by decide) (by decide)
    obtain ⟨g1, hg1, vg1⟩ := step_ok hr hst hd (by decide) hT (by decide) (by decide)
    obtain ⟨g2, hg2, vg2⟩ := step_ok hq hst hT (by decide) hT (by decide) (by decide)
    rw [Nat.mul_one, Nat.mul_one, ← hN] at hg1
    rw [Nat.mul_one, Nat.mul_one, show near (N * 10 ^ p) (10 ^ p) = N from near_uniq hT (by rw [Nat.mul_assoc]; exact Nat.le_add_right _ _) (by rw [Nat.add_mul, Nat.mul_assoc]; generalize 10 ^ p = T at *; omega)] at hg2
    have c1 := ratio_cmp hg1 hq hT hT (by decide) (by decide)
    have c2 := ratio_cmp hg2 hq hT hT (by decide) (by decide)
    rw [cmpI_self] at c1 c2
    have hw := half_way (A := n * 10 ^ p) (B := d) (Y := 10 ^ p) (K := N) hd hT hN
    have e1 : ad (n * 10 ^ p) (N * d) * (10 ^ p + 10 ^ p) = 2 * ad (n * 10 ^ p) (N * d) * 10 ^ p := by grind
    have e2 : 1 * (d * 10 ^ p) = d * 10 ^ p := Nat.one_mul _
    rw [e1, e2] at v1
    have fin : Ev (M.bind (ratio_Away.f r q) fun t16 => (M.bind (ratio_Cmp.f t16 hf) fun t17 => (M.bind (round_Step.f r st) fun t18 => (M.bind (round_Step.f q st) fun t19 => (if t17 < 0 then (if t18.2 = true then (M.bind (ratio_Cmp.f t18.1 q) fun t20 => (if t20 = 0 then (if t19.2 = true then (M.bind (ratio_Cmp.f t19.1 q) fun t21 => (M.ret (decide (t21 = 0)))) else (M.ret false)) else (M.ret false))) else (M.ret false)) else (if t17 = 0 then (M.bind (ratio_Cmp.f q r) fun t22 => (if t22 > 0 then (if t18.2 = true then (M.bind (ratio_Cmp.f t18.1 q) fun t23 => (if t23 = 0 then (if t19.2 = true then (M.bind (ratio_Cmp.f t19.1 q) fun t24 => (M.ret (decide (t24 = 0)))) else (M.ret false)) else (M.ret false))) else (M.ret false)) else (M.ret false))) else (M.ret false)))))) ) true := by
      refine Ev.bind vaw (Ev.bind v1 (Ev.bind vg1 (Ev.bind vg2 ?_)))
      rcases hw with h | ⟨h, h'⟩
      · exact ev_pos h (ev_pos rfl (Ev.bind c1 (ev_pos rfl (ev_pos rfl (Ev.bind c2 (ev_now rfl))))))
      · exact ev_neg (by omega) (ev_pos h (Ev.bind v2 (ev_pos (cmpI_gt.mpr h') (ev_pos rfl (Ev.bind c1 (ev_pos rfl (ev_pos rfl (Ev.bind c2 (ev_now rfl)))))))))
    have htz : (p : Int) = ((p : Nat) : Int) := rfl
    have loop : ∀ k i, i + k = l.length → Ev (numerarylaw09_RoundNear.l0 r.1 r.2 (p : Int) (S (decs0 (N / 10 ^ p))) (S (tail p (N % 10 ^ p))) true (L (num (l.take i))) (nl l) (l.length : Int) (i : Int)) true := by
      intro k
      induction k with
      | zero =>
        intro i hi
        rw [show i = l.length by omega, List.take_length, hnum]
        refine ev_loop numerarylaw09_RoundNear.l0_eq numerarylaw09_RoundNear.l0_step (ev_neg (by omega) (Ev.bind (ten (by omega)) (Ev.bind vq (Ev.bind (of_val (n := 1) (by decide)) (Ev.bind (ten (by omega)) (Ev.bind vst (Ev.bind (of_val (n := 1) (by decide)) (Ev.bind (ten (by omega)) (Ev.bind (ten (by omega)) (Ev.bind (nadd (by omega) (by omega)) (Ev.bind vhf (Ev.bind wakes09 (ev_neg (by decide) (ev_neg (by simp) (ev_neg (by simp) (ev_neg (by simp) (ev_neg (by simp) (ev_neg (by rw [S_size, tail_len hm]; omega) ?_))))))))))))))))))
        rcases Nat.eq_zero_or_pos (N / 10 ^ p) with hz | hz
        · rw [hz]
          exact ev_neg (by rw [decs0_zero, S_nil]; simp) fin
        · obtain ⟨c, t, h3, h4, h5⟩ := decs0_head hz
          have hb := byteAt_S (decs0_isD (N / 10 ^ p)).dg 0
          rw [show (((0 : Nat) : Int)) = 0 from rfl, h3, gd_cons_zero] at hb
          rw [h3]
          exact ev_pos (S_ne (by simp)) (ev_pos (by decide) (ev_pos (by rw [S_size]; simp) (ev_neg (by rw [hb]; omega) fin)))
      | succ k ih =>
        intro i hi
        have hg := hlD (gd l i) (by
          unfold gd; rw [List.getD_eq_getElem?_getD, List.getElem?_eq_getElem (by omega)]
          exact List.getElem_mem _)
        have hlt := num_lt (hlD.take i)
        rw [List.length_take] at hlt
        have lnm : ln (num (l.take i)) ≤ 30000 := Nat.le_trans (ln_dec _ hlt) (by omega)
        have ln10 : ln (10 * num (l.take i)) ≤ 30002 := by
          have := ln_mul 10 (num (l.take i))
          have := ln_small (n := 10) (by decide)
          omega
        have lgd := ln_small (n := gd l i - 48) (by omega)
        refine ev_loop numerarylaw09_RoundNear.l0_eq numerarylaw09_RoundNear.l0_step (ev_pos (by omega) (ev_pos (by omega) (ev_pos (by rw [nl_length]; omega) ?_)))
        rw [rd_nl]
        refine ev_neg (by omega) (ev_neg (by omega) (Ev.bind (tenfold_ok (by omega)) (Ev.bind (made_L (by omega)) ?_)))
        rw [show IntKind.u64.wrap (IntKind.u8.wrap (((gd l i : Nat) : Int) - 48)) = ((gd l i - 48 : Nat) : Int) by rw [u8_id (by omega) (by omega), u64_id (by omega) (by omega)]; omega]
        refine Ev.bind (of_val (by omega)) (Ev.bind (nadd (by omega) (by omega)) ?_)
        rw [show IntKind.i64.wrap ((i : Int) + 1) = ((i + 1 : Nat) : Int) by rw [wrap_id (by omega) (by omega)]; omega]
        have := ih (i + 1) (by omega)
        rw [take_succ l i (by omega), num_snoc, Nat.mul_comm (num _)] at this
        exact this
    exact loop l.length 0 (by omega)
end Go.Proofs.YtbapeilokmphdaaDoor.Pure
