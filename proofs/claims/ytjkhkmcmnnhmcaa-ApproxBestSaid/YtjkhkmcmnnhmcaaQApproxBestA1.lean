/- Fractions near numbers. -/
import Derived.Test.YtjkhkmcmnnhmcaaQApproxBestR2
namespace Go.Proofs.Ytjkhkmcmnnhmcaa.F
open Go Go.Proofs.Ytjkhkmcmnnhmcaa.E
set_option linter.unusedVariables false
set_option linter.unusedSimpArgs false

theorem more {a b k c d : Nat} (ha : ln a ≤ 100000) (hb : ln b ≤ 100000) (hk : ln k ≤ 100000) (hc : ln c ≤ 100000) (hd : ln d ≤ 100000) : Ev (approx_fraction_more.f (L a, L b) (L k) (L c, L d)) (L (a * k + c), L (b * k + d)) := by
  have l1 := ln_mul a k
  have l2 := ln_mul b k
  exact ev_eq approx_fraction_more.f_eq (Ev.bind (nmul (by omega) (by omega)) (Ev.bind (nadd (by omega) (by omega)) (Ev.bind (nmul (by omega) (by omega)) (Ev.bind (nadd (by omega) (by omega)) (ev_now rfl)))))
theorem best_step {rn rd : List Int} {m h0 k0 h1 k1 u v : Nat} {res : List Int × Int × Bool} (hv : 0 < v) (c1 : ln m ≤ 100000) (c2 : ln h0 ≤ 100000) (c3 : ln k0 ≤ 100000) (c4 : ln h1 ≤ 100000) (c5 : ln k1 ≤ 100000) (c6 : ln u ≤ 100000) (c7 : ln v ≤ 100000) (hle : k1 * (u / v) + k0 ≤ m)
    (h : Ev (approx_Best.l0 rn rd [] (L m) (L h1) (L k1) (L (h1 * (u / v) + h0)) (L (k1 * (u / v) + k0)) (L v) (L (u % v))) res) : Ev (approx_Best.l0 rn rd [] (L m) (L h0) (L k0) (L h1) (L k1) (L u) (L v)) res := by
  have hb := bl_pos hv
  have lq := ln_mono (Nat.div_le_self u v)
  have l1 := ln_mul k1 (u / v)
  have l2 := ln_add (k1 * (u / v)) k0
  exact ev_loop approx_Best.l0_eq approx_Best.l0_step (Ev.bind (nbits (by omega)) (ev_pos (by omega) (Ev.bind (qdiv hv (by omega) (by omega)) (Ev.bind (more c4 c5 (by omega) c2 c3) (Ev.bind (ncmp (by omega) (by omega)) (ev_neg (fun hc => by have := cmpI_gt.mp hc; omega) h))))))
theorem best_end {rn rd : List Int} {m h0 k0 h1 k1 u : Nat} (hk : k1 < 1000000000) : Ev (approx_Best.l0 rn rd [] (L m) (L h0) (L k0) (L h1) (L k1) (L u) (L 0)) (L h1, (k1 : Int), true) :=
  ev_loop approx_Best.l0_eq approx_Best.l0_step (Ev.bind (nbits (n := 0) (by decide)) (ev_neg (by decide) (Ev.bind (nsmall (by omega)) (ev_now (by rw [wrap_nat (by omega)])))))
theorem best_exact {n d m : Nat} (hd : 0 < d) (hg : Nat.gcd n d = 1) (hdm : d ≤ m) (hm : m ≤ 999999999) (hn : ln n ≤ 1000) : Ev (approx_Best.f (L n, L d) (m : Int)) (L n, (d : Int), true) := by
  have lm := ln_small (n := m) (by omega)
  have ld := ln_mono hdm
  have l1 := ln_small (n := 1) (by decide)
  have loop : ∀ (v u h0 k0 h1 k1 : Nat), n = h1 * u + h0 * v → d = k1 * u + k0 * v → Nat.gcd u v = 1 → (0 < u ∨ (h1 = 1 ∧ k1 = 0)) → ln u ≤ 1000 → ln v ≤ 1000 →
      Ev (approx_Best.l0 (L n) (L d) [] (L m) (L h0) (L k0) (L h1) (L k1) (L u) (L v)) (L n, (d : Int), true) := by
    intro v
    induction v using Nat.strongRecOn with
    | _ v ih =>
      intro u h0 k0 h1 k1 e1 e2 hg2 hu lu lv
      rcases Nat.eq_zero_or_pos v with rfl | hv
      · rw [Nat.gcd_zero_right] at hg2
        subst hg2
        rw [Nat.mul_one, Nat.mul_zero, Nat.add_zero] at e1 e2
        subst e1; subst e2
        exact best_end (by omega)
      · have hm1 := Nat.div_add_mod u v
        have hr : u % v < v := Nat.mod_lt _ hv
        have b1 : h0 ≤ n := by rw [e1]; exact Nat.le_trans (Nat.le_mul_of_pos_right h0 hv) (Nat.le_add_left _ _)
        have b2 : k0 ≤ d := by rw [e2]; exact Nat.le_trans (Nat.le_mul_of_pos_right k0 hv) (Nat.le_add_left _ _)
        have b3 : h1 ≤ n + 1 := by
          rcases hu with hu | ⟨hu, _⟩
          · rw [e1]; exact Nat.le_succ_of_le (Nat.le_trans (Nat.le_mul_of_pos_right h1 hu) (Nat.le_add_right _ _))
          · omega
        have b4 : k1 ≤ d := by
          rcases hu with hu | ⟨_, hu⟩
          · rw [e2]; exact Nat.le_trans (Nat.le_mul_of_pos_right k1 hu) (Nat.le_add_right _ _)
          · omega
        have x1 := ln_mono b1
        have x2 := ln_mono b2
        have x3 := ln_mono b3
        have x4 := ln_mono b4
        have x5 := ln_add n 1
        have x6 := ln_mono (Nat.le_of_lt hr)
        have e3 : k1 * u + k0 * v = v * (k1 * (u / v) + k0) + k1 * (u % v) := by
          conv => lhs; rw [← hm1]
          rw [Nat.mul_add, Nat.mul_add, Nat.mul_left_comm, Nat.mul_comm k0]; omega
        have e4 : h1 * u + h0 * v = v * (h1 * (u / v) + h0) + h1 * (u % v) := by
          conv => lhs; rw [← hm1]
          rw [Nat.mul_add, Nat.mul_add, Nat.mul_left_comm, Nat.mul_comm h0]; omega
        have hle : k1 * (u / v) + k0 ≤ d := by
          rw [e2, e3]
          exact Nat.le_trans (Nat.le_mul_of_pos_left _ hv) (Nat.le_add_right _ _)
        refine best_step hv (by omega) (by omega) (by omega) (by omega) (by omega) (by omega) (by omega) (by omega) ?_
        refine ih (u % v) hr v h1 k1 (h1 * (u / v) + h0) (k1 * (u / v) + k0) ?_ ?_ ?_ (.inl hv) lv (by omega)
        · rw [e1, e4, Nat.mul_comm v]
        · rw [e2, e3, Nat.mul_comm v]
        · rw [Nat.gcd_comm, ← Nat.gcd_rec, Nat.gcd_comm]; exact hg2
  refine ev_eq approx_Best.f_eq (ev_neg (by omega) (ev_neg (by omega) ?_))
  rw [wrap_u64_nat (by omega)]
  refine Ev.bind (of_val (by omega)) (Ev.bind (of_val (n := 1) (by decide)) (Ev.bind (of_val (n := 1) (by decide)) (Ev.bind (terms_pos hd (by omega)) ?_)))
  exact loop d n 0 1 1 0 (by omega) (by omega) hg (.inr ⟨rfl, rfl⟩) hn (by omega)
theorem over_bad {r : List Int × List Int} {d : Int} (h : d < 1 ∨ 999999999 < d) : Ev (approx_Over.f r d) (([] : List Int), false) := by
  refine ev_eq approx_Over.f_eq ?_
  by_cases c : d < 1
  · exact ev_pos c (ev_now rfl)
  · exact ev_neg c (ev_pos (by omega) (ev_now rfl))
/-- The whole number next to x over y; of two as near the greater one. -/
def near (x y : Nat) : Nat := (2 * x + y) / (2 * y)
theorem near_half {x y : Nat} (hy : 0 < y) : (x / y + if y ≤ 2 * (x % y) then 1 else 0) = near x y := by
  have h1 := Nat.div_add_mod x y
  have h2 := Nat.mod_lt x hy
  unfold near
  generalize x / y = q at *
  generalize x % y = r at *
  subst h1
  have e : 2 * (y * q + r) + y = (2 * r + y) + 2 * y * q := by rw [Nat.mul_assoc]; omega
  rw [e, Nat.add_mul_div_left _ _ (by omega : 0 < 2 * y), Nat.add_comm q]
  congr 1
  split
  · rw [Nat.div_eq_of_lt_le] <;> omega
  · rw [Nat.div_eq_of_lt]; omega
theorem near_scale {x y X Y : Nat} (hy : 0 < y) (hY : 0 < Y) (h : x * Y = X * y) : near x y = near X Y := by
  unfold near
  rw [← Nat.mul_div_mul_right (2 * x + y) (2 * y) hY, ← Nat.mul_div_mul_right (2 * X + Y) (2 * Y) hy]
  congr 1
  · rw [Nat.add_mul, Nat.add_mul, Nat.mul_assoc, Nat.mul_assoc, h, Nat.mul_comm y]
  · rw [Nat.mul_assoc, Nat.mul_assoc, Nat.mul_comm y]
theorem near_le {x y : Nat} (hy : 0 < y) : near x y ≤ x + 1 := by
  rw [← near_half hy]
  have := Nat.div_le_self x y
  split <;> omega
theorem over_ok {r : List Int × List Int} {n d k : Nat} (hr : RQ r n d 1000) (hd : 0 < d) (hk : 1 ≤ k) (hk2 : k ≤ 999999999) : Ev (approx_Over.f r (k : Int)) (L (near (n * k) d), true) := by
  obtain ⟨n', d', rfl, p1, g, e1, la, lb⟩ := hr
  have lk := ln_small (n := k) (by omega)
  have lm := ln_mul n' k
  have hh := qhalf (a := n' * k) (b := d') p1 (by omega) (by omega)
  rw [near_half p1, near_scale p1 hd (show n' * k * d = n * k * d' by rw [Nat.mul_right_comm, e1, Nat.mul_right_comm])] at hh
  refine ev_eq approx_Over.f_eq (ev_neg (by omega) (ev_neg (by omega) (Ev.bind (terms_pos p1 (by omega)) ?_)))
  rw [wrap_u64_nat (by omega)]
  exact Ev.bind (of_val (by omega)) (Ev.bind (nmul (by omega) (by omega)) (Ev.bind hh (ev_now rfl)))
theorem ref_over {n d k : Nat} (hd : 0 < d) (hk : k ≤ 999999999) (hn : dn n ≤ 1000) (hdd : dn d ≤ 1000) : Ev (numeraryref22_Over.f (D n, D d) (k : Int)) (D (near (n * k) d)) := by
  have b1 := dn_mul n (2 * k)
  have b2 := dn_small (n := 2 * k) (by omega)
  have b3 := dn_add (n * (2 * k)) d
  have b4 := dn_mul d 2
  have b5 := dn_small (n := 2) (by decide)
  have hq := rdiv_D (a := n * (2 * k) + d) (b := d * 2) (by omega) (by omega) (by omega)
  rw [show (n * (2 * k) + d) / (d * 2) = near (n * k) d by unfold near; rw [Nat.mul_left_comm, Nat.mul_comm d]] at hq
  refine ev_eq numeraryref22_Over.f_eq ?_
  rw [show IntKind.i64.wrap (2 * (k : Int)) = ((2 * k : Nat) : Int) by rw [wrap_id (by omega) (by omega)]; omega]
  exact Ev.bind (rtimes_D (by omega) (by omega)) (Ev.bind (radd_D (by omega) (by omega)) (Ev.bind (rtimes_D (m := 2) (by omega) (by decide)) (Ev.bind hq (ev_now rfl))))
theorem digits22 {n : Nat} (h : ln n ≤ 1073741824) : Ev (numerarylaw22_digits.f (L n)) (D n) :=
  ev_eq numerarylaw22_digits.f_eq (Ev.bind (limbs_nl (by rw [L_length]; omega)) (Ev.bind (rmade_L h) (ev_now rfl)))
theorem of22 {a b : Nat} (ha : a < 18446744073709551616) (hb : b < 18446744073709551616) : ∃ d r, d = max 1 b ∧ RQ r a d 2 ∧ Ev (numerarylaw22_of.f (a : Int) (b : Int)) (r, D a, D d) := by
  obtain ⟨d, hd⟩ : ∃ d, d = max 1 b := ⟨_, rfl⟩
  have hx : mxI 1 (b : Int) = (d : Int) := by unfold mxI; split <;> omega
  have hd0 : 0 < d := by omega
  have hdb : d < 18446744073709551616 := by omega
  obtain ⟨r, h1, h2⟩ := ratio_of (a := a) (b := d) (c := 2) hd0 (by decide) (ln_small ha) (ln_small hdb)
  refine ⟨d, r, hd, h1, ev_eq numerarylaw22_of.f_eq ?_⟩
  rw [hx]
  exact Ev.bind (of_val ha) (Ev.bind (of_val hdb) (Ev.bind h2 (Ev.bind (rof_val ha) (Ev.bind (rof_val hdb) (ev_now rfl)))))
theorem terms_step {m : Int} {out : List (List Int)} {u v : Nat} {res : List (List Int)} (hv : 0 < v) (lu : ln u ≤ 100000) (lv : ln v ≤ 100000) (hl : (out.length : Int) < m) (ho : out.length < 1099511627776) (h : Ev (approx_Terms.l0 m (out ++ [L (u / v)]) (L v) (L (u % v))) res) : Ev (approx_Terms.l0 m out (L u) (L v)) res :=
  ev_loop approx_Terms.l0_eq approx_Terms.l0_step (ev_pos hl (Ev.bind (qdiv hv (by omega) (by omega)) (ev_neg (by simp) (ev_pos (by simp only [List.length_cons, List.length_nil]; omega) h))))
theorem wakes22 : Ev (numerarylaw22_wakes.f ()) true := by
  have l1 := ln_small (n := 1) (by decide)
  have s : ∀ n : Nat, n < 18446744073709551616 → ln n ≤ 100000 := fun n h => Nat.le_trans (ln_small h) (by decide)
  have r0 := ratio_of_ex (a := 314159265) (b := 100000000) (by decide) (Nat.le_trans (s _ (by decide)) (by decide)) (Nat.le_trans (s _ (by decide)) (by decide))
  rw [show Nat.gcd 314159265 100000000 = 5 by decide, show 314159265 / 5 = 62831853 by decide, show 100000000 / 5 = 20000000 by decide] at r0
  have hr : RQ (L 62831853, L 20000000) 62831853 20000000 1000 := ⟨62831853, 20000000, rfl, by decide, by decide, rfl, Nat.le_trans (ln_small (by decide)) (by decide), Nat.le_trans (ln_small (by decide)) (by decide)⟩
  -- the best one
  have f1 : Ev (approx_fraction_ratio.f (L 355, L 113)) (L 355, L 113) := by
    have h := ratio_of_ex (a := 355) (b := 113) (by decide) (Nat.le_trans (s _ (by decide)) (by decide)) (Nat.le_trans (s _ (by decide)) (by decide))
    rw [show Nat.gcd 355 113 = 1 by decide, Nat.div_one, Nat.div_one] at h
    exact ev_eq approx_fraction_ratio.f_eq (Ev.bind h (ev_now rfl))
  have f2 : Ev (approx_fraction_ratio.f (L 333, L 106)) (L 333, L 106) := by
    have h := ratio_of_ex (a := 333) (b := 106) (by decide) (Nat.le_trans (s _ (by decide)) (by decide)) (Nat.le_trans (s _ (by decide)) (by decide))
    rw [show Nat.gcd 333 106 = 1 by decide, Nat.div_one, Nat.div_one] at h
    exact ev_eq approx_fraction_ratio.f_eq (Ev.bind h (ev_now rfl))
  have q1 : RQ (L 355, L 113) 355 113 1000 := ⟨355, 113, rfl, by decide, by decide, rfl, Nat.le_trans (ln_small (by decide)) (by decide), Nat.le_trans (ln_small (by decide)) (by decide)⟩
  have q2 : RQ (L 333, L 106) 333 106 1000 := ⟨333, 106, rfl, by decide, by decide, rfl, Nat.le_trans (ln_small (by decide)) (by decide), Nat.le_trans (ln_small (by decide)) (by decide)⟩
  obtain ⟨w1, p1, v1⟩ := ratio_away hr q1 (by decide) (by decide) (by decide) (by decide)
  obtain ⟨w2, p2, v2⟩ := ratio_away hr q2 (by decide) (by decide) (by decide) (by decide)
  have hc := ratio_cmp p1 p2 (by decide) (by decide) (by decide) (by decide)
  rw [show cmpI (ad (62831853 * 113) (355 * 20000000) * (20000000 * 106)) (ad (62831853 * 106) (333 * 20000000) * (20000000 * 113)) = -1 by decide] at hc
  have hnear : Ev (approx_nearer.f (L 62831853, L 20000000) (L 355, L 113) (L 333, L 106)) (L 355, L 113) :=
    ev_eq approx_nearer.f_eq (Ev.bind f1 (Ev.bind v1 (Ev.bind f2 (Ev.bind v2 (Ev.bind hc (ev_neg (by decide) (ev_neg (by decide) (ev_neg (by decide) (ev_now rfl)))))))))
  have hsub := nsub_ge (m := 150) (n := 106) (Nat.le_trans (s _ (by decide)) (by decide)) (by decide)
  have hdv := qdiv (a := 150 - 106) (b := 113) (by decide) (Nat.le_trans (s _ (by decide)) (by decide)) (Nat.le_trans (s _ (by decide)) (by decide))
  have hmo := more (a := 355) (b := 113) (k := (150 - 106) / 113) (c := 333) (d := 106) (s _ (by decide)) (s _ (by decide)) (s _ (by decide)) (s _ (by decide)) (s _ (by decide))
  rw [show 355 * ((150 - 106) / 113) + 333 = 333 by decide, show 113 * ((150 - 106) / 113) + 106 = 106 by decide] at hmo
  have hcut : Ev (approx_Best.l0 (L 62831853) (L 20000000) [] (L 150) (L 333) (L 106) (L 355) (L 113) (L 176418) (L 611)) (L 355, 113, true) := by
    have hd := qdiv (a := 176418) (b := 611) (by decide) (Nat.le_trans (s _ (by decide)) (by decide)) (Nat.le_trans (s _ (by decide)) (by decide))
    have hm2 := more (a := 355) (b := 113) (k := 176418 / 611) (c := 333) (d := 106) (s _ (by decide)) (s _ (by decide)) (s _ (by decide)) (s _ (by decide)) (s _ (by decide))
    have hb := nbits (n := 611) (Nat.le_trans (s _ (by decide)) (by decide))
    have hbp := bl_pos (n := 611) (by decide)
    exact ev_loop approx_Best.l0_eq approx_Best.l0_step (Ev.bind hb (ev_pos (by omega) (Ev.bind hd (Ev.bind hm2 (Ev.bind (ncmp (Nat.le_trans (s _ (by decide)) (by decide)) (Nat.le_trans (s _ (by decide)) (by decide))) (ev_pos (by decide) (Ev.bind hsub (Ev.bind hdv (Ev.bind hmo (Ev.bind hnear (Ev.bind (nsmall (n := 113) (by decide)) (ev_now (by rw [wrap_nat (by decide)]; rfl)))))))))))))
  have hbest : Ev (approx_Best.f (L 62831853, L 20000000) 150) (L 355, 113, true) := by
    refine ev_eq approx_Best.f_eq (ev_neg (by decide) (ev_neg (by decide) ?_))
    rw [show IntKind.u64.wrap 150 = ((150 : Nat) : Int) by decide]
    refine Ev.bind (of_val (n := 150) (by decide)) (Ev.bind (of_val (n := 1) (by decide)) (Ev.bind (of_val (n := 1) (by decide)) (Ev.bind (terms_pos (n := 62831853) (d := 20000000) (by decide) (Nat.le_trans (s _ (by decide)) (by decide))) ?_)))
    refine best_step (m := 150) (h0 := 0) (k0 := 1) (h1 := 1) (k1 := 0) (u := 62831853) (v := 20000000) (by decide) (s _ (by decide)) (s _ (by decide)) (s _ (by decide)) (s _ (by decide)) (s _ (by decide)) (s _ (by decide)) (s _ (by decide)) (by decide) ?_
    refine best_step (m := 150) (h0 := 1) (k0 := 0) (h1 := 3) (k1 := 1) (u := 20000000) (v := 2831853) (by decide) (s _ (by decide)) (s _ (by decide)) (s _ (by decide)) (s _ (by decide)) (s _ (by decide)) (s _ (by decide)) (s _ (by decide)) (by decide) ?_
    refine best_step (m := 150) (h0 := 3) (k0 := 1) (h1 := 22) (k1 := 7) (u := 2831853) (v := 177029) (by decide) (s _ (by decide)) (s _ (by decide)) (s _ (by decide)) (s _ (by decide)) (s _ (by decide)) (s _ (by decide)) (s _ (by decide)) (by decide) ?_
    refine best_step (m := 150) (h0 := 22) (k0 := 7) (h1 := 333) (k1 := 106) (u := 177029) (v := 176418) (by decide) (s _ (by decide)) (s _ (by decide)) (s _ (by decide)) (s _ (by decide)) (s _ (by decide)) (s _ (by decide)) (s _ (by decide)) (by decide) ?_
    exact hcut
  have hover := over_ok hr (by decide) (k := 7) (by decide) (by decide)
  rw [show near (62831853 * 7) 20000000 = 22 by decide] at hover
  have hterms : Ev (approx_Terms.f (L 62831853, L 20000000) 3) [L 3, L 7, L 15] := by
    refine ev_eq approx_Terms.f_eq (Ev.bind (terms_pos (n := 62831853) (d := 20000000) (by decide) (Nat.le_trans (s _ (by decide)) (by decide))) ?_)
    refine terms_step (u := 62831853) (v := 20000000) (by decide) (s _ (by decide)) (s _ (by decide)) (by simp) (by simp) ?_
    refine terms_step (u := 20000000) (v := 2831853) (by decide) (s _ (by decide)) (s _ (by decide)) (by simp) (by simp) ?_
    refine terms_step (u := 2831853) (v := 177029) (by decide) (s _ (by decide)) (s _ (by decide)) (by simp) (by simp) ?_
    exact ev_loop approx_Terms.l0_eq approx_Terms.l0_step (ev_neg (by simp) (ev_now rfl))
  exact ev_eq numerarylaw22_wakes.f_eq (Ev.bind (of_val (n := 314159265) (by decide)) (Ev.bind (of_val (n := 100000000) (by decide)) (Ev.bind r0 (Ev.bind hbest (Ev.bind (nsmall (n := 355) (by decide)) (Ev.bind hover (Ev.bind (nsmall (n := 22) (by decide)) (ev_pos rfl (ev_pos rfl (ev_pos rfl (ev_pos rfl (ev_pos rfl (ev_pos rfl (ev_pos rfl (Ev.bind hterms (ev_now rfl))))))))))))))))
end Go.Proofs.Ytjkhkmcmnnhmcaa.F
