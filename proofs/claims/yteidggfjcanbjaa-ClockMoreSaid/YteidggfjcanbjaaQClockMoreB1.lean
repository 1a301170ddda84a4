/- Steps of a quotient, days and times. -/
import Derived.Test.YteidggfjcanbjaaQClockMoreA1
import Derived.Test.YteidggfjcanbjaaQClockMoreY05
namespace Go.Proofs.Yteidggfjcanbjaa.F
open Go Go.Proofs.Yteidggfjcanbjaa.E
set_option linter.unusedVariables false
set_option linter.unusedSimpArgs false
theorem near_spec {x y n : Nat} (hy : 0 < y) (h : n = near x y) : 2 * n * y ≤ 2 * x + y ∧ 2 * x + y < (2 * n + 2) * y := by
  have h1 := Nat.div_add_mod (2 * x + y) (2 * y)
  have h2 := Nat.mod_lt (2 * x + y) (show 0 < 2 * y by omega)
  unfold near at h
  rw [← h] at h1
  have e1 : 2 * y * n = 2 * n * y := by grind
  have e2 : (2 * n + 2) * y = 2 * n * y + 2 * y := by grind
  rw [e2]
  rw [e1] at h1
  generalize 2 * n * y = z at *
  omega
theorem near_uniq {x y n : Nat} (hy : 0 < y) (h1 : 2 * n * y ≤ 2 * x + y) (h2 : 2 * x + y < (2 * n + 2) * y) : near x y = n := by
  unfold near
  refine Nat.div_eq_of_lt_le ?_ ?_
  · have : n * (2 * y) = 2 * n * y := by grind
    omega
  · have : (n + 1) * (2 * y) = (2 * n + 2) * y := by grind
    omega
theorem ratio_scale {r : List Int × List Int} {n d c k : Nat} (hr : RQ r n d c) (hd : 0 < d) (hc : c ≤ 100000) (hk : k ≤ 5000) : ∃ t, RQ t (n * 10 ^ k) d (c + 1000) ∧ Ev (ratio_Ratio_Scale.f r (k : Int)) t := by
  obtain ⟨n', d', rfl, p1, g, e1, la, lb⟩ := hr
  have l1 := ln_pow10 k
  have l2 := ln_mul n' (10 ^ k)
  obtain ⟨t, ht, hv⟩ := lowest (a := n' * 10 ^ k) (b := d') (c := c + 1000) p1 (by omega) (by omega) (by omega)
  refine ⟨t, ht.trans p1 ?_, ev_eq ratio_Ratio_Scale.f_eq (ev_neg (by omega) (ev_neg (by omega) (ev_neg (by omega) (Ev.bind (ten (by omega)) (Ev.bind (nmul (by omega) (by omega)) (Ev.bind (under_pos p1 (by omega)) (Ev.bind hv (ev_now rfl))))))))⟩
  rw [Nat.mul_right_comm, e1, Nat.mul_right_comm]
theorem whole {r : List Int × List Int} {n d c : Nat} (hr : RQ r n d c) (hd : 0 < d) (hc : c ≤ 100000) : Ev (round_whole.f r) (L (near n d)) ∧ ln (near n d) ≤ c + 1 := by
  obtain ⟨n', d', rfl, p1, g, e1, la, lb⟩ := hr
  have hh := qhalf (a := n') (b := d') p1 (by omega) (by omega)
  rw [near_half p1, near_scale p1 hd e1] at hh
  have l1 := ln_mono (near_le (x := n') p1)
  have l2 := ln_add n' 1
  have l3 := ln_small (n := 1) (by decide)
  rw [near_scale p1 hd e1] at l1
  have l4 : 0 < ln d' := by
    rcases Nat.eq_zero_or_pos (ln d') with h | h
    · exfalso
      have := (dg_len b32 d' 0).mp (by unfold ln at h; omega)
      rw [Nat.pow_zero] at this; omega
    · exact h
  have l5 : ln 1 = 1 := by decide
  exact ⟨ev_eq round_whole.f_eq (Ev.bind (terms_pos p1 (by omega)) (Ev.bind hh (ev_now rfl))), by omega⟩
theorem step_ok {r s : List Int × List Int} {n d m e c k : Nat} (hr : RQ r n d c) (hs : RQ s m e k) (hd : 0 < d) (hm : 0 < m) (he : 0 < e) (hc : c ≤ 10000) (hk : k ≤ 10000) :
    ∃ t, RQ t (near (n * e) (d * m) * m) e (c + 2 * k + 1) ∧ Ev (round_Step.f r s) (t, true) := by
  obtain ⟨m', e', rfl, p1, g, e1, la, lb⟩ := hs
  have hm' : 0 < m' := by
    rcases Nat.eq_zero_or_pos m' with h | h
    · exfalso; rw [h, Nat.zero_mul] at e1
      have := Nat.mul_pos hm p1
      omega
    · exact h
  obtain ⟨u, hu, hv⟩ := ratio_of (a := e') (b := m') (c := k) hm' (by omega) lb la
  have hu2 : RQ u e m k := hu.trans hm' (by rw [Nat.mul_comm e', Nat.mul_comm e]; exact e1.symm)
  obtain ⟨w, hw, hx⟩ := ratio_mul hr hu2 hd hm (by omega) (by omega)
  obtain ⟨hwh, lwh⟩ := whole hw (Nat.mul_pos hd hm) (by omega)
  have l1 := ln_small (n := 1) (by decide)
  have l11 : ln 1 = 1 := by decide
  obtain ⟨o, ho, hy⟩ := ratio_of (a := near (n * e) (d * m)) (b := 1) (c := c + k + 1) (by decide) (by omega) (by omega) (by omega)
  have hs2 : RQ (L m', L e') m e k := ⟨m', e', rfl, p1, g, e1, la, lb⟩
  obtain ⟨t, ht, hz⟩ := ratio_mul ho hs2 (by decide) he (by omega) (by omega)
  rw [Nat.one_mul] at ht
  exact ⟨t, ht.le (by omega), ev_eq round_Step.f_eq (Ev.bind (terms_pos p1 (by omega)) (Ev.bind hv (ev_neg (by simp) (Ev.bind hx (Ev.bind hwh (Ev.bind (of_val (n := 1) (by decide)) (Ev.bind hy (Ev.bind hz (ev_now rfl)))))))))⟩
theorem rq_one {t : List Int × List Int} {n c : Nat} (h : RQ t n 1 c) : t = (L n, L 1) := by
  obtain ⟨n', d', rfl, p1, g, e1, _, _⟩ := h
  rw [Nat.mul_one] at e1
  have : d' ∣ Nat.gcd n' d' := Nat.dvd_gcd ⟨n, by rw [e1, Nat.mul_comm]⟩ (Nat.dvd_refl _)
  rw [g] at this
  obtain rfl := Nat.eq_one_of_dvd_one this
  rw [Nat.mul_one] at e1
  rw [e1]
theorem one_rq {n : Nat} : RQ (L n, L 1) n 1 (ln n + 1) := ⟨n, 1, rfl, by decide, Nat.gcd_one_right n, rfl, by omega, by rw [show ln 1 = 1 by decide]; omega⟩
theorem units_ok {r : List Int × List Int} {n d c p : Nat} (hr : RQ r n d c) (hd : 0 < d) (hc : c ≤ 5000) (hp : p ≤ 5000) :
    (near (n * 86400 * 10 ^ p) d < 18446744073709551616 → Ev (clock_units.f r (p : Int)) ((near (n * 86400 * 10 ^ p) d : Nat), true)) ∧ (18446744073709551616 ≤ near (n * 86400 * 10 ^ p) d → Ev (clock_units.f r (p : Int)) (0, false)) := by
  have l1 := ln_small (n := 86400) (by decide)
  have l2 := ln_small (n := 1) (by decide)
  obtain ⟨s1, h1, v1⟩ := ratio_of (a := 86400) (b := 1) (c := 2) (by decide) (by decide) l1 l2
  obtain ⟨s2, h2, v2⟩ := ratio_of (a := 1) (b := 1) (c := 2) (by decide) (by decide) l2 l2
  obtain ⟨t, ht, vt⟩ := ratio_mul hr h1 hd (by decide) (by omega) (by omega)
  rw [Nat.mul_one] at ht
  obtain ⟨u, hu, vu⟩ := ratio_scale ht hd (by omega) hp
  obtain ⟨w, hw, vw⟩ := step_ok hu h2 hd (by decide) (by decide) (by omega) (by omega)
  rw [Nat.mul_one, Nat.mul_one, Nat.mul_one] at hw
  have hw1 := rq_one hw
  subst hw1
  have base : ∀ {R : Int × Bool}, Ev (nat_Nat_Small.f (L (near (n * 86400 * 10 ^ p) d))) R → Ev (clock_units.f r (p : Int)) R := fun h =>
    ev_eq clock_units.f_eq (Ev.bind (of_val (n := 86400) (by decide)) (Ev.bind (of_val (n := 1) (by decide)) (Ev.bind v1 (Ev.bind (of_val (n := 1) (by decide)) (Ev.bind (of_val (n := 1) (by decide)) (Ev.bind v2 (Ev.bind vt (Ev.bind vu (Ev.bind vw (Ev.bind (terms_pos (by decide) (by omega)) (Ev.bind h (ev_now rfl))))))))))))
  exact ⟨fun h => base (nsmall h), fun h => base (nsmall_big h)⟩
theorem part_ok {y b : Nat} (hy : y < 18446744073709551616) (hb : 0 < b) (hb2 : b ≤ 4611686018427387904) : Ev (clock_part.f (y : Int) (b : Int)) (((y % b : Nat) : Int), ((y / b : Nat) : Int)) := by
  have hlt := Nat.mod_lt y hb
  have hle := Nat.div_le_self y b
  refine ev_pos (by omega) (ev_now ?_)
  rw [Int.tmod_eq_emod_of_nonneg (by omega), Int.tdiv_eq_ediv_of_nonneg (by omega), ← Int.natCast_emod, ← Int.natCast_ediv, wrap_nat (by omega), wrap_u64_nat (by omega)]
/-! ### days -/
theorem leap_ok (y : Nat) : ∃ b : Bool, Ev (civil_Leap.f (y : Int)) b ∧ (b = true ↔ y % 4 = 0 ∧ (y % 100 ≠ 0 ∨ y % 400 = 0)) := by
  have t4 : (y : Int).tmod 4 = ((y % 4 : Nat) : Int) := by rw [Int.tmod_eq_emod_of_nonneg (by omega)]; omega
  have t100 : (y : Int).tmod 100 = ((y % 100 : Nat) : Int) := by rw [Int.tmod_eq_emod_of_nonneg (by omega)]; omega
  have t400 : (y : Int).tmod 400 = ((y % 400 : Nat) : Int) := by rw [Int.tmod_eq_emod_of_nonneg (by omega)]; omega
  by_cases c1 : y % 4 = 0
  · by_cases c2 : y % 100 = 0
    · refine ⟨decide (y % 400 = 0), ev_eq civil_Leap.f_eq ?_, by simp [c1, c2]⟩
      rw [t4, t100, t400]
      exact ev_pos (by omega) (ev_neg (by omega) (ev_now (decide_eq_decide.mpr (by omega))))
    · refine ⟨true, ev_eq civil_Leap.f_eq ?_, by simp [c1, c2]⟩
      rw [t4, t100]
      exact ev_pos (by omega) (ev_pos (by omega) (ev_now rfl))
  · refine ⟨false, ev_eq civil_Leap.f_eq ?_, by simp [c1]⟩
    rw [t4]
    exact ev_neg (by omega) (ev_now rfl)
theorem days_ok (y m : Nat) (h1 : 1 ≤ m) (h2 : m ≤ 12) : ∃ k : Nat, Ev (civil_Days.f (y : Int) (m : Int)) (k : Int) ∧ k ≤ 31 ∧ (m ≠ 2 → m ≠ 4 → m ≠ 6 → m ≠ 9 → m ≠ 11 → k = 31) ∧ (m = 4 ∨ m = 6 ∨ m = 9 ∨ m = 11 → k = 30) ∧ (m = 2 → (y % 4 = 0 ∧ (y % 100 ≠ 0 ∨ y % 400 = 0) → k = 29) ∧ 28 ≤ k) := by
  obtain ⟨b, hb, hl⟩ := leap_ok y
  by_cases c2 : m = 2
  · cases b with
    | true => exact ⟨29, ev_eq civil_Days.f_eq (ev_pos (by omega) (Ev.bind hb (ev_pos rfl (ev_now rfl)))), by omega, by omega, by omega, fun _ => ⟨fun _ => rfl, by decide⟩⟩
    | false =>
      refine ⟨28, ev_eq civil_Days.f_eq (ev_pos (by omega) (Ev.bind hb (ev_neg (by decide) (ev_now rfl)))), by omega, by omega, by omega, fun _ => ⟨fun h => ?_, by decide⟩⟩
      have := hl.mpr h
      cases this
  · by_cases c4 : m = 4
    · exact ⟨30, ev_eq civil_Days.f_eq (ev_neg (by omega) (ev_pos (by omega) (ev_pos (by omega) (ev_now rfl)))), by omega, by omega, by omega, by omega⟩
    · by_cases c6 : m = 6
      · exact ⟨30, ev_eq civil_Days.f_eq (ev_neg (by omega) (ev_neg (by omega) (ev_pos (by omega) (ev_pos (by omega) (ev_now rfl))))), by omega, by omega, by omega, by omega⟩
      · by_cases c9 : m = 9
        · exact ⟨30, ev_eq civil_Days.f_eq (ev_neg (by omega) (ev_neg (by omega) (ev_neg (by omega) (ev_pos (by omega) (ev_pos (by omega) (ev_now rfl)))))), by omega, by omega, by omega, by omega⟩
        · by_cases c11 : m = 11
          · exact ⟨30, ev_eq civil_Days.f_eq (ev_neg (by omega) (ev_neg (by omega) (ev_neg (by omega) (ev_neg (by omega) (ev_pos (by omega) (ev_now rfl)))))), by omega, by omega, by omega, by omega⟩
          · exact ⟨31, ev_eq civil_Days.f_eq (ev_neg (by omega) (ev_neg (by omega) (ev_neg (by omega) (ev_neg (by omega) (ev_neg (by omega) (ev_neg (by omega) (ev_neg (by omega) (ev_now rfl)))))))), by omega, by omega, by omega, by omega⟩
end Go.Proofs.Yteidggfjcanbjaa.F
