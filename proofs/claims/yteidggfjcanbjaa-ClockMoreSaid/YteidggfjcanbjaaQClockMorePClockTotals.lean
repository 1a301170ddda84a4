/- Of hours, minutes and seconds there were as many as days, hours, minutes and seconds make; hours by twelve are 1 to 12. -/
import Derived.Test.YteidggfjcanbjaaQClockMoreB3
namespace Go.Proofs.Yteidggfjcanbjaa.Pure
open Go Go.Proofs.Yteidggfjcanbjaa.E Go.Proofs.Yteidggfjcanbjaa.F
set_option linter.unusedVariables false
set_option linter.unusedSimpArgs false
theorem near_mul (x y : Nat) (hy : 0 < y) : near (x * y) y = x := near_uniq hy (by rw [Nat.mul_assoc]; omega) (by rw [Nat.add_mul, Nat.mul_assoc]; omega)
theorem total_h (D h m s q : Int) : Ev (clock_Time_Total.f (D, h, m, s, q) (⟨#[104]⟩ : ByteArray)) (IntKind.i64.wrap ((IntKind.i64.wrap (D * 24)) + h), true) := ev_eq clock_Time_Total.f_eq (ev_pos rfl (ev_now rfl))
theorem total_m (D h m s q : Int) : Ev (clock_Time_Total.f (D, h, m, s, q) (⟨#[109]⟩ : ByteArray)) (IntKind.i64.wrap ((IntKind.i64.wrap ((IntKind.i64.wrap ((IntKind.i64.wrap (D * 24)) + h)) * 60)) + m), true) := ev_eq clock_Time_Total.f_eq (ev_neg (by decide) (ev_pos rfl (ev_now rfl)))
theorem total_s (D h m s q : Int) : Ev (clock_Time_Total.f (D, h, m, s, q) (⟨#[115]⟩ : ByteArray)) (IntKind.i64.wrap ((IntKind.i64.wrap ((IntKind.i64.wrap ((IntKind.i64.wrap ((IntKind.i64.wrap ((IntKind.i64.wrap (D * 24)) + h)) * 60)) + m)) * 60)) + s), true) := ev_eq clock_Time_Total.f_eq (ev_neg (by decide) (ev_neg (by decide) (ev_pos rfl (ev_now rfl))))
theorem total_no {z : ByteArray} (D h m s q : Int) (h1 : z ≠ (⟨#[104]⟩ : ByteArray)) (h2 : z ≠ (⟨#[109]⟩ : ByteArray)) (h3 : z ≠ (⟨#[115]⟩ : ByteArray)) : Ev (clock_Time_Total.f (D, h, m, s, q) z) (0, false) := ev_eq clock_Time_Total.f_eq (ev_neg h1 (ev_neg h2 (ev_neg h3 (ev_now rfl))))
theorem ClockTotals (a0 : Int) (h0 : (Lit.int .u32 a0).wf = true) (a1 : Int) (h1 : (Lit.int .u32 a1).wf = true) (a2 : ByteArray) (s2 : a2.size ≤ 140737488351232) : Ev (numerarylaw25_ClockTotals.f a0 a1 a2) true := by
  obtain ⟨h0a, h0b⟩ := wf_u32 h0
  obtain ⟨h1a, h1b⟩ := wf_u32 h1
  obtain ⟨x, rfl⟩ : ∃ n : Nat, a0 = (n : Int) := ⟨a0.toNat, by omega⟩
  obtain ⟨z, rfl⟩ : ∃ n : Nat, a1 = (n : Int) := ⟨a1.toNat, by omega⟩
  obtain ⟨D, hD, hD2⟩ : ∃ D : Nat, (x : Int).tmod 2958465 = (D : Int) ∧ D < 2958465 := ⟨x % 2958465, tmodN (K := 2958465) 2958465 rfl, Nat.mod_lt _ (by decide)⟩
  obtain ⟨s, hs, hs2⟩ : ∃ s : Nat, (z : Int).tmod 86400 = (s : Int) ∧ s < 86400 := ⟨z % 86400, tmodN (K := 86400) 86400 rfl, Nat.mod_lt _ (by decide)⟩
  have ls := ln_small (n := s) (by omega)
  have lD := ln_small (n := D) (by omega)
  have l1 := ln_small (n := 1) (by decide)
  have l8 := ln_small (n := 86400) (by decide)
  obtain ⟨r, hr, vr⟩ := ratio_of (a := s) (b := 86400) (c := 2) (by decide) (by decide) ls l8
  obtain ⟨q, hq, vq⟩ := ratio_of (a := D) (b := 1) (c := 2) (by decide) (by decide) lD l1
  obtain ⟨t, ht, vt⟩ := ratio_add hr hq (by decide) (by decide) (by decide) (by decide)
  have hc := clock_ok (p := 0) (y := 0) ht (by decide) (by decide) (by decide)
  rw [show (s * 1 + D * 86400) * 86400 * 10 ^ 0 = (s + D * 86400) * (86400 * 1) by rw [Nat.pow_zero]; omega, near_mul _ _ (by decide), Nat.pow_zero, show lastOf 0 = 2958465 from if_pos rfl] at hc
  have hlt : (s + D * 86400) / 1 / 60 / 60 / 24 = D := by omega
  rcases hc with ⟨c1, c2, hc⟩ | ⟨c, _⟩
  · have e1 : s + D * 86400 = s + D * 86400 := rfl
    have tm : timeOf (s + D * 86400) 1 = ((D : Int), ((s / 3600 : Nat) : Int), ((s / 60 % 60 : Nat) : Int), ((s % 60 : Nat) : Int), 0) := by
      unfold timeOf
      rw [hlt, show (s + D * 86400) / 1 / 60 / 60 % 24 = s / 3600 by omega, show (s + D * 86400) / 1 / 60 % 60 = s / 60 % 60 by omega, show (s + D * 86400) / 1 % 60 = s % 60 by omega, show (s + D * 86400) % 1 = 0 by omega]
      rfl
    rw [tm] at hc
    obtain ⟨k, hk, k1, k2, k3⟩ := twelve_ok (D := (D : Int)) (h := ((s / 3600 : Nat) : Int)) (m := ((s / 60 % 60 : Nat) : Int)) (s := ((s % 60 : Nat) : Int)) (q := 0) (by omega) (by omega)
    have w1 : IntKind.i64.wrap (IntKind.i64.wrap ((D : Int) * 24) + ((s / 3600 : Nat) : Int)) = ((D * 24 + s / 3600 : Nat) : Int) := by rw [wrap_id (x := (D : Int) * 24) (by omega) (by omega), wrap_id (by omega) (by omega)]; omega
    have w2 : IntKind.i64.wrap (IntKind.i64.wrap (((D * 24 + s / 3600 : Nat) : Int) * 60) + ((s / 60 % 60 : Nat) : Int)) = (((D * 24 + s / 3600) * 60 + s / 60 % 60 : Nat) : Int) := by rw [wrap_id (x := ((D * 24 + s / 3600 : Nat) : Int) * 60) (by omega) (by omega), wrap_id (by omega) (by omega)]; omega
    have w3 : IntKind.i64.wrap (IntKind.i64.wrap ((((D * 24 + s / 3600) * 60 + s / 60 % 60 : Nat) : Int) * 60) + ((s % 60 : Nat) : Int)) = ((D * 86400 + s : Nat) : Int) := by rw [wrap_id (x := (((D * 24 + s / 3600) * 60 + s / 60 % 60 : Nat) : Int) * 60) (by omega) (by omega), wrap_id (by omega) (by omega)]; omega
    have t1 := total_h (D : Int) ((s / 3600 : Nat) : Int) ((s / 60 % 60 : Nat) : Int) ((s % 60 : Nat) : Int) 0
    have t2 := total_m (D : Int) ((s / 3600 : Nat) : Int) ((s / 60 % 60 : Nat) : Int) ((s % 60 : Nat) : Int) 0
    have t3 := total_s (D : Int) ((s / 3600 : Nat) : Int) ((s / 60 % 60 : Nat) : Int) ((s % 60 : Nat) : Int) 0
    rw [w1] at t1 t2 t3
    rw [w2] at t2 t3
    rw [w3] at t3
    have all : IntKind.i64.wrap (IntKind.i64.wrap (IntKind.i64.wrap (D : Int) * 86400) + IntKind.i64.wrap (s : Int)) = ((D * 86400 + s : Nat) : Int) := by
      rw [wrap_id (x := (D : Int)) (by omega) (by omega), wrap_id (x := (s : Int)) (by omega) (by omega), wrap_id (x := (D : Int) * 86400) (by omega) (by omega), wrap_id (by omega) (by omega)]; omega
    have a3600 : ((D * 86400 + s : Nat) : Int).tdiv 3600 = ((D * 24 + s / 3600 : Nat) : Int) := by rw [tdivN (K := 3600) 3600 rfl]; omega
    have a60 : ((D * 86400 + s : Nat) : Int).tdiv 60 = (((D * 24 + s / 3600) * 60 + s / 60 % 60 : Nat) : Int) := by rw [tdivN (K := 60) 60 rfl]; omega
    have hour : IntKind.i64.wrap ((IntKind.i64.wrap (s : Int)).tdiv 3600) = ((s / 3600 : Nat) : Int) := by rw [wrap_id (x := (s : Int)) (by omega) (by omega), tdivN (K := 3600) 3600 rfl, wrap_nat (by omega)]
    have hour2 : (IntKind.i64.wrap (s : Int)).tdiv 3600 = ((s / 3600 : Nat) : Int) := by rw [wrap_id (x := (s : Int)) (by omega) (by omega), tdivN (K := 3600) 3600 rfl]
    have kt : k.tmod 12 = ((s / 3600 : Nat) : Int).tmod 12 := by rw [Int.tmod_eq_emod_of_nonneg (by omega), Int.tmod_eq_emod_of_nonneg (by omega)]; exact k3
    refine ev_eq numerarylaw25_ClockTotals.f_eq ?_
    rw [hD, hs, wrap_u64_nat (n := s) (by omega), wrap_u64_nat (n := D) (by omega)]
    refine Ev.bind (of_val (by omega)) (Ev.bind (of_val (n := 86400) (by decide)) (Ev.bind vr (Ev.bind (of_val (by omega)) (Ev.bind (of_val (n := 1) (by decide)) (Ev.bind vq (Ev.bind vt (Ev.bind hc (Ev.bind wakes25 (ev_neg (by decide) (ev_neg (by simp) (Ev.bind t1 (Ev.bind t2 (Ev.bind t3 ?_)))))))))))))
    rw [all, a3600, a60, wrap_nat (a := D * 24 + s / 3600) (by omega), wrap_nat (a := (D * 24 + s / 3600) * 60 + s / 60 % 60) (by omega)]
    try rw [hour]
    try rw [hour2]
    by_cases c104 : a2 = (⟨#[104]⟩ : ByteArray)
    · subst c104
      refine Ev.bind t1 (Ev.bind hk ?_)
      exact ev_pos rfl (ev_pos rfl (ev_pos rfl (ev_pos rfl (ev_pos rfl (ev_pos rfl (ev_pos rfl (ev_pos rfl (ev_pos rfl (ev_pos (by omega) (ev_pos (by omega) (ev_now (decide_eq_true kt))))))))))))
    · by_cases c109 : a2 = (⟨#[109]⟩ : ByteArray)
      · subst c109
        refine Ev.bind t2 (Ev.bind hk ?_)
        exact ev_neg (by decide) (ev_pos rfl (ev_pos rfl (ev_pos rfl (ev_pos rfl (ev_pos rfl (ev_pos rfl (ev_pos rfl (ev_pos rfl (ev_pos rfl (ev_pos (by omega) (ev_pos (by omega) (ev_now (decide_eq_true kt)))))))))))))
      · by_cases c115 : a2 = (⟨#[115]⟩ : ByteArray)
        · subst c115
          refine Ev.bind t3 (Ev.bind hk ?_)
          exact ev_neg (by decide) (ev_neg (by decide) (ev_pos rfl (ev_pos rfl (ev_pos rfl (ev_pos rfl (ev_pos rfl (ev_pos rfl (ev_pos (by simp) (ev_pos rfl (ev_pos rfl (ev_pos (by omega) (ev_pos (by omega) (ev_now (decide_eq_true kt))))))))))))))
        · refine Ev.bind (total_no _ _ _ _ _ c104 c109 c115) (Ev.bind hk ?_)
          exact ev_neg c104 (ev_neg c109 (ev_pos rfl (ev_pos rfl (ev_pos rfl (ev_pos rfl (ev_pos rfl (ev_pos rfl (ev_pos (decide_eq_false c115).symm (ev_neg c115 (ev_pos rfl (ev_pos rfl (ev_pos (by omega) (ev_pos (by omega) (ev_now (decide_eq_true kt)))))))))))))))
  · exfalso; omega
end Go.Proofs.Yteidggfjcanbjaa.Pure
