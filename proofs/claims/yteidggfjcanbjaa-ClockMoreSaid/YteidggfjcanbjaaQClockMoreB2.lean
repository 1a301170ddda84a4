/- Days of the calendar, and times of days. -/
import Derived.Test.YteidggfjcanbjaaQClockMoreB1
namespace Go.Proofs.Yteidggfjcanbjaa.F
open Go Go.Proofs.Yteidggfjcanbjaa.E
set_option linter.unusedVariables false
set_option linter.unusedSimpArgs false
theorem month_last {y : Nat} : ∀ d : Nat, d ≤ 31 → ∃ R, Ev (civil_day.l0 0 0 0 (y : Int) ((12 : Nat) : Int) (d : Int)) R := by
  intro d hd
  obtain ⟨k, hk, h1, h2, _⟩ := days_ok y 12 (by decide) (by decide)
  have := h2 (by decide) (by decide) (by decide) (by decide) (by decide)
  exact ⟨_, ev_loop civil_day.l0_eq civil_day.l0_step (Ev.bind hk (ev_neg (by omega) (ev_now rfl)))⟩
theorem month_step {y m S k : Nat} (hS : S ≤ 1000) (hm : m ≤ 12) (hk : ∃ q : Nat, Ev (civil_Days.f (y : Int) (m : Int)) (q : Int) ∧ k ≤ q ∧ q ≤ 31) (next : ∀ d : Nat, d ≤ S → ∃ R, Ev (civil_day.l0 0 0 0 (y : Int) ((m + 1 : Nat) : Int) (d : Int)) R) :
    ∀ d : Nat, d ≤ S + k → ∃ R, Ev (civil_day.l0 0 0 0 (y : Int) (m : Int) (d : Int)) R := by
  intro d hd
  obtain ⟨q, hq, h1, h2⟩ := hk
  by_cases c : d ≤ q
  · exact ⟨_, ev_loop civil_day.l0_eq civil_day.l0_step (Ev.bind hq (ev_neg (by omega) (ev_now rfl)))⟩
  · obtain ⟨R, hR⟩ := next (d - q) (by omega)
    refine ⟨R, ev_loop civil_day.l0_eq civil_day.l0_step (Ev.bind hq (ev_pos (by omega) (Ev.bind hq ?_)))⟩
    rw [show IntKind.i64.wrap ((m : Int) + 1) = ((m + 1 : Nat) : Int) by rw [wrap_id (by omega) (by omega)]; omega, show IntKind.i64.wrap ((d : Int) - (q : Int)) = ((d - q : Nat) : Int) by rw [wrap_id (by omega) (by omega)]; omega]
    exact hR
theorem months (y : Nat) : ∀ d : Nat, (d ≤ 365 ∨ (d ≤ 366 ∧ (y % 4 = 0 ∧ (y % 100 ≠ 0 ∨ y % 400 = 0)))) → ∃ R, Ev (civil_day.l0 0 0 0 (y : Int) 1 (d : Int)) R := by
  have odd : ∀ m : Nat, 1 ≤ m → m ≤ 12 → m ≠ 2 → m ≠ 4 → m ≠ 6 → m ≠ 9 → m ≠ 11 → ∃ q : Nat, Ev (civil_Days.f (y : Int) (m : Int)) (q : Int) ∧ 31 ≤ q ∧ q ≤ 31 := by
    intro m h1 h2 n2 n4 n6 n9 n11
    obtain ⟨k, hk, hle, h, _⟩ := days_ok y m h1 h2
    have := h n2 n4 n6 n9 n11
    exact ⟨k, hk, by omega, by omega⟩
  have even : ∀ m : Nat, m = 4 ∨ m = 6 ∨ m = 9 ∨ m = 11 → ∃ q : Nat, Ev (civil_Days.f (y : Int) (m : Int)) (q : Int) ∧ 30 ≤ q ∧ q ≤ 31 := by
    intro m hm
    obtain ⟨k, hk, hle, _, h, _⟩ := days_ok y m (by omega) (by omega)
    have := h hm
    exact ⟨k, hk, by omega, by omega⟩
  have m12 := month_last (y := y)
  have m11 := month_step (m := 11) (S := 31) (k := 30) (by decide) (by decide) (even 11 (by decide)) m12
  have m10 := month_step (m := 10) (S := 31 + 30) (k := 31) (by decide) (by decide) (odd 10 (by decide) (by decide) (by decide) (by decide) (by decide) (by decide) (by decide)) m11
  have m9 := month_step (m := 9) (S := 31 + 30 + 31) (k := 30) (by decide) (by decide) (even 9 (by decide)) m10
  have m8 := month_step (m := 8) (S := 31 + 30 + 31 + 30) (k := 31) (by decide) (by decide) (odd 8 (by decide) (by decide) (by decide) (by decide) (by decide) (by decide) (by decide)) m9
  have m7 := month_step (m := 7) (S := 31 + 30 + 31 + 30 + 31) (k := 31) (by decide) (by decide) (odd 7 (by decide) (by decide) (by decide) (by decide) (by decide) (by decide) (by decide)) m8
  have m6 := month_step (m := 6) (S := 31 + 30 + 31 + 30 + 31 + 31) (k := 30) (by decide) (by decide) (even 6 (by decide)) m7
  have m5 := month_step (m := 5) (S := 31 + 30 + 31 + 30 + 31 + 31 + 30) (k := 31) (by decide) (by decide) (odd 5 (by decide) (by decide) (by decide) (by decide) (by decide) (by decide) (by decide)) m6
  have m4 := month_step (m := 4) (S := 31 + 30 + 31 + 30 + 31 + 31 + 30 + 31) (k := 30) (by decide) (by decide) (even 4 (by decide)) m5
  have m3 := month_step (m := 3) (S := 31 + 30 + 31 + 30 + 31 + 31 + 30 + 31 + 30) (k := 31) (by decide) (by decide) (odd 3 (by decide) (by decide) (by decide) (by decide) (by decide) (by decide) (by decide)) m4
  obtain ⟨k2, hk2, hle2, _, _, h2⟩ := days_ok y 2 (by decide) (by decide)
  have m2 := month_step (m := 2) (S := 31 + 30 + 31 + 30 + 31 + 31 + 30 + 31 + 30 + 31) (k := k2) (by decide) (by decide) ⟨k2, hk2, Nat.le_refl _, hle2⟩ m3
  have m1 := month_step (m := 1) (S := 31 + 30 + 31 + 30 + 31 + 31 + 30 + 31 + 30 + 31 + k2) (k := 31) (by omega) (by decide) (odd 1 (by decide) (by decide) (by decide) (by decide) (by decide) (by decide) (by decide)) m2
  obtain ⟨h3, h4⟩ := h2 rfl
  intro d hd
  refine m1 d ?_
  rcases hd with hd | ⟨hd, hl⟩
  · omega
  · have := h3 hl; omega
theorem mnI_nat (a b : Nat) : mnI (a : Int) (b : Int) = ((min a b : Nat) : Int) := by unfold mnI; split <;> omega
theorem tdivN {n : Nat} (k : Nat) {K : Int} (hK : K = (k : Int)) : (n : Int).tdiv K = ((n / k : Nat) : Int) := by subst hK; rw [Int.tdiv_eq_ediv_of_nonneg (by omega)]; rfl
theorem tmodN {n : Nat} (k : Nat) {K : Int} (hK : K = (k : Int)) : (n : Int).tmod K = ((n % k : Nat) : Int) := by subst hK; rw [Int.tmod_eq_emod_of_nonneg (by omega)]; rfl
theorem day_ok {n : Nat} (hn : n ≤ 4000000) : ∃ R, Ev (civil_day.f (n : Int)) R := by
  obtain ⟨q4, h4⟩ : ∃ q, q = n / 146097 := ⟨_, rfl⟩
  obtain ⟨r4, h5⟩ : ∃ q, q = n % 146097 := ⟨_, rfl⟩
  obtain ⟨c, h6⟩ : ∃ q, q = min (r4 / 36524) 3 := ⟨_, rfl⟩
  obtain ⟨n1, h7⟩ : ∃ q, q = r4 - c * 36524 := ⟨_, rfl⟩
  obtain ⟨b, h8⟩ : ∃ q, q = n1 / 1461 := ⟨_, rfl⟩
  obtain ⟨n2, h9⟩ : ∃ q, q = n1 % 1461 := ⟨_, rfl⟩
  obtain ⟨k, h10⟩ : ∃ q, q = min (n2 / 365) 3 := ⟨_, rfl⟩
  have t4 : (n : Int).tdiv 146097 = (q4 : Int) := by rw [tdivN (K := 146097) 146097 rfl, h4]
  have t5 : (n : Int).tmod 146097 = (r4 : Int) := by rw [tmodN (K := 146097) 146097 rfl, h5]
  have t6 : mnI (IntKind.i64.wrap ((r4 : Int).tdiv 36524)) 3 = (c : Int) := by
    rw [tdivN (K := 36524) 36524 rfl, wrap_nat (by omega)]
    exact (mnI_nat _ 3).trans (by rw [h6])
  have t7 : IntKind.i64.wrap ((r4 : Int) - IntKind.i64.wrap ((c : Int) * 36524)) = (n1 : Int) := by
    rw [wrap_id (x := (c : Int) * 36524) (by omega) (by omega), wrap_id (by omega) (by omega)]; omega
  have t8 : (n1 : Int).tdiv 1461 = (b : Int) := by rw [tdivN (K := 1461) 1461 rfl, h8]
  have t9 : (n1 : Int).tmod 1461 = (n2 : Int) := by rw [tmodN (K := 1461) 1461 rfl, h9]
  have t10 : mnI (IntKind.i64.wrap ((n2 : Int).tdiv 365)) 3 = (k : Int) := by
    rw [tdivN (K := 365) 365 rfl, wrap_nat (by omega)]
    exact (mnI_nat _ 3).trans (by rw [h10])
  obtain ⟨R, hR⟩ := months (400 * q4 + 100 * c + 4 * b + k + 1) (n2 - 365 * k + 1) (by omega)
  refine ⟨R, ev_eq civil_day.f_eq ?_⟩
  rw [t4, t5, t6, t7, t8, t9, t10]
  have y1 : IntKind.i64.wrap (IntKind.i64.wrap (IntKind.i64.wrap (IntKind.i64.wrap (IntKind.i64.wrap (400 * IntKind.i64.wrap (q4 : Int)) + IntKind.i64.wrap (100 * (c : Int))) + IntKind.i64.wrap (4 * IntKind.i64.wrap (b : Int))) + (k : Int)) + 1) = ((400 * q4 + 100 * c + 4 * b + k + 1 : Nat) : Int) := by
    rw [wrap_id (x := (q4 : Int)) (by omega) (by omega), wrap_id (x := (b : Int)) (by omega) (by omega), wrap_id (x := 400 * (q4 : Int)) (by omega) (by omega), wrap_id (x := 100 * (c : Int)) (by omega) (by omega), wrap_id (x := 4 * (b : Int)) (by omega) (by omega), wrap_id (x := 400 * (q4 : Int) + 100 * (c : Int)) (by omega) (by omega), wrap_id (x := 400 * (q4 : Int) + 100 * (c : Int) + 4 * (b : Int)) (by omega) (by omega), wrap_id (x := 400 * (q4 : Int) + 100 * (c : Int) + 4 * (b : Int) + (k : Int)) (by omega) (by omega), wrap_id (by omega) (by omega)]
    omega
  have y2 : IntKind.i64.wrap (IntKind.i64.wrap ((n2 : Int) - IntKind.i64.wrap (365 * (k : Int))) + 1) = ((n2 - 365 * k + 1 : Nat) : Int) := by
    rw [wrap_id (x := 365 * (k : Int)) (by omega) (by omega), wrap_id (x := (n2 : Int) - 365 * (k : Int)) (by omega) (by omega), wrap_id (by omega) (by omega)]; omega
  rw [y1, y2]
  exact hR
theorem ahead_ok {y : Int} {r : Int} (h : (IntKind.i64.wrap ((IntKind.i64.wrap ((IntKind.i64.wrap ((IntKind.i64.wrap ((IntKind.i64.wrap (y - 1)) * 365)) + (IntKind.i64.wrap ((IntKind.i64.wrap (y - 1)).tdiv 4)))) - (IntKind.i64.wrap ((IntKind.i64.wrap (y - 1)).tdiv 100)))) + (IntKind.i64.wrap ((IntKind.i64.wrap (y - 1)).tdiv 400)))) = r) : Ev (civil_ahead.f y) r := ev_eq civil_ahead.f_eq (ev_now h)
/-- The last day of a system. -/
def lastOf (y : Int) : Int := if y = 0 then 2958465 else if y = 1 then 2957003 else -1
theorem last_ok (y : Int) : Ev (civil_last.f y) (lastOf y) := by
  refine ev_eq civil_last.f_eq ?_
  by_cases c : y = 0
  · rw [show lastOf y = 2958465 from if_pos c]; exact ev_pos c (ev_now rfl)
  · by_cases c1 : y = 1
    · rw [show lastOf y = 2957003 by unfold lastOf; rw [if_neg c, if_pos c1]]; exact ev_neg c (ev_pos c1 (ev_now rfl))
    · rw [show lastOf y = -1 by unfold lastOf; rw [if_neg c, if_neg c1]]; exact ev_neg c (ev_neg c1 (ev_now rfl))
theorem civil_no {s : Nat} {y : Int} (h : lastOf y < (s : Int)) : Ev (civil_Of.f (s : Int) y) ((0, 0, 0), false) :=
  ev_eq civil_Of.f_eq (ev_neg (by omega) (Ev.bind (last_ok y) (ev_pos h (ev_now rfl))))
theorem civil_yes {s : Nat} {y : Int} (h : (s : Int) ≤ lastOf y) : ∃ R, Ev (civil_Of.f (s : Int) y) (R, true) := by
  have go : ∀ {R}, Ev (M.bind (civil_odd.f (s : Int) y) fun t2 => (if t2.2 = true then (M.ret (t2.1, true)) else (M.bind (civil_count.f (s : Int) y) fun t3 => (M.bind (civil_day.f t3) fun t4 => (M.ret (t4, true)))))) R → Ev (civil_Of.f (s : Int) y) R := fun k =>
    ev_eq civil_Of.f_eq (ev_neg (by omega) (Ev.bind (last_ok y) (ev_neg (by omega) k)))
  have a1900 : Ev (civil_ahead.f 1900) 693595 := ahead_ok (by decide)
  have a1904 : Ev (civil_ahead.f 1904) 695055 := ahead_ok (by decide)
  unfold lastOf at h
  by_cases c : y = 0
  · rw [if_pos c] at h
    subst c
    by_cases s0 : s = 0
    · exact ⟨_, go (Ev.bind (ev_eq civil_odd.f_eq (ev_neg (by decide) (ev_pos (by omega) (ev_now rfl)))) (ev_pos rfl (ev_now rfl)))⟩
    · by_cases s60 : s = 60
      · exact ⟨_, go (Ev.bind (ev_eq civil_odd.f_eq (ev_neg (by decide) (ev_neg (by omega) (ev_pos (by omega) (ev_now rfl))))) (ev_pos rfl (ev_now rfl)))⟩
      · by_cases cs : (s : Int) > 60
        · obtain ⟨R, hR⟩ := day_ok (n := 693593 + s) (by omega)
          refine ⟨R, go (Ev.bind (ev_eq civil_odd.f_eq (ev_neg (by decide) (ev_neg (by omega) (ev_neg (by omega) (ev_now rfl))))) (ev_neg (by decide) (Ev.bind (ev_eq civil_count.f_eq (ev_neg (by decide) (ev_pos cs (Ev.bind a1900 (ev_now rfl))))) ?_)))⟩
          rw [wrap_id (x := (s : Int) - 1) (by omega) (by omega), wrap_id (x := 693595 + ((s : Int) - 1)) (by omega) (by omega), wrap_id (by omega) (by omega), show 693595 + ((s : Int) - 1) - 1 = ((693593 + s : Nat) : Int) by omega]
          exact Ev.bind hR (ev_now rfl)
        · obtain ⟨R, hR⟩ := day_ok (n := 693594 + s) (by omega)
          refine ⟨R, go (Ev.bind (ev_eq civil_odd.f_eq (ev_neg (by decide) (ev_neg (by omega) (ev_neg (by omega) (ev_now rfl))))) (ev_neg (by decide) (Ev.bind (ev_eq civil_count.f_eq (ev_neg (by decide) (ev_neg cs (Ev.bind a1900 (ev_now rfl))))) ?_)))⟩
          rw [wrap_id (x := 693595 + (s : Int)) (by omega) (by omega), wrap_id (by omega) (by omega), show 693595 + (s : Int) - 1 = ((693594 + s : Nat) : Int) by omega]
          exact Ev.bind hR (ev_now rfl)
  · rw [if_neg c] at h
    by_cases c1 : y = 1
    · rw [if_pos c1] at h
      subst c1
      obtain ⟨R, hR⟩ := day_ok (n := 695055 + s) (by omega)
      refine ⟨R, go (Ev.bind (ev_eq civil_odd.f_eq (ev_pos (by decide) (ev_now rfl))) (ev_neg (by decide) (Ev.bind (ev_eq civil_count.f_eq (ev_pos rfl (Ev.bind a1904 (ev_now rfl)))) ?_)))⟩
      rw [wrap_id (x := 695055 + (s : Int)) (by omega) (by omega), show 695055 + (s : Int) = ((695055 + s : Nat) : Int) by omega]
      exact Ev.bind hR (ev_now rfl)
    · rw [if_neg c1] at h
      exfalso; omega
end Go.Proofs.Yteidggfjcanbjaa.F
