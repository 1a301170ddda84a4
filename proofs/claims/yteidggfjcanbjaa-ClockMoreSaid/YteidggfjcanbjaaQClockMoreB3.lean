/- The time of a number. -/
import Derived.Test.YteidggfjcanbjaaQClockMoreB2
namespace Go.Proofs.Yteidggfjcanbjaa.F
open Go Go.Proofs.Yteidggfjcanbjaa.E
set_option linter.unusedVariables false
set_option linter.unusedSimpArgs false
/-- Days, hours, minutes, seconds and parts of n units, of which B are a second. -/
def timeOf (n B : Nat) : Int × Int × Int × Int × Int := (((n / B / 60 / 60 / 24 : Nat) : Int), ((n / B / 60 / 60 % 24 : Nat) : Int), ((n / B / 60 % 60 : Nat) : Int), ((n / B % 60 : Nat) : Int), ((n % B : Nat) : Int))
theorem clock_tail {n B : Nat} {y : Int} (hn : n < 18446744073709551616) (hB : 0 < B) (hB2 : B ≤ 1000) :
    ((n / B / 60 / 60 / 24 : Nat) : Int) ≤ lastOf y ∧ Ev (M.bind (clock_part.f (n : Int) (B : Int)) fun t1 => (M.bind (clock_part.f t1.2 60) fun t2 => (M.bind (clock_part.f t2.2 60) fun t3 => (M.bind (clock_part.f t3.2 24) fun t4 => (M.bind (civil_Of.f (IntKind.i64.wrap (t4.2)) y) fun t5 => (if (!t5.2) = true then (M.ret (((0 : Int), (0 : Int), (0 : Int), (0 : Int), (0 : Int)), false)) else (M.ret ((IntKind.i64.wrap (t4.2), t4.1, t3.1, t2.1, t1.1), true)))))))) (timeOf n B, true) ∨
    lastOf y < ((n / B / 60 / 60 / 24 : Nat) : Int) ∧ Ev (M.bind (clock_part.f (n : Int) (B : Int)) fun t1 => (M.bind (clock_part.f t1.2 60) fun t2 => (M.bind (clock_part.f t2.2 60) fun t3 => (M.bind (clock_part.f t3.2 24) fun t4 => (M.bind (civil_Of.f (IntKind.i64.wrap (t4.2)) y) fun t5 => (if (!t5.2) = true then (M.ret (((0 : Int), (0 : Int), (0 : Int), (0 : Int), (0 : Int)), false)) else (M.ret ((IntKind.i64.wrap (t4.2), t4.1, t3.1, t2.1, t1.1), true)))))))) ((0, 0, 0, 0, 0), false) := by
  have b1 := Nat.div_le_self n B
  have p1 := part_ok hn hB (by omega)
  have p2 := part_ok (y := n / B) (b := 60) (by omega) (by decide) (by decide)
  have p3 := part_ok (y := n / B / 60) (b := 60) (by omega) (by decide) (by decide)
  have p4 := part_ok (y := n / B / 60 / 60) (b := 24) (by omega) (by decide) (by decide)
  unfold timeOf
  generalize n % B = m1 at *
  generalize n / B = m2 at *
  have hw : IntKind.i64.wrap ((m2 / 60 / 60 / 24 : Nat) : Int) = ((m2 / 60 / 60 / 24 : Nat) : Int) := wrap_nat (by omega)
  by_cases c : ((m2 / 60 / 60 / 24 : Nat) : Int) ≤ lastOf y
  · left
    obtain ⟨R, hR⟩ := civil_yes c
    refine ⟨c, Ev.bind p1 (Ev.bind p2 (Ev.bind p3 (Ev.bind p4 ?_)))⟩
    dsimp only
    rw [hw]
    exact Ev.bind hR (ev_neg (by simp) (ev_now rfl))
  · right
    refine ⟨by omega, Ev.bind p1 (Ev.bind p2 (Ev.bind p3 (Ev.bind p4 ?_)))⟩
    dsimp only
    rw [hw]
    exact Ev.bind (civil_no (by omega)) (ev_pos rfl (ev_now rfl))
theorem clock_loop {p : Nat} {y N : Int} {R : (Int × Int × Int × Int × Int) × Bool} (hp : p ≤ 3) (h : Ev (clock_Of.l0 y 0 0 0 0 0 N ((10 ^ p : Nat) : Int) (p : Int) (p : Int)) R) : Ev (clock_Of.l0 y 0 0 0 0 0 N 1 (p : Int) 0) R := by
  have step : ∀ k i, i + k = p → Ev (clock_Of.l0 y 0 0 0 0 0 N ((10 ^ i : Nat) : Int) (p : Int) (i : Int)) R := by
    intro k
    induction k with
    | zero => intro i hi; obtain rfl : i = p := by omega
              exact h
    | succ k ih =>
      intro i hi
      have h10 : 10 ^ i ≤ 10 ^ 3 := Nat.pow_le_pow_right (by decide) (by omega)
      refine ev_loop clock_Of.l0_eq clock_Of.l0_step (ev_pos (by omega) ?_)
      have := ih (i + 1) (by omega)
      rw [Nat.pow_succ] at this
      generalize 10 ^ i = q at *
      rw [show IntKind.u64.wrap ((q : Int) * 10) = ((q * 10 : Nat) : Int) by rw [u64_id (by omega) (by omega)]; omega, show IntKind.i64.wrap ((i : Int) + 1) = ((i + 1 : Nat) : Int) by rw [wrap_id (by omega) (by omega)]; omega]
      exact this
  exact step p 0 (by omega)
/-- The time of a quotient, by so many places. -/
theorem clock_ok {r : List Int × List Int} {n d c p : Nat} {y : Int} (hr : RQ r n d c) (hd : 0 < d) (hc : c ≤ 5000) (hp : p ≤ 3) :
    (near (n * 86400 * 10 ^ p) d < 18446744073709551616 ∧ ((near (n * 86400 * 10 ^ p) d / 10 ^ p / 60 / 60 / 24 : Nat) : Int) ≤ lastOf y ∧ Ev (clock_Of.f r (p : Int) y) (timeOf (near (n * 86400 * 10 ^ p) d) (10 ^ p), true)) ∨
    ((18446744073709551616 ≤ near (n * 86400 * 10 ^ p) d ∨ lastOf y < ((near (n * 86400 * 10 ^ p) d / 10 ^ p / 60 / 60 / 24 : Nat) : Int)) ∧ Ev (clock_Of.f r (p : Int) y) ((0, 0, 0, 0, 0), false)) := by
  obtain ⟨u1, u2⟩ := units_ok hr hd hc (show p ≤ 5000 by omega)
  have h10 : 10 ^ p ≤ 10 ^ 3 := Nat.pow_le_pow_right (by decide) hp
  have h0 : 0 < 10 ^ p := Nat.pow_pos (by decide)
  generalize near (n * 86400 * 10 ^ p) d = N at *
  by_cases hN : N < 18446744073709551616
  · have base : ∀ {R}, Ev (M.bind (clock_part.f (N : Int) ((10 ^ p : Nat) : Int)) fun t1 => (M.bind (clock_part.f t1.2 60) fun t2 => (M.bind (clock_part.f t2.2 60) fun t3 => (M.bind (clock_part.f t3.2 24) fun t4 => (M.bind (civil_Of.f (IntKind.i64.wrap (t4.2)) y) fun t5 => (if (!t5.2) = true then (M.ret (((0 : Int), (0 : Int), (0 : Int), (0 : Int), (0 : Int)), false)) else (M.ret ((IntKind.i64.wrap (t4.2), t4.1, t3.1, t2.1, t1.1), true)))))))) R → Ev (clock_Of.f r (p : Int) y) R := fun k =>
      ev_eq clock_Of.f_eq (ev_neg (by omega) (ev_neg (by omega) (Ev.bind (u1 hN) (ev_neg (by simp) (clock_loop hp (ev_loop clock_Of.l0_eq clock_Of.l0_step (ev_neg (by omega) k)))))))
    rcases clock_tail (y := y) hN h0 (by omega) with ⟨h1, h2⟩ | ⟨h1, h2⟩
    · exact .inl ⟨hN, h1, base h2⟩
    · exact .inr ⟨.inr h1, base h2⟩
  · exact .inr ⟨.inl (by omega), ev_eq clock_Of.f_eq (ev_neg (by omega) (ev_neg (by omega) (Ev.bind (u2 (by omega)) (ev_pos rfl (ev_now rfl)))))⟩
theorem clock_bad {r : List Int × List Int} {p y : Int} (h : p < 0 ∨ 3 < p) : Ev (clock_Of.f r p y) ((0, 0, 0, 0, 0), false) := by
  refine ev_eq clock_Of.f_eq ?_
  by_cases c : p < 0
  · exact ev_pos c (ev_now rfl)
  · exact ev_neg c (ev_pos (by omega) (ev_now rfl))
theorem twelve_ok {D h m s q : Int} (h1 : 0 ≤ h) (h2 : h < 24) : ∃ k : Int, Ev (clock_Time_Twelve.f (D, h, m, s, q)) (k, decide (h ≥ 12)) ∧ 1 ≤ k ∧ k ≤ 12 ∧ k % 12 = h % 12 := by
  have e : h.tmod 12 = h % 12 := Int.tmod_eq_emod_of_nonneg h1
  by_cases c : h % 12 = 0
  · exact ⟨12, ev_eq clock_Time_Twelve.f_eq (ev_pos (by dsimp only; rw [e]; exact c) (ev_now rfl)), by omega, by omega, by omega⟩
  · refine ⟨h % 12, ev_eq clock_Time_Twelve.f_eq (ev_neg (by dsimp only; rw [e]; exact c) (ev_now ?_)), by omega, by omega, by omega⟩
    dsimp only; rw [e]
theorem wakes25 : Ev (numerarylaw25_wakes.f ()) true := by
  have s : ∀ n : Nat, n < 18446744073709551616 → ln n ≤ 1000 := fun n h => Nat.le_trans (ln_small h) (by decide)
  obtain ⟨r, hr, vr⟩ := ratio_of (a := 3) (b := 4) (c := 1000) (by decide) (by decide) (s _ (by decide)) (s _ (by decide))
  obtain ⟨q, hq, vq⟩ := ratio_of (a := 99999999) (b := 100000000) (c := 1000) (by decide) (by decide) (s _ (by decide)) (s _ (by decide))
  have c1 := clock_ok (p := 0) (y := 0) hr (by decide) (by decide) (by decide)
  have c2 := clock_ok (p := 0) (y := 0) hq (by decide) (by decide) (by decide)
  rw [show near (3 * 86400 * 10 ^ 0) 4 = 64800 by decide] at c1
  rw [show near (99999999 * 86400 * 10 ^ 0) 100000000 = 86400 by decide] at c2
  have l0 : lastOf 0 = 2958465 := if_pos rfl
  rw [l0] at c1 c2
  rcases c1 with ⟨_, _, c1⟩ | ⟨h, _⟩
  · rcases c2 with ⟨_, _, c2⟩ | ⟨h, _⟩
    · rw [show timeOf 64800 (10 ^ 0) = (0, 18, 0, 0, 0) by decide] at c1
      rw [show timeOf 86400 (10 ^ 0) = (1, 0, 0, 0, 0) by decide] at c2
      have t : Ev (clock_Time_Twelve.f (0, 18, 0, 0, 0)) (6, true) := ev_eq clock_Time_Twelve.f_eq (ev_neg (by decide) (ev_now (by decide)))
      exact ev_eq numerarylaw25_wakes.f_eq (Ev.bind (of_val (n := 3) (by decide)) (Ev.bind (of_val (n := 4) (by decide)) (Ev.bind vr (Ev.bind c1 (Ev.bind (of_val (n := 99999999) (by decide)) (Ev.bind (of_val (n := 100000000) (by decide)) (Ev.bind vq (Ev.bind c2 (Ev.bind t (ev_pos rfl (ev_pos (by decide) (ev_pos rfl (ev_pos (by decide) (ev_pos rfl (ev_now rfl)))))))))))))))
    · exfalso; omega
  · exfalso; omega
end Go.Proofs.Yteidggfjcanbjaa.F
