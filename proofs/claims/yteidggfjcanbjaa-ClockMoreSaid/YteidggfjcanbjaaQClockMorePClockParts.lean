/- No second or minute is above 59, no hour above 23, no part above what the places allow; all together are the number of units next to the number. -/
import Derived.Test.YteidggfjcanbjaaQClockMorePClockTotals
namespace Go.Proofs.Yteidggfjcanbjaa.Pure
open Go Go.Proofs.Yteidggfjcanbjaa.E Go.Proofs.Yteidggfjcanbjaa.F
set_option linter.unusedVariables false
set_option linter.unusedSimpArgs false
/-- A number of a uint64 over one that isn't 0. -/
theorem over_max {n m : Int} (hn0 : 0 ≤ n) (hn : n < 18446744073709551616) (hm0 : 0 ≤ m) (hm : m < 18446744073709551616) : ∃ x y : Nat, mxI 1 m = (y : Int) ∧ 0 < y ∧ y < 18446744073709551616 ∧ x < y ∧ n.tmod (mxI 1 m) = (x : Int) := by
  obtain ⟨k, rfl⟩ : ∃ k : Nat, n = (k : Int) := ⟨n.toNat, by omega⟩
  obtain ⟨j, rfl⟩ : ∃ j : Nat, m = (j : Int) := ⟨m.toNat, by omega⟩
  have h1 : mxI 1 (j : Int) = ((max 1 j : Nat) : Int) := by unfold mxI; split <;> omega
  rw [h1]
  refine ⟨k % max 1 j, max 1 j, rfl, by omega, by omega, Nat.mod_lt _ (by omega), tmodN _ rfl⟩
theorem seconds_ok {N B : Nat} (hN : N < 3000000000000000) (hB : 1 ≤ B) : Ev (clock_Time_Total.f (timeOf N B) (⟨#[115]⟩ : ByteArray)) (((N / B : Nat) : Int), true) := by
  have t := total_s ((N / B / 60 / 60 / 24 : Nat) : Int) ((N / B / 60 / 60 % 24 : Nat) : Int) ((N / B / 60 % 60 : Nat) : Int) ((N / B % 60 : Nat) : Int) ((N % B : Nat) : Int)
  have b1 := Nat.div_le_self N B
  unfold timeOf
  generalize N % B = y at *
  generalize N / B = x at *
  rw [wrap_id (x := ((x / 60 / 60 / 24 : Nat) : Int) * 24) (by omega) (by omega), show ((x / 60 / 60 / 24 : Nat) : Int) * 24 + ((x / 60 / 60 % 24 : Nat) : Int) = ((x / 60 / 60 : Nat) : Int) by omega, wrap_nat (a := x / 60 / 60) (by omega),
    wrap_id (x := ((x / 60 / 60 : Nat) : Int) * 60) (by omega) (by omega), show ((x / 60 / 60 : Nat) : Int) * 60 + ((x / 60 % 60 : Nat) : Int) = ((x / 60 : Nat) : Int) by omega, wrap_nat (a := x / 60) (by omega),
    wrap_id (x := ((x / 60 : Nat) : Int) * 60) (by omega) (by omega), show ((x / 60 : Nat) : Int) * 60 + ((x % 60 : Nat) : Int) = ((x : Nat) : Int) by omega, wrap_nat (a := x) (by omega)] at t
  exact t
theorem ten3 {p : Nat} (hp : p ≤ 4) : 1 ≤ 10 ^ p ∧ 10 ^ p ≤ 10000 := ⟨Nat.pow_pos (by decide), Nat.le_trans (Nat.pow_le_pow_right (by decide) hp) (by decide)⟩
theorem near_small {a K d : Nat} (hd : 0 < d) (h : a ≤ K * d) : near a d ≤ K := by
  unfold near
  refine Nat.lt_succ_iff.mp (Nat.div_lt_of_lt_mul ?_)
  have : 2 * d * K.succ = 2 * (K * d) + 2 * d := by rw [Nat.succ_eq_add_one]; grind
  omega
theorem ClockParts (n00 n01 n02 n03 : Int) (w00 : (Lit.int .u32 n00).wf = true) (w01 : (Lit.int .u64 n01).wf = true) (w02 : (Lit.int .u64 n02).wf = true) (w03 : (Lit.int .u8 n03).wf = true) : Ev (numerarylaw25_ClockParts.f (n00, n01, n02, n03)) true := by
  obtain ⟨h0a, h0b⟩ := wf_u32 w00
  obtain ⟨h1a, h1b⟩ := wf_u64 w01
  obtain ⟨h2a, h2b⟩ := wf_u64 w02
  obtain ⟨h3a, h3b⟩ := wf_u8 w03
  obtain ⟨x, y, hy, hy0, hy1, hxy, hx⟩ := over_max h1a h1b h2a h2b
  obtain ⟨z, rfl⟩ : ∃ n : Nat, n00 = (n : Int) := ⟨n00.toNat, by omega⟩
  obtain ⟨q, rfl⟩ : ∃ n : Nat, n03 = (n : Int) := ⟨n03.toNat, by omega⟩
  obtain ⟨D, hD, hD2⟩ : ∃ D : Nat, (z : Int).tmod 2958465 = (D : Int) ∧ D < 2958465 := ⟨z % 2958465, tmodN (K := 2958465) 2958465 rfl, Nat.mod_lt _ (by decide)⟩
  obtain ⟨p, hp, hp2⟩ : ∃ p : Nat, (q : Int).tmod 4 = (p : Int) ∧ p < 4 := ⟨q % 4, tmodN (K := 4) 4 rfl, Nat.mod_lt _ (by decide)⟩
  have lx := ln_small (n := x) (by omega)
  have ly := ln_small (n := y) (by omega)
  have lD := ln_small (n := D) (by omega)
  have l1 := ln_small (n := 1) (by decide)
  obtain ⟨r, hr, vr⟩ := ratio_of (a := x) (b := y) (c := 2) hy0 (by decide) lx ly
  obtain ⟨s, hs, vs⟩ := ratio_of (a := D) (b := 1) (c := 2) (by decide) (by decide) lD l1
  obtain ⟨t, ht, vt⟩ := ratio_add hr hs hy0 (by decide) (by decide) (by decide)
  rw [Nat.mul_one, Nat.mul_one] at ht
  have hc := clock_ok (p := p) (y := 0) ht hy0 (by decide) (by omega)
  obtain ⟨b1, b2⟩ := ten3 (p := p) (by omega)
  have b3 : 10 ^ p ≤ 1000 := Nat.le_trans (Nat.pow_le_pow_right (by decide) (show p ≤ 3 by omega)) (by decide)
  have sp := near_spec (x := (x + D * y) * 86400 * 10 ^ p) (y := y) hy0 rfl
  have hN : near ((x + D * y) * 86400 * 10 ^ p) y ≤ (D + 1) * 86400 * 10 ^ p := near_small hy0 (by
    have : (D + 1) * 86400 * 10 ^ p * y = (y + D * y) * 86400 * 10 ^ p := by grind
    rw [this]
    exact Nat.mul_le_mul_right _ (Nat.mul_le_mul_right _ (by omega)))
  have l0 : lastOf 0 = 2958465 := if_pos rfl
  rw [l0] at hc
  have e0 : (x + D * y) * 86400 * 10 ^ p = (x + D * y) * (86400 * 10 ^ p) := Nat.mul_assoc _ _ _
  rw [e0] at hc sp hN
  generalize hNN : near ((x + D * y) * (86400 * 10 ^ p)) y = N at *
  have hloop : ∀ {R : Bool} {t8 : (Int × Int × Int × Int × Int) × Bool}, Ev (numerarylaw25_ClockParts.l0 t.1 t.2 t8.1.1 t8.1.2.1 t8.1.2.2.1 t8.1.2.2.2.1 t8.1.2.2.2.2 t8.2 ((10 ^ p : Nat) : Int) (p : Int) (p : Int)) R → Ev (numerarylaw25_ClockParts.l0 t.1 t.2 t8.1.1 t8.1.2.1 t8.1.2.2.1 t8.1.2.2.2.1 t8.1.2.2.2.2 t8.2 1 (p : Int) 0) R := by
    intro R t8 h
    have step : ∀ k i, i + k = p → Ev (numerarylaw25_ClockParts.l0 t.1 t.2 t8.1.1 t8.1.2.1 t8.1.2.2.1 t8.1.2.2.2.1 t8.1.2.2.2.2 t8.2 ((10 ^ i : Nat) : Int) (p : Int) (i : Int)) R := by
      intro k
      induction k with
      | zero => intro i hi; obtain rfl : i = p := by omega
                exact h
      | succ k ih =>
        intro i hi
        have := ih (i + 1) (by omega)
        refine ev_loop numerarylaw25_ClockParts.l0_eq numerarylaw25_ClockParts.l0_step (ev_pos (by omega) ?_)
        obtain ⟨c1, c2⟩ := ten3 (p := i) (by omega)
        rw [Nat.pow_succ] at this
        generalize 10 ^ i = q at *
        rw [show IntKind.i64.wrap ((q : Int) * 10) = ((q * 10 : Nat) : Int) by rw [wrap_id (by omega) (by omega)]; omega, show IntKind.i64.wrap ((i : Int) + 1) = ((i + 1 : Nat) : Int) by rw [wrap_id (by omega) (by omega)]; omega]
        exact this
    exact step p 0 (by omega)
  generalize 10 ^ p = B at *
  have hN2 : N ≤ 2958465 * 86400 * B := Nat.le_trans hN (Nat.mul_le_mul_right _ (Nat.mul_le_mul_right _ (by omega)))
  have hN3 : N / B ≤ 2958465 * 86400 := by
    have := Nat.div_le_div_right (c := B) hN2
    rwa [Nat.mul_div_cancel _ (by omega)] at this
  have hN4 : N < 3000000000000000 := by
    have : 2958465 * 86400 * B ≤ 2958465 * 86400 * 1000 := Nat.mul_le_mul_left _ b3
    omega
  have hlow := Nat.mod_lt N (show 0 < B by omega)
  have hdm := Nat.div_add_mod N B
  rcases hc with ⟨c1, c2, hc⟩ | ⟨c, _⟩
  · have lN := ln_small (n := N) (by omega)
    have lK := ln_small (n := 86400 * B) (by omega)
    have lK2 := ln_small (n := 172800 * B) (by omega)
    obtain ⟨al, hal, val⟩ := ratio_of (a := N) (b := 86400 * B) (c := 2) (by omega) (by decide) lN lK
    obtain ⟨hf, hhf, vhf⟩ := ratio_of (a := 1) (b := 172800 * B) (c := 2) (by omega) (by decide) l1 lK2
    obtain ⟨aw, haw, vaw⟩ := ratio_away hal ht (by omega) hy0 (by decide) (by decide)
    have v1 := ratio_cmp haw hhf (Nat.mul_pos (by omega) hy0) (by omega) (by decide) (by decide)
    have v2 := ratio_cmp hal ht (by omega) hy0 (by decide) (by decide)
    have sec := seconds_ok (N := N) (B := B) (by omega) (by omega)
    have w1 : IntKind.u64.wrap ((IntKind.u64.wrap ((IntKind.u64.wrap (((N / B : Nat) : Int))) * (IntKind.u64.wrap ((B : Int))))) + (IntKind.u64.wrap (((N % B : Nat) : Int)))) = (N : Int) := by
      have e : N / B * B = B * (N / B) := Nat.mul_comm _ _
      have e2 : ((N / B : Nat) : Int) * (B : Int) = ((B * (N / B) : Nat) : Int) := by rw [← e]; push_cast; rfl
      generalize N / B = Q at *
      generalize N % B = M at *
      rw [u64_id (x := (Q : Int)) (by omega) (by omega), u64_id (x := (B : Int)) (by omega) (by omega), u64_id (x := (M : Int)) (by omega) (by omega), e2]
      generalize B * Q = u at *
      rw [u64_id (x := (u : Int)) (by omega) (by omega), u64_id (by omega) (by omega)]
      omega
    have w2 : IntKind.u64.wrap (86400 * (IntKind.u64.wrap ((B : Int)))) = ((86400 * B : Nat) : Int) := by rw [u64_id (x := (B : Int)) (by omega) (by omega), u64_id (by omega) (by omega)]; omega
    have w3 : IntKind.u64.wrap (172800 * (IntKind.u64.wrap ((B : Int)))) = ((172800 * B : Nat) : Int) := by rw [u64_id (x := (B : Int)) (by omega) (by omega), u64_id (by omega) (by omega)]; omega
    refine ev_eq numerarylaw25_ClockParts.f_eq ?_
    dsimp only
    rw [hx, hy, hD, hp, wrap_u64_nat (n := D) (by omega), wrap_nat (a := p) (by omega)]
    refine ev_pos (by omega) (Ev.bind (of_val (by omega)) (Ev.bind (of_val (by omega)) (Ev.bind vr (Ev.bind (of_val (by omega)) (Ev.bind (of_val (n := 1) (by decide)) (Ev.bind vs (Ev.bind vt (Ev.bind hc (hloop ?_)))))))))
    refine ev_loop numerarylaw25_ClockParts.l0_eq numerarylaw25_ClockParts.l0_step (ev_neg (by omega) (Ev.bind wakes25 (ev_neg (by decide) (ev_neg (by simp) ?_))))
    have hm1 := Nat.mod_lt (N / B) (show 0 < 60 by decide)
    have hm2 := Nat.mod_lt (N / B / 60) (show 0 < 60 by decide)
    have hm3 := Nat.mod_lt (N / B / 60 / 60) (show 0 < 24 by decide)
    refine ev_neg (show ¬ ((N % B : Nat) : Int) < 0 by omega) (ev_neg (show ¬ ((N % B : Nat) : Int) ≥ (B : Int) by omega) (ev_neg (show ¬ ((N / B % 60 : Nat) : Int) < 0 by omega) (ev_neg (show ¬ ((N / B % 60 : Nat) : Int) > 59 by omega) (ev_neg (show ¬ ((N / B / 60 % 60 : Nat) : Int) < 0 by omega) (ev_neg (show ¬ ((N / B / 60 % 60 : Nat) : Int) > 59 by omega) (ev_neg (show ¬ ((N / B / 60 / 60 % 24 : Nat) : Int) < 0 by omega) (ev_neg (show ¬ ((N / B / 60 / 60 % 24 : Nat) : Int) > 23 by omega) (ev_neg (Int.not_lt.mpr (Int.natCast_nonneg _)) ?_))))))))
    refine Ev.bind sec ?_
    dsimp only [timeOf]
    rw [w1, w2, w3]
    refine Ev.bind (of_val (by omega)) (Ev.bind (of_val (by omega)) (Ev.bind val (Ev.bind (of_val (n := 1) (by decide)) (Ev.bind (of_val (by omega)) (Ev.bind vhf (Ev.bind vaw (Ev.bind v1 ?_)))))))
    clear vr vs vt hc hloop val vhf vaw v1 hr hs ht hal hhf haw sec w1 w2 w3
    have e1 : 2 * N * y = 2 * (N * y) := Nat.mul_assoc _ _ _
    have e2 : (2 * N + 2) * y = 2 * (N * y) + 2 * y := by grind
    rw [e1, e2] at sp
    have e3 : ad (N * y) ((x + D * y) * (86400 * B)) * (172800 * B) = 2 * ad (N * y) ((x + D * y) * (86400 * B)) * (86400 * B) := by
      rw [show 172800 * B = 2 * (86400 * B) by omega]; grind
    have e4 : 1 * (86400 * B * y) = y * (86400 * B) := by rw [Nat.one_mul, Nat.mul_comm]
    rw [e3, e4]
    have hK : 0 < 86400 * B := by omega
    generalize 86400 * B = K at *
    generalize (x + D * y) * K = A at *
    generalize N * y = C at *
    by_cases c : 2 * ad C A < y
    · exact ev_pos (cmpI_lt.mpr ((Nat.mul_lt_mul_right hK).mpr c)) (ev_now rfl)
    · have hge : 2 * ad C A = y ∧ A < C := by unfold ad at *; omega
      rw [hge.1]
      exact ev_neg (fun h => by have := cmpI_lt.mp h; omega) (ev_pos (cmpI_self _) (Ev.bind v2 (ev_now (decide_eq_true (cmpI_gt.mpr hge.2)))))
  · exfalso
    have : N / B / 60 / 60 / 24 ≤ 2958465 := by omega
    omega
end Go.Proofs.Yteidggfjcanbjaa.Pure
