/- A whole day more leaves the time as it is; with more places the units are told more finely, and, cut off, are near the coarser ones. -/
import Derived.Test.YteidggfjcanbjaaQClockMorePClockParts
namespace Go.Proofs.Yteidggfjcanbjaa.Pure
open Go Go.Proofs.Yteidggfjcanbjaa.E Go.Proofs.Yteidggfjcanbjaa.F
set_option linter.unusedVariables false
set_option linter.unusedSimpArgs false
theorem near_more {a d K : Nat} (hd : 0 < d) : near (a + K * d) d = near a d + K := by
  have h := near_spec (x := a) (y := d) hd rfl
  refine near_uniq hd ?_ ?_
  · have : 2 * (near a d + K) * d = 2 * near a d * d + 2 * (K * d) := by grind
    omega
  · have : (2 * (near a d + K) + 2) * d = (2 * near a d + 2) * d + 2 * (K * d) := by grind
    omega
/-- Days less than so many, whatever the places. -/
theorem in_time {r : List Int × List Int} {x y D c p : Nat} (hr : RQ r (x + D * y) y c) (hy : 0 < y) (hc : c ≤ 5000) (hxy : x < y) (hD : D < 2958465) (hp : p ≤ 3) :
    near ((x + D * y) * 86400 * 10 ^ p) y < 300000000000000 ∧ Ev (clock_Of.f r (p : Int) 0) (timeOf (near ((x + D * y) * 86400 * 10 ^ p) y) (10 ^ p), true) := by
  have h := clock_ok (p := p) (y := 0) hr hy hc hp
  have hN : near ((x + D * y) * 86400 * 10 ^ p) y ≤ (D + 1) * 86400 * 10 ^ p := near_small hy (by
    have : (D + 1) * 86400 * 10 ^ p * y = (y + D * y) * 86400 * 10 ^ p := by grind
    rw [this]
    exact Nat.mul_le_mul_right _ (Nat.mul_le_mul_right _ (by omega)))
  have b0 := (ten3 (p := p) (by omega)).1
  have b3 : 10 ^ p ≤ 1000 := Nat.le_trans (Nat.pow_le_pow_right (by decide) hp) (by decide)
  generalize near ((x + D * y) * 86400 * 10 ^ p) y = N at *
  generalize 10 ^ p = B at *
  have l0 : lastOf 0 = 2958465 := if_pos rfl
  rw [l0] at h
  have hN2 : N ≤ 2958465 * 86400 * B := Nat.le_trans hN (Nat.mul_le_mul_right _ (Nat.mul_le_mul_right _ (by omega)))
  have hN3 : N / B ≤ 2958465 * 86400 := by
    have := Nat.div_le_div_right (c := B) hN2
    rwa [Nat.mul_div_cancel _ (by omega)] at this
  have hN4 : N < 300000000000000 := by
    have : 2958465 * 86400 * B ≤ 2958465 * 86400 * 1000 := Nat.mul_le_mul_left _ b3
    omega
  rcases h with ⟨_, _, h⟩ | ⟨h, _⟩
  · exact ⟨hN4, h⟩
  · exfalso
    have : N / B / 60 / 60 / 24 ≤ 2958465 := by omega
    have h2 : ((N / B / 60 / 60 / 24 : Nat) : Int) ≤ ((2958465 : Nat) : Int) := Int.ofNat_le.mpr this
    rcases h with h | h
    · omega
    · exact absurd h (Int.not_lt.mpr h2)
theorem day_more {N B : Nat} (hB : 0 < B) : timeOf (N + 86400 * B) B = (((N / B / 60 / 60 / 24 + 1 : Nat) : Int), (timeOf N B).2) := by
  have e : (N + 86400 * B) / B = N / B + 86400 := Nat.add_mul_div_right _ _ hB
  have e2 : (N + 86400 * B) % B = N % B := Nat.add_mul_mod_self_right _ _ _
  unfold timeOf
  rw [e, e2]
  generalize N / B = x
  rw [show (x + 86400) / 60 / 60 / 24 = x / 60 / 60 / 24 + 1 by omega, show (x + 86400) / 60 / 60 % 24 = x / 60 / 60 % 24 by omega, show (x + 86400) / 60 % 60 = x / 60 % 60 by omega, show (x + 86400) % 60 = x % 60 by omega]
theorem ClockMore (n00 n01 n02 n03 : Int) (w00 : (Lit.int .u32 n00).wf = true) (w01 : (Lit.int .u64 n01).wf = true) (w02 : (Lit.int .u64 n02).wf = true) (w03 : (Lit.int .u8 n03).wf = true) : Ev (numerarylaw25_ClockMore.f (n00, n01, n02, n03)) true := by
  obtain ⟨h0a, h0b⟩ := wf_u32 w00
  obtain ⟨h1a, h1b⟩ := wf_u64 w01
  obtain ⟨h2a, h2b⟩ := wf_u64 w02
  obtain ⟨h3a, h3b⟩ := wf_u8 w03
  obtain ⟨x, y, hy, hy0, hy1, hxy, hx⟩ := over_max h1a h1b h2a h2b
  obtain ⟨z, rfl⟩ : ∃ n : Nat, n00 = (n : Int) := ⟨n00.toNat, by omega⟩
  obtain ⟨q, rfl⟩ : ∃ n : Nat, n03 = (n : Int) := ⟨n03.toNat, by omega⟩
  obtain ⟨D, hD, hD2⟩ : ∃ D : Nat, (z : Int).tmod 2958460 = (D : Int) ∧ D < 2958460 := ⟨z % 2958460, tmodN (K := 2958460) 2958460 rfl, Nat.mod_lt _ (by decide)⟩
  obtain ⟨p, hp, hp2⟩ : ∃ p : Nat, (q : Int).tmod 3 = (p : Int) ∧ p < 3 := ⟨q % 3, tmodN (K := 3) 3 rfl, Nat.mod_lt _ (by decide)⟩
  have lx := ln_small (n := x) (by omega)
  have ly := ln_small (n := y) (by omega)
  have lD := ln_small (n := D) (by omega)
  have l1 := ln_small (n := 1) (by decide)
  obtain ⟨r, hr, vr⟩ := ratio_of (a := x) (b := y) (c := 2) hy0 (by decide) lx ly
  obtain ⟨s, hs, vs⟩ := ratio_of (a := D) (b := 1) (c := 2) (by decide) (by decide) lD l1
  obtain ⟨o, ho, vo⟩ := ratio_of (a := 1) (b := 1) (c := 2) (by decide) (by decide) l1 l1
  obtain ⟨t, ht, vt⟩ := ratio_add hr hs hy0 (by decide) (by decide) (by decide)
  rw [Nat.mul_one, Nat.mul_one] at ht
  obtain ⟨u, hu, vu⟩ := ratio_add ht ho hy0 (by decide) (by decide) (by decide)
  rw [Nat.mul_one, Nat.mul_one, show x + D * y + 1 * y = x + (D + 1) * y by rw [Nat.add_mul, Nat.add_assoc]] at hu
  obtain ⟨na, ca⟩ := in_time (p := p) ht hy0 (by decide) hxy (by omega) (by omega)
  obtain ⟨nb, cb⟩ := in_time (p := p) hu hy0 (by decide) hxy (by omega) (by omega)
  obtain ⟨nc, cc⟩ := in_time (p := p + 1) ht hy0 (by decide) hxy (by omega) (by omega)
  have hb : near ((x + (D + 1) * y) * 86400 * 10 ^ p) y = near ((x + D * y) * 86400 * 10 ^ p) y + 86400 * 10 ^ p := by
    rw [← near_more hy0]; congr 1; grind
  rw [hb] at cb nb
  have sa := near_spec (x := (x + D * y) * 86400 * 10 ^ p) (y := y) hy0 rfl
  have sc := near_spec (x := (x + D * y) * 86400 * 10 ^ (p + 1)) (y := y) hy0 rfl
  have ep : (x + D * y) * 86400 * 10 ^ (p + 1) = (x + D * y) * 86400 * 10 ^ p * 10 := by rw [Nat.pow_succ]; grind
  obtain ⟨b1, b2⟩ := ten3 (p := p) (by omega)
  have b3 : 10 ^ p ≤ 100 := Nat.le_trans (Nat.pow_le_pow_right (by decide) (show p ≤ 2 by omega)) (by decide)
  rw [day_more (by omega)] at cb
  rw [ep] at cc nc sc
  have ssa := seconds_ok (N := near ((x + D * y) * 86400 * 10 ^ p) y) (B := 10 ^ p) (by omega) (by omega)
  have ssc := seconds_ok (N := near ((x + D * y) * 86400 * 10 ^ p * 10) y) (B := 10 ^ (p + 1)) (by omega) (Nat.pow_pos (by decide))
  have hloop : ∀ {R : Bool} {A B C : (Int × Int × Int × Int × Int) × Bool}, Ev (numerarylaw25_ClockMore.l0 A.1.1 A.1.2.1 A.1.2.2.1 A.1.2.2.2.1 A.1.2.2.2.2 A.2 B.1.1 B.1.2.1 B.1.2.2.1 B.1.2.2.2.1 B.1.2.2.2.2 B.2 C.1.1 C.1.2.1 C.1.2.2.1 C.1.2.2.2.1 C.1.2.2.2.2 C.2 ((10 ^ p : Nat) : Int) (p : Int) (p : Int)) R →
      Ev (numerarylaw25_ClockMore.l0 A.1.1 A.1.2.1 A.1.2.2.1 A.1.2.2.2.1 A.1.2.2.2.2 A.2 B.1.1 B.1.2.1 B.1.2.2.1 B.1.2.2.2.1 B.1.2.2.2.2 B.2 C.1.1 C.1.2.1 C.1.2.2.1 C.1.2.2.2.1 C.1.2.2.2.2 C.2 1 (p : Int) 0) R := by
    intro R A B C h
    have step : ∀ k i, i + k = p → Ev (numerarylaw25_ClockMore.l0 A.1.1 A.1.2.1 A.1.2.2.1 A.1.2.2.2.1 A.1.2.2.2.2 A.2 B.1.1 B.1.2.1 B.1.2.2.1 B.1.2.2.2.1 B.1.2.2.2.2 B.2 C.1.1 C.1.2.1 C.1.2.2.1 C.1.2.2.2.1 C.1.2.2.2.2 C.2 ((10 ^ i : Nat) : Int) (p : Int) (i : Int)) R := by
      intro k
      induction k with
      | zero => intro i hi; obtain rfl : i = p := by omega
                exact h
      | succ k ih =>
        intro i hi
        have := ih (i + 1) (by omega)
        refine ev_loop numerarylaw25_ClockMore.l0_eq numerarylaw25_ClockMore.l0_step (ev_pos (by omega) ?_)
        obtain ⟨c1, c2⟩ := ten3 (p := i) (by omega)
        rw [Nat.pow_succ] at this
        generalize 10 ^ i = q at *
        rw [show IntKind.i64.wrap ((q : Int) * 10) = ((q * 10 : Nat) : Int) by rw [wrap_id (by omega) (by omega)]; omega, show IntKind.i64.wrap ((i : Int) + 1) = ((i + 1 : Nat) : Int) by rw [wrap_id (by omega) (by omega)]; omega]
        exact this
    exact step p 0 (by omega)
  rw [show 10 ^ (p + 1) = 10 * 10 ^ p by rw [Nat.pow_succ, Nat.mul_comm]] at cc ssc
  obtain ⟨A, hA⟩ : ∃ A, (x + D * y) * 86400 * 10 ^ p = A := ⟨_, rfl⟩
  rw [hA] at ca cb cc sa sc ssa ssc na nb nc
  clear hA ep hb
  obtain ⟨B, hB⟩ : ∃ B, 10 ^ p = B := ⟨_, rfl⟩
  rw [hB] at ca cb cc ssa ssc b1 b3 nb
  simp only [hB] at hloop
  clear b2
  have sa' : 2 * (near A y * y) ≤ 2 * A + y ∧ 2 * A < 2 * (near A y * y) + y := by
    have e1 : 2 * near A y * y = 2 * (near A y * y) := Nat.mul_assoc _ _ _
    have e2 : (2 * near A y + 2) * y = 2 * (near A y * y) + 2 * y := by grind
    omega
  have sc' : 2 * (near (A * 10) y * y) ≤ 2 * (A * 10) + y ∧ 2 * (A * 10) < 2 * (near (A * 10) y * y) + y := by
    have e1 : 2 * near (A * 10) y * y = 2 * (near (A * 10) y * y) := Nat.mul_assoc _ _ _
    have e2 : (2 * near (A * 10) y + 2) * y = 2 * (near (A * 10) y * y) + 2 * y := by grind
    omega
  generalize near A y = M at *
  generalize near (A * 10) y = C at *
  have k1 : 10 * M ≤ C + 5 := by
    rcases Nat.lt_or_ge (C + 5) (10 * M) with h | h
    · exfalso
      have h1 : (C + 6) * y ≤ 10 * M * y := Nat.mul_le_mul_right _ (by omega)
      have h2 : (C + 6) * y = C * y + 6 * y := Nat.add_mul _ _ _
      have h3 : 10 * M * y = 10 * (M * y) := Nat.mul_assoc _ _ _
      generalize C * y = cy at *
      generalize M * y = my at *
      omega
    · exact h
  have k2 : C ≤ 10 * M + 5 := by
    rcases Nat.lt_or_ge (10 * M + 5) C with h | h
    · exfalso
      have h1 : (10 * M + 6) * y ≤ C * y := Nat.mul_le_mul_right _ (by omega)
      have h2 : (10 * M + 6) * y = 10 * M * y + 6 * y := Nat.add_mul _ _ _
      have h3 : 10 * M * y = 10 * (M * y) := Nat.mul_assoc _ _ _
      generalize C * y = cy at *
      generalize M * y = my at *
      omega
    · exact h
  clear sa sc sa' sc' hr hs ho ht hu
  refine ev_eq numerarylaw25_ClockMore.f_eq ?_
  dsimp only
  rw [hx, hy, hD, hp, wrap_u64_nat (n := D) (by omega), wrap_nat (a := p) (by omega), show IntKind.i64.wrap ((p : Int) + 1) = ((p + 1 : Nat) : Int) by rw [wrap_id (by omega) (by omega)]; omega]
  refine ev_pos (by omega) (Ev.bind (of_val (by omega)) (Ev.bind (of_val (by omega)) (Ev.bind vr (Ev.bind (of_val (by omega)) (Ev.bind (of_val (n := 1) (by decide)) (Ev.bind vs (Ev.bind (of_val (n := 1) (by decide)) (Ev.bind (of_val (n := 1) (by decide)) (Ev.bind vo (Ev.bind vt (Ev.bind ca (Ev.bind vu (Ev.bind cb (Ev.bind cc (hloop ?_)))))))))))))))
  refine ev_loop numerarylaw25_ClockMore.l0_eq numerarylaw25_ClockMore.l0_step (ev_neg (by omega) (Ev.bind ssa (Ev.bind ssc (Ev.bind wakes25 (ev_pos rfl (ev_pos rfl (ev_pos rfl (ev_pos rfl ?_))))))))
  have dl : M / B / 60 / 60 / 24 ≤ 300000000000000 := Nat.le_trans (Nat.div_le_self _ _) (Nat.le_trans (Nat.div_le_self _ _) (Nat.le_trans (Nat.div_le_self _ _) (Nat.le_trans (Nat.div_le_self _ _) (by omega))))
  refine ev_pos ⟨?day, rfl, rfl, rfl, rfl⟩ ?main
  case day =>
    dsimp only [timeOf]
    generalize M / B / 60 / 60 / 24 = d at *
    rw [wrap_id (by omega) (by omega)]; omega
  case main =>
  dsimp only [timeOf]
  have va : IntKind.i64.wrap (10 * IntKind.i64.wrap (IntKind.i64.wrap (((M / B : Nat) : Int) * (B : Int)) + ((M % B : Nat) : Int))) = ((10 * M : Nat) : Int) := by
    have e0 := Nat.div_add_mod M B
    have e : M / B * B = B * (M / B) := Nat.mul_comm _ _
    have e2 : ((M / B : Nat) : Int) * (B : Int) = ((B * (M / B) : Nat) : Int) := by rw [← e]; push_cast; rfl
    rw [e2]
    generalize B * (M / B) = Q at *
    generalize M % B = w at *
    rw [wrap_id (x := (Q : Int)) (by omega) (by omega), wrap_id (x := (Q : Int) + (w : Int)) (by omega) (by omega), wrap_id (by omega) (by omega)]
    omega
  have vc : IntKind.i64.wrap (IntKind.i64.wrap (IntKind.i64.wrap (10 * ((C / (10 * B) : Nat) : Int)) * (B : Int)) + ((C % (10 * B) : Nat) : Int)) = ((C : Nat) : Int) := by
    have e0 := Nat.div_add_mod C (10 * B)
    have e1 : C / (10 * B) ≤ C := Nat.div_le_self _ _
    have e2 : (10 * ((C / (10 * B) : Nat) : Int)) * (B : Int) = ((10 * B * (C / (10 * B)) : Nat) : Int) := by push_cast; grind
    rw [wrap_id (x := 10 * ((C / (10 * B) : Nat) : Int)) (Int.le_trans (by decide) (Int.mul_nonneg (by decide) (Int.natCast_nonneg _))) (by
      have : ((C / (10 * B) : Nat) : Int) ≤ ((C : Nat) : Int) := Int.ofNat_le.mpr e1
      generalize ((C / (10 * B) : Nat) : Int) = g at *
      omega), e2]
    generalize 10 * B * (C / (10 * B)) = Q at *
    generalize C % (10 * B) = w at *
    rw [wrap_id (x := (Q : Int)) (by omega) (by omega), wrap_id (by omega) (by omega)]
    omega
  have key : IntKind.i64.wrap (IntKind.i64.wrap (10 * IntKind.i64.wrap (IntKind.i64.wrap (((M / B : Nat) : Int) * (B : Int)) + ((M % B : Nat) : Int))) - IntKind.i64.wrap (IntKind.i64.wrap (IntKind.i64.wrap (10 * ((C / (10 * B) : Nat) : Int)) * (B : Int)) + ((C % (10 * B) : Nat) : Int))) = ((10 * M : Nat) : Int) - ((C : Nat) : Int) := by
    rw [va, vc, wrap_id (x := ((10 * M : Nat) : Int) - ((C : Nat) : Int)) (by omega) (by omega)]
  clear va vc
  exact ev_pos (Int.le_trans (show (-5 : Int) ≤ ((10 * M : Nat) : Int) - ((C : Nat) : Int) by omega) (Int.le_of_eq key.symm)) (ev_now (decide_eq_true (Int.le_trans (Int.le_of_eq key) (by omega))))
end Go.Proofs.Yteidggfjcanbjaa.Pure
