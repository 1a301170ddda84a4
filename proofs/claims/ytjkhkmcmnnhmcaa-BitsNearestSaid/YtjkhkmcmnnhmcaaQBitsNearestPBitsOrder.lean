/- Of each two of 64 bits that are neither negative nor infinite nor Nothing, the greater ones have the greater value, and only the same ones the same. -/
import Derived.Test.YtjkhkmcmnnhmcaaQBitsNearestY07
namespace Go.Proofs.Ytjkhkmcmnnhmcaa.Pure
open Go Go.Proofs.Ytjkhkmcmnnhmcaa.E Go.Proofs.Ytjkhkmcmnnhmcaa.F
set_option linter.unusedVariables false
/-- The value, times two to 1074. -/
def Nn (e f : Nat) : Nat := if e = 0 then f else (f + 4503599627370496) * 2 ^ (e - 1)
theorem Nn_lt {e f g h : Nat} (hf : f < 4503599627370496) (hh : h < 4503599627370496) (hlt : W 0 e f < W 0 g h) : Nn e f < Nn g h := by
  unfold W at hlt
  by_cases c : e = g
  · subst c
    have : f < h := by omega
    unfold Nn
    by_cases e0 : e = 0
    · rw [if_pos e0, if_pos e0]; exact this
    · rw [if_neg e0, if_neg e0]
      exact Nat.mul_lt_mul_of_pos_right (by omega) (Nat.pow_pos (by decide))
  · have c : e < g := by omega
    have h1 : Nn e f < 4503599627370496 * 2 ^ e := by
      unfold Nn
      by_cases e0 : e = 0
      · subst e0; rw [if_pos rfl, Nat.pow_zero]; omega
      · rw [if_neg e0]
        obtain ⟨d, rfl⟩ : ∃ d, e = d + 1 := ⟨e - 1, by omega⟩
        rw [Nat.add_sub_cancel, Nat.pow_succ, Nat.mul_comm (2 ^ d), ← Nat.mul_assoc]
        exact Nat.mul_lt_mul_of_pos_right (by omega) (Nat.pow_pos (by decide))
    have h2 : 4503599627370496 * 2 ^ e ≤ Nn g h := by
      unfold Nn
      rw [if_neg (by omega)]
      exact Nat.mul_le_mul (by omega) (Nat.pow_le_pow_right (by decide) (by omega))
    omega
theorem of07 {e f K : Nat} (hK : K = 1074) (he : e < 2047) (hf : f < 4503599627370496) : ∃ x p, 0 < p ∧ ln x ≤ 40 ∧ ln p ≤ 40 ∧ x * 2 ^ K = Nn e f * p ∧ Ev (numerarylaw07_of.f ((W 0 e f : Nat) : Int)) (L x, L p) := by
  have hb := bits_of (s := 0) (e := e) (f := f) (by decide) (by omega) hf
  have l1 := ln_small (n := 1) (by decide)
  by_cases e0 : e = 0
  · by_cases f0 : f = 0
    · have hV : V 0 e f = (0, false, 0, 0) := by unfold V; rw [if_neg (by omega), if_pos e0, if_pos f0]; rfl
      rw [hV] at hb
      refine ⟨0, 1, by decide, by decide, by omega, by unfold Nn; rw [if_pos e0, f0, Nat.zero_mul], ?_⟩
      have u := up (n := 0) (c := 0) (by decide) (by decide)
      exact ev_eq numerarylaw07_of.f_eq (Ev.bind hb (ev_pos (by decide) (Ev.bind (of_val (n := 0) (by decide)) (Ev.bind u (Ev.bind (of_val (n := 1) (by decide)) (ev_now rfl))))))
    · have hV : V 0 e f = (1, false, (f : Int), -1074) := by unfold V; rw [if_neg (by omega), if_pos e0, if_neg f0]; rfl
      rw [hV] at hb
      have lf := ln_small (n := f) (by omega)
      have lu := ln_pow2 1 K
      have u := up (n := 1) (c := K) (by omega) (by omega)
      rw [Nat.one_mul] at u lu
      refine ⟨f, 2 ^ K, Nat.pow_pos (by decide), by omega, by omega, by unfold Nn; rw [if_pos e0], ?_⟩
      refine ev_eq numerarylaw07_of.f_eq (Ev.bind hb (ev_neg (by simp) (Ev.bind (of_val (n := f) (by omega)) (Ev.bind (of_val (n := 1) (by decide)) ?_))))
      rw [show IntKind.i64.wrap (0 - (1, false, (f : Int), (-1074 : Int)).2.2.2) = (K : Int) by rw [hK]; dsimp only; decide]
      exact Ev.bind u (ev_now rfl)
  · have hV : V 0 e f = (1, false, ((f + 4503599627370496 : Nat) : Int), (e : Int) - 1075) := by unfold V; rw [if_neg (by omega), if_neg e0]; rfl
    rw [hV] at hb
    have lf := ln_small (n := f + 4503599627370496) (by omega)
    by_cases hx : 1075 ≤ e
    · obtain ⟨d, hd⟩ : ∃ d, e = 1075 + d := ⟨e - 1075, by omega⟩
      have lu := ln_pow2 (f + 4503599627370496) d
      have u := up (n := f + 4503599627370496) (c := d) (by omega) (by omega)
      refine ⟨(f + 4503599627370496) * 2 ^ d, 1, by decide, by omega, by omega, ?_, ?_⟩
      · unfold Nn
        rw [if_neg e0, Nat.mul_one, Nat.mul_assoc, ← Nat.pow_add, show d + K = e - 1 by omega]
      · refine ev_eq numerarylaw07_of.f_eq (Ev.bind hb ?_)
        dsimp only
        rw [show (e : Int) - 1075 = (d : Int) by omega]
        exact ev_pos (by omega) (Ev.bind (of_val (by omega)) (Ev.bind u (Ev.bind (of_val (n := 1) (by decide)) (ev_now rfl))))
    · obtain ⟨d, hd⟩ : ∃ d, d + e = 1075 := ⟨1075 - e, by omega⟩
      have lu := ln_pow2 1 d
      have u := up (n := 1) (c := d) (by omega) (by omega)
      rw [Nat.one_mul] at u lu
      refine ⟨f + 4503599627370496, 2 ^ d, Nat.pow_pos (by decide), by omega, by omega, ?_, ?_⟩
      · unfold Nn
        rw [if_neg e0, Nat.mul_assoc, ← Nat.pow_add, show e - 1 + d = K by omega]
      · refine ev_eq numerarylaw07_of.f_eq (Ev.bind hb ?_)
        dsimp only
        rw [show IntKind.i64.wrap (0 - ((e : Int) - 1075)) = (d : Int) by rw [wrap_id (by omega) (by omega)]; omega]
        exact ev_neg (by omega) (Ev.bind (of_val (by omega)) (Ev.bind (of_val (n := 1) (by decide)) (Ev.bind u (ev_now rfl))))
theorem BitsOrder (a0 : Int) (h0 : (Lit.int .u64 a0).wf = true) (a1 : Int) (h1 : (Lit.int .u64 a1).wf = true) : Ev (numerarylaw07_BitsOrder.f a0 a1) true := by
  have inn : ∀ a : Int, (Lit.int .u64 a).wf = true → ∃ e f, e < 2047 ∧ f < 4503599627370496 ∧ (IntKind.u64.wrap ((BitVec.ofInt IntKind.u64.bits a &&& BitVec.ofInt IntKind.u64.bits 9223372036854775807).toNat)).tmod 9218868437227405312 = ((W 0 e f : Nat) : Int) := by
    intro a h
    obtain ⟨ha, hb⟩ := wf_u64 h
    obtain ⟨b, rfl⟩ : ∃ b : Nat, a = (b : Int) := ⟨a.toNat, by omega⟩
    rw [b64_and (a := b) (b := 9223372036854775807) (y := 9223372036854775807) (by omega) (by decide) rfl rfl, and_mask63, Int.tmod_eq_emod_of_nonneg (by omega)]
    obtain ⟨s, e, f, hs, he, hf, hW⟩ := W_split (b := b % 9223372036854775808 % 9218868437227405312) (by omega)
    have hs0 : s = 0 := by unfold W at hW; omega
    subst hs0
    exact ⟨e, f, by unfold W at hW; omega, hf, by rw [← hW]; omega⟩
  obtain ⟨e, f, he, hf, q1⟩ := inn a0 h0
  obtain ⟨g, h, hg, hh, q2⟩ := inn a1 h1
  obtain ⟨K, hK⟩ : ∃ K, K = 1074 := ⟨_, rfl⟩
  obtain ⟨x, p, hp, lx, lp, hx, hox⟩ := of07 hK he hf
  obtain ⟨y, q, hq, ly, lq, hy, hoy⟩ := of07 hK hg hh
  have hk : 0 < 2 ^ K := Nat.pow_pos (by decide)
  have e1 : x * q * 2 ^ K = Nn e f * (p * q) := by rw [Nat.mul_right_comm, hx, Nat.mul_assoc]
  have e2 : y * p * 2 ^ K = Nn g h * (p * q) := by rw [Nat.mul_right_comm, hy, Nat.mul_assoc, Nat.mul_comm q]
  have hpq : 0 < p * q := Nat.mul_pos hp hq
  have lt_of : ∀ {u v : Nat}, u < v → u * (p * q) < v * (p * q) := fun h => Nat.mul_lt_mul_of_pos_right h hpq
  have tri : (W 0 e f < W 0 g h ∧ x * q < y * p) ∨ (W 0 e f = W 0 g h ∧ x * q = y * p) ∨ (W 0 g h < W 0 e f ∧ y * p < x * q) := by
    rcases Nat.lt_trichotomy (W 0 e f) (W 0 g h) with c | c | c
    · left
      refine ⟨c, ?_⟩
      have := lt_of (Nn_lt hf hh c)
      rw [← e1, ← e2] at this
      exact Nat.lt_of_mul_lt_mul_right this
    · right; left
      refine ⟨c, ?_⟩
      have c2 : e = g ∧ f = h := by unfold W at c; omega
      rw [c2.1, c2.2, ← e2] at e1
      exact Nat.eq_of_mul_eq_mul_right hk e1
    · right; right
      refine ⟨c, ?_⟩
      have := lt_of (Nn_lt hh hf c)
      rw [← e1, ← e2] at this
      exact Nat.lt_of_mul_lt_mul_right this
  clear e1 e2 hx hy lt_of hpq hk
  have m1 := ln_mul x q
  have m2 := ln_mul y p
  refine ev_eq numerarylaw07_BitsOrder.f_eq ?_
  rw [q1, q2]
  refine Ev.bind hox (Ev.bind hoy (Ev.bind (nmul (by omega) (by omega)) (Ev.bind (nmul (by omega) (by omega)) (Ev.bind (ncmp (by omega) (by omega)) (Ev.bind wakes07 (ev_pos rfl ?_))))))
  generalize x * q = X at *
  generalize y * p = Y at *
  generalize W 0 e f = A at *
  generalize W 0 g h = B at *
  refine ev_pos ?_ (ev_now ?_)
  · refine decide_eq_decide.mpr ?_
    rw [cmpI_lt]
    omega
  · refine decide_eq_true (decide_eq_decide.mpr ?_)
    rw [cmpI_eq0]
    omega
end Go.Proofs.Ytjkhkmcmnnhmcaa.Pure
