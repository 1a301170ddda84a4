/- Of each number between two neighbours the bits that are told are those of the nearer one, of two as near those of the even one; of a value of bits these. -/
import Derived.Test.YtjkhkmcmnnhmcaaQBitsNearestK3
import Derived.Test.YtjkhkmcmnnhmcaaQBitsNearestPBitsOrder
namespace Go.Proofs.Ytjkhkmcmnnhmcaa.Pure
open Go Go.Proofs.Ytjkhkmcmnnhmcaa.E Go.Proofs.Ytjkhkmcmnnhmcaa.F
set_option linter.unusedVariables false
set_option linter.unusedSimpArgs false
theorem near_at {X Y K E M w p : Nat} (hK : K = 1074) (hY : 0 < Y) (lX : ln X ≤ 1000) (lY : ln Y ≤ 1000) (hp : p < w) (hM : M < 9007199254740992) (hE : E = 0 ∨ 4503599627370496 ≤ M) (e : X * 2 ^ K * w = (M * w + p) * (Y * 2 ^ E)) (ht : E * 4503599627370496 + M < 9218868437227405312) (ht2 : 0 < p → E * 4503599627370496 + M + 1 < 9218868437227405312) :
    Ev (bits_Nearest.f (L X) (L Y)) (((if w < 2 * p ∨ (2 * p = w ∧ M % 2 = 1) then E * 4503599627370496 + M + 1 else E * 4503599627370496 + M : Nat) : Int), true) := by
  have hV : 0 < Y * 2 ^ E := Nat.mul_pos hY (Nat.pow_pos (by decide))
  have hr := rnd_at hV (by omega) e rfl (Nat.le_of_lt hp)
  have hres : (if w < 2 * p ∨ (2 * p = w ∧ M % 2 = 1) then E * 4503599627370496 + M + 1 else E * 4503599627370496 + M) = E * 4503599627370496 + rnd (X * 2 ^ K) (Y * 2 ^ E) := by
    rw [hr]; split <;> omega
  rw [hres]
  by_cases hX : X = 0
  · subst hX
    rw [Nat.zero_mul, Nat.zero_mul] at e
    have h0 : M * w + p = 0 := by
      rcases Nat.mul_eq_zero.mp e.symm with h | h
      · exact h
      · omega
    have h1 : M * w = 0 := by omega
    have h2 : M = 0 := by
      rcases Nat.mul_eq_zero.mp h1 with h | h
      · exact h
      · omega
    have hp0 : p = 0 := by omega
    have : E = 0 := by omega
    subst this; subst h2; subst hp0
    rw [hr, if_neg (by omega)]
    exact nearest0 hY lY
  · refine nearest hK (by omega) hY lX lY ?_ ?_ ?_
    · refine Nat.lt_of_mul_lt_mul_right (a := w) ?_
      rw [e, Nat.mul_right_comm]
      refine Nat.mul_lt_mul_of_pos_right ?_ hV
      have : (M + 1) * w ≤ 9007199254740992 * w := Nat.mul_le_mul_right _ hM
      rw [Nat.add_mul, Nat.one_mul] at this
      omega
    · refine hE.imp id (fun h => ?_)
      refine Nat.le_of_mul_le_mul_right (c := w) ?_ (by omega)
      rw [e, Nat.mul_right_comm]
      refine Nat.mul_le_mul_right _ ?_
      have : 4503599627370496 * w ≤ M * w := Nat.mul_le_mul_right _ h
      omega
    · rw [hr]; clear e hV hres hr hK; split <;> omega
/-- Bits as an exponent and a mantissa. -/
theorem split_b {b : Nat} (hb : b < 9218868437227405312) : ∃ E M e f, e < 2047 ∧ f < 4503599627370496 ∧ b = W 0 e f ∧ b = E * 4503599627370496 + M ∧ M < 9007199254740992 ∧ (E = 0 ∨ 4503599627370496 ≤ M) ∧ Nn e f = M * 2 ^ E := by
  obtain ⟨s, e, f, hs, he, hf, hW⟩ := W_split (b := b) (by omega)
  have hs0 : s = 0 := by unfold W at hW; omega
  subst hs0
  by_cases e0 : e = 0
  · subst e0
    have q1 : b = 0 * 4503599627370496 + f := by unfold W at hW; omega
    have q2 : Nn 0 f = f * 2 ^ 0 := by unfold Nn; rw [if_pos rfl, Nat.pow_zero, Nat.mul_one]
    exact ⟨0, f, 0, f, by decide, hf, hW, q1, by omega, .inl rfl, q2⟩
  · obtain ⟨d, rfl⟩ : ∃ d, e = d + 1 := ⟨e - 1, by omega⟩
    have q0 : d + 1 < 2047 := by unfold W at hW; omega
    have q1 : b = d * 4503599627370496 + (f + 4503599627370496) := by
      rw [hW]; unfold W
      rw [Nat.zero_mul, Nat.zero_add, Nat.add_mul, Nat.one_mul, Nat.add_assoc, Nat.add_comm f]
    have q3 : f + 4503599627370496 < 9007199254740992 := Nat.add_lt_add_right hf 4503599627370496
    exact ⟨d, f + 4503599627370496, d + 1, f, q0, hf, hW, q1, q3, .inr (Nat.le_add_left _ _), if_neg e0⟩
theorem body {z : Int} {q w b : Nat} (hz : z = (b : Int)) (hb : b < 9218868437227405311) (hq : q < 4294967296) (hw : w < 4294967296) :
    Ev (M.bind (numerarylaw07_of.f z) fun t17 => (M.bind (numerarylaw07_of.f (IntKind.u64.wrap (z + 1))) fun t18 => (M.bind (bits_Nearest.f t17.1 t17.2) fun t19 => (M.bind (numerarylaw07_wakes.f ()) fun t20 => (if (!t20) = true then (M.bind (numerarylaw07_wakes.f ()) fun t21 => (if t21 = true then (if t19.2 = true then (M.ret (decide (t19.1 = z))) else (M.ret false)) else (M.ret false))) else (if (!t19.2) = true then (M.bind (numerarylaw07_wakes.f ()) fun t22 => (if t22 = true then (if t19.2 = true then (M.ret (decide (t19.1 = z))) else (M.ret false)) else (M.ret false))) else (if t19.1 ≠ z then (M.bind (numerarylaw07_wakes.f ()) fun t23 => (if t23 = true then (if t19.2 = true then (M.ret (decide (t19.1 = z))) else (M.ret false)) else (M.ret false))) else (if (w : Int) = 0 then (M.bind (numerarylaw07_wakes.f ()) fun t24 => (if t24 = true then (if t19.2 = true then (M.ret (decide (t19.1 = z))) else (M.ret false)) else (M.ret false))) else (M.bind (nat_Of.f (IntKind.u64.wrap ((IntKind.u64.wrap ((w : Int))) - (IntKind.u64.wrap ((mnI (q : Int) (w : Int))))))) fun t25 => (M.bind (times_All.f ([t17.1, t18.2, t25] : List (List Int))) fun t26 => (M.bind (nat_Of.f (IntKind.u64.wrap ((mnI (q : Int) (w : Int))))) fun t27 => (M.bind (times_All.f ([t18.1, t17.2, t27] : List (List Int))) fun t28 => (M.bind (nat_Add.f t26 t28) fun t29 => (M.bind (nat_Of.f (IntKind.u64.wrap ((w : Int)))) fun t30 => (M.bind (times_All.f ([t17.2, t18.2, t30] : List (List Int))) fun t31 => (M.bind (bits_Nearest.f t29 t31) fun t32 => (if (IntKind.u64.wrap (2 * (IntKind.u64.wrap ((mnI (q : Int) (w : Int)))))) > (IntKind.u64.wrap ((w : Int))) then (if t32.2 = true then (M.ret (decide (t32.1 = (IntKind.u64.wrap (z + 1))))) else (M.ret false)) else (if (IntKind.u64.wrap (2 * (IntKind.u64.wrap ((mnI (q : Int) (w : Int)))))) = (IntKind.u64.wrap ((w : Int))) then (if (IntKind.u64.wrap ((BitVec.ofInt IntKind.u64.bits z &&& BitVec.ofInt IntKind.u64.bits 1).toNat)) = 1 then (if t32.2 = true then (M.ret (decide (t32.1 = (IntKind.u64.wrap (z + 1))))) else (M.ret false)) else (if t32.2 = true then (M.ret (decide (t32.1 = z))) else (M.ret false))) else (if t32.2 = true then (M.ret (decide (t32.1 = z))) else (M.ret false)))))))))))))))))))) true := by
  subst hz
  obtain ⟨E, M, e, f, he, hf, hbW, hbE, hM, hE, hN⟩ := split_b (b := b) (by omega)
  obtain ⟨E', M', e', f', he', hf', hbW', hbE', hM', hE', hN'⟩ := split_b (b := b + 1) (by omega)
  obtain ⟨K, hK⟩ : ∃ K, K = 1074 := ⟨_, rfl⟩
  obtain ⟨x, y, hy, lx, ly, hx, hox⟩ := of07 hK he hf
  obtain ⟨x', y', hy', lx', ly', hx', hox'⟩ := of07 hK he' hf'
  rw [hN] at hx
  rw [hN', ] at hx'
  rw [← hbW] at hox
  rw [← hbW'] at hox'
  have hMM : M' * 2 ^ E' = (M + 1) * 2 ^ E := by
    by_cases c : E' = E
    · rw [c, show M' = M + 1 by omega]
    · have c2 : E' = E + 1 := by omega
      rw [c2, Nat.pow_succ, Nat.mul_comm (2 ^ E) 2, ← Nat.mul_assoc, show M' * 2 = M + 1 by omega]
  have hb1 : IntKind.u64.wrap ((b : Int) + 1) = ((b + 1 : Nat) : Int) := by rw [u64_id (by omega) (by omega)]; omega
  have n1 := near_at (X := x) (Y := y) (p := 0) (w := 1) hK hy (by omega) (by omega) (by decide) hM hE (by rw [Nat.mul_one, Nat.mul_one, Nat.add_zero, hx]; grind) (by omega) (by omega)
  rw [if_neg (by omega), ← hbE] at n1
  have hand : IntKind.u64.wrap ((BitVec.ofInt IntKind.u64.bits (b : Int) &&& BitVec.ofInt IntKind.u64.bits 1).toNat) = ((b % 2 : Nat) : Int) := by
    rw [b64_and (a := b) (b := 1) (y := 1) (by omega) (by decide) rfl rfl, Nat.and_one_is_mod]
  rw [hb1, hand]
  refine Ev.bind hox (Ev.bind hox' (Ev.bind n1 (Ev.bind wakes07 (ev_neg (by simp) (ev_neg (by simp) (ev_neg (by simp) ?_))))))
  by_cases hw0 : w = 0
  · exact ev_pos (by omega) (Ev.bind wakes07 (ev_pos rfl (ev_pos rfl (ev_now (by simp)))))
  · refine ev_neg (by omega) ?_
    obtain ⟨p, hp, hpm⟩ : ∃ p : Nat, p ≤ w ∧ mnI (q : Int) (w : Int) = (p : Int) := by
      unfold mnI
      by_cases c : (w : Int) < (q : Int)
      · exact ⟨w, by omega, if_pos c⟩
      · exact ⟨q, by omega, if_neg c⟩
    rw [hpm, wrap_u64_nat (n := w) (by omega), wrap_u64_nat (n := p) (by omega), show (w : Int) - (p : Int) = ((w - p : Nat) : Int) by omega, wrap_u64_nat (n := w - p) (by omega), show 2 * (p : Int) = ((2 * p : Nat) : Int) by omega, wrap_u64_nat (n := 2 * p) (by omega)]
    have k1 := ln_small (n := w - p) (by omega)
    have k2 := ln_small (n := p) (by omega)
    have k3 := ln_small (n := w) (by omega)
    have a1 := nall_f [x, y', w - p] (by simp only [List.map_cons, List.map_nil, List.sum_cons, List.sum_nil]; omega) (by simp)
    have a2 := nall_f [x', y, p] (by simp only [List.map_cons, List.map_nil, List.sum_cons, List.sum_nil]; omega) (by simp)
    have a3 := nall_f [y, y', w] (by simp only [List.map_cons, List.map_nil, List.sum_cons, List.sum_nil]; omega) (by simp)
    simp only [List.map_cons, List.map_nil, List.foldl_cons, List.foldl_nil, Nat.one_mul] at a1 a2 a3
    have m1 := ln_mul (x * y') (w - p)
    have m2 := ln_mul x y'
    have m3 := ln_mul (x' * y) p
    have m4 := ln_mul x' y
    have m5 := ln_mul (y * y') w
    have m6 := ln_mul y y'
    have m7 := ln_add (x * y' * (w - p)) (x' * y * p)
    have hY : 0 < y * y' * w := Nat.mul_pos (Nat.mul_pos hy hy') (by omega)
    -- the number, times w
    have eq : (x * y' * (w - p) + x' * y * p) * 2 ^ K * w = (M * w + p) * (y * y' * w * 2 ^ E) := by
      have e1 : x * y' * (w - p) * 2 ^ K = M * (w - p) * (y * y' * 2 ^ E) := by
        calc x * y' * (w - p) * 2 ^ K = x * 2 ^ K * (y' * (w - p)) := by grind
          _ = M * (w - p) * (y * y' * 2 ^ E) := by rw [hx]; grind
      have e2 : x' * y * p * 2 ^ K = (M + 1) * p * (y * y' * 2 ^ E) := by
        calc x' * y * p * 2 ^ K = x' * 2 ^ K * (y * p) := by grind
          _ = (M + 1) * p * (y * y' * 2 ^ E) := by rw [hx', hMM]; grind
      have e3 : M * (w - p) + (M + 1) * p = M * w + p := by
        obtain ⟨d, hd⟩ : ∃ d, w = p + d := ⟨w - p, by omega⟩
        rw [hd, Nat.add_sub_cancel_left]; grind
      rw [Nat.add_mul, e1, e2, ← Nat.add_mul, e3]; grind
    refine Ev.bind (of_val (by omega)) (Ev.bind a1 (Ev.bind (of_val (by omega)) (Ev.bind a2 (Ev.bind (nadd (by omega) (by omega)) (Ev.bind (of_val (by omega)) (Ev.bind a3 ?_))))))
    have near : Ev (bits_Nearest.f (L (x * y' * (w - p) + x' * y * p)) (L (y * y' * w))) (((if w < 2 * p ∨ (2 * p = w ∧ M % 2 = 1) then b + 1 else b : Nat) : Int), true) := by
      by_cases c : p < w
      · have := near_at hK hY (by omega) (by omega) c hM hE eq (by omega) (by omega)
        rw [← hbE] at this
        exact this
      · have c2 : p = w := by omega
        have := near_at (X := x * y' * (w - p) + x' * y * p) (Y := y * y' * w) (w := w) (p := 0) (M := M') (E := E') hK hY (by omega) (by omega) (by omega) hM' hE' (by
          rw [eq, c2]
          calc (M * w + w) * (y * y' * w * 2 ^ E) = (M + 1) * 2 ^ E * (w * (y * y' * w)) := by grind
            _ = (M' * w + 0) * (y * y' * w * 2 ^ E') := by rw [← hMM]; grind) (by omega) (by omega)
        rw [if_neg (by omega), ← hbE'] at this
        rw [if_pos (by omega)]
        exact this
    have hpar : M % 2 = b % 2 := by omega
    rw [hpar] at near
    obtain ⟨R, hR1, hR2, hR⟩ : ∃ R : Nat, (w < 2 * p ∨ (2 * p = w ∧ b % 2 = 1) → R = b + 1) ∧ (¬(w < 2 * p ∨ (2 * p = w ∧ b % 2 = 1)) → R = b) ∧ Ev (bits_Nearest.f (L (x * y' * (w - p) + x' * y * p)) (L (y * y' * w))) ((R : Int), true) := ⟨_, fun h => if_pos h, fun h => if_neg h, near⟩
    refine Ev.bind hR ?_
    clear hR near eq a1 a2 a3 m1 m2 m3 m4 m5 m6 m7 hY hx hx' hox hox' hMM hN hN' hK
    by_cases c1 : w < 2 * p
    · rw [hR1 (.inl c1)]
      exact ev_pos (by omega) (ev_pos rfl (ev_now (by simp)))
    · refine ev_neg (by omega) ?_
      by_cases c2 : 2 * p = w
      · refine ev_pos (by omega) ?_
        by_cases c3 : b % 2 = 1
        · rw [hR1 (.inr ⟨c2, c3⟩)]
          exact ev_pos (by omega) (ev_pos rfl (ev_now (by simp)))
        · rw [hR2 (fun h => h.elim c1 (fun h => c3 h.2))]
          exact ev_neg (by omega) (ev_pos rfl (ev_now (by simp)))
      · rw [hR2 (fun h => h.elim c1 (fun h => c2 h.1))]
        exact ev_neg (by omega) (ev_pos rfl (ev_now (by simp)))
theorem BitsNearest (a0 : Int) (h0 : (Lit.int .u64 a0).wf = true) (a1 : Int) (h1 : (Lit.int .u32 a1).wf = true) (a2 : Int) (h2 : (Lit.int .u32 a2).wf = true) : Ev (numerarylaw07_BitsNearest.f a0 a1 a2) true := by
  obtain ⟨ha, hb⟩ := wf_u64 h0
  obtain ⟨hc, hd⟩ := wf_u32 h1
  obtain ⟨he, hf⟩ := wf_u32 h2
  obtain ⟨a, rfl⟩ : ∃ b : Nat, a0 = (b : Int) := ⟨a0.toNat, by omega⟩
  obtain ⟨q, rfl⟩ : ∃ b : Nat, a1 = (b : Int) := ⟨a1.toNat, by omega⟩
  obtain ⟨w, rfl⟩ : ∃ b : Nat, a2 = (b : Int) := ⟨a2.toNat, by omega⟩
  have hz : IntKind.u64.wrap ((BitVec.ofInt IntKind.u64.bits (a : Int) &&& BitVec.ofInt IntKind.u64.bits 9223372036854775807).toNat) = ((a % 9223372036854775808 : Nat) : Int) := by
    rw [b64_and (a := a) (b := 9223372036854775807) (y := 9223372036854775807) (by omega) (by decide) rfl rfl, and_mask63]
  refine ev_eq numerarylaw07_BitsNearest.f_eq ?_
  rw [hz]
  by_cases c : a % 9223372036854775808 ≥ 9218868437227405311
  · refine ev_pos (by omega) ?_
    exact body (b := a % 9223372036854775808 % 9218868437227405311) (by rw [Int.tmod_eq_emod_of_nonneg (by omega)]; omega) (by omega) (by omega) (by omega)
  · refine ev_neg (by omega) ?_
    exact body (b := a % 9223372036854775808) rfl (by omega) (by omega) (by omega)
end Go.Proofs.Ytjkhkmcmnnhmcaa.Pure
