/- The bits nearest to a number, and their neighbours. -/
import Derived.Test.YteidggfjcanbjaaDoorQClockTimesZP1
namespace Go.Proofs.YteidggfjcanbjaaDoor.F
open Go Go.Proofs.YteidggfjcanbjaaDoor.E
set_option linter.unusedVariables false
set_option linter.unusedSimpArgs false
/-- The value of bits that aren't negative, times two to 1074. -/
def Nb (b : Nat) : Nat := if b < 4503599627370496 then b else (b % 4503599627370496 + 4503599627370496) * 2 ^ (b / 4503599627370496 - 1)
theorem Nb_at {b E M : Nat} (hb : b = E * 4503599627370496 + M) (hM : M ≤ 9007199254740992) (hE : E = 0 ∨ 4503599627370496 ≤ M) : Nb b = M * 2 ^ E := by
  unfold Nb
  by_cases c : b < 4503599627370496
  · have h0 : E = 0 := by omega
    subst h0
    rw [if_pos c, Nat.pow_zero, Nat.mul_one]; omega
  · rw [if_neg c]
    by_cases c2 : M = 9007199254740992
    · have e1 : b / 4503599627370496 = E + 2 := by omega
      have e2 : b % 4503599627370496 = 0 := by omega
      rw [e1, e2, c2, Nat.zero_add, show E + 2 - 1 = E + 1 by omega, Nat.pow_succ, Nat.mul_comm (2 ^ E) 2, ← Nat.mul_assoc]
    · have e1 : b / 4503599627370496 = E + 1 := by omega
      have e2 : b % 4503599627370496 + 4503599627370496 = M := by omega
      rw [e1, e2, Nat.add_sub_cancel]
theorem rnd_near {u v : Nat} (hv : 0 < v) : 2 * u ≤ (2 * rnd u v + 1) * v ∧ 2 * rnd u v * v ≤ 2 * u + v ∧ (2 * u = (2 * rnd u v + 1) * v → rnd u v % 2 = 0) ∧ (2 * rnd u v * v = 2 * u + v → rnd u v % 2 = 0) := by
  have h1 := Nat.div_add_mod u v
  have h2 := Nat.mod_lt u hv
  have p := @rnd_pos u v
  have n := @rnd_neg u v
  generalize rnd u v = R at *
  generalize u / v = q at *
  generalize u % v = r at *
  have e1 : (2 * (q + 1) + 1) * v = 2 * (v * q) + 3 * v := by grind
  have e2 : 2 * (q + 1) * v = 2 * (v * q) + 2 * v := by grind
  have e3 : (2 * q + 1) * v = 2 * (v * q) + v := by grind
  have e4 : 2 * q * v = 2 * (v * q) := by grind
  by_cases c : v < 2 * r ∨ (2 * r = v ∧ q % 2 = 1)
  · rw [p c]
    clear p n
    rw [e1, e2]
    generalize v * q = z at *
    omega
  · rw [n c]
    clear p n
    rw [e3, e4]
    generalize v * q = z at *
    omega
theorem mids {u Y E b : Nat} (hY : 0 < Y) (h1 : u < 9007199254740992 * (Y * 2 ^ E)) (h2 : E = 0 ∨ 4503599627370496 * (Y * 2 ^ E) ≤ u) (hb : b = E * 4503599627370496 + rnd u (Y * 2 ^ E)) :
    2 * u ≤ Y * (Nb b + Nb (b + 1)) ∧ (2 * u = Y * (Nb b + Nb (b + 1)) → b % 2 = 0) ∧ (0 < b → Y * (Nb (b - 1) + Nb b) ≤ 2 * u ∧ (2 * u = Y * (Nb (b - 1) + Nb b) → b % 2 = 0)) := by
  have hv : 0 < Y * 2 ^ E := Nat.mul_pos hY (Nat.pow_pos (by decide))
  have hq : u / (Y * 2 ^ E) < 9007199254740992 := Nat.div_lt_of_lt_mul (by rw [Nat.mul_comm (Y * 2 ^ E)]; exact h1)
  have hR := rnd_le u (Y * 2 ^ E)
  have hR2 := rnd_ge u (Y * 2 ^ E)
  have hge : E = 0 ∨ 4503599627370496 ≤ u / (Y * 2 ^ E) := h2.imp id (fun h => (Nat.le_div_iff_mul_le hv).mpr h)
  obtain ⟨n1, n2, n3, n4⟩ := rnd_near (u := u) hv
  generalize rnd u (Y * 2 ^ E) = R at *
  have hRle : R ≤ 9007199254740992 := by omega
  have hER : E = 0 ∨ 4503599627370496 ≤ R := hge.imp id (fun h => by omega)
  clear hR hR2 hge hq
  have b0 := Nb_at hb hRle hER
  have par : b % 2 = R % 2 := by omega
  have up : (R + 1) * 2 ^ E ≤ Nb (b + 1) := by
    by_cases c : R + 1 ≤ 9007199254740992
    · rw [Nb_at (b := b + 1) (E := E) (M := R + 1) (by omega) c (by omega)]
      exact Nat.le_refl _
    · have c2 : R = 9007199254740992 := by omega
      rw [Nb_at (b := b + 1) (E := E + 1) (M := 4503599627370497) (by omega) (by decide) (.inr (by decide)), Nat.pow_succ, Nat.mul_comm (2 ^ E) 2, ← Nat.mul_assoc]
      exact Nat.mul_le_mul_right _ (by omega)
  have up2 : (2 * R + 1) * (Y * 2 ^ E) ≤ Y * (Nb b + Nb (b + 1)) := by
    rw [b0]
    calc (2 * R + 1) * (Y * 2 ^ E) = Y * (R * 2 ^ E + (R + 1) * 2 ^ E) := by grind
      _ ≤ _ := Nat.mul_le_mul_left _ (Nat.add_le_add_left up _)
  refine ⟨Nat.le_trans n1 up2, fun h => ?_, fun hb0 => ?_⟩
  · rw [par]; exact n3 (Nat.le_antisymm n1 (h ▸ up2))
  · by_cases c : E = 0 ∨ 4503599627370496 ≤ R - 1
    · have hR0 : 1 ≤ R := by omega
      have b1 := Nb_at (b := b - 1) (E := E) (M := R - 1) (by omega) (by omega) c
      have e : Y * (Nb (b - 1) + Nb b) + Y * 2 ^ E = 2 * R * (Y * 2 ^ E) := by
        rw [b0, b1]
        obtain ⟨Q, rfl⟩ : ∃ Q, R = Q + 1 := ⟨R - 1, by omega⟩
        rw [Nat.add_sub_cancel]; grind
      refine ⟨by omega, fun h => ?_⟩
      rw [par]; exact n4 (by omega)
    · obtain ⟨F, rfl⟩ : ∃ F, E = F + 1 := ⟨E - 1, by omega⟩
      have hR0 : R = 4503599627370496 := by omega
      have hu : 4503599627370496 * (Y * 2 ^ (F + 1)) ≤ u := by omega
      have b1 := Nb_at (b := b - 1) (E := F) (M := 9007199254740991) (by omega) (by decide) (.inr (by decide))
      have hF : 0 < Y * 2 ^ F := Nat.mul_pos hY (Nat.pow_pos (by decide))
      have e : Y * (Nb (b - 1) + Nb b) + Y * 2 ^ F = 2 * (4503599627370496 * (Y * 2 ^ (F + 1))) := by
        rw [b0, b1, hR0, Nat.pow_succ]; grind
      refine ⟨by omega, fun h => by omega⟩
/-- What the document says of bits that are neither negative nor infinite nor Nothing. -/
theorem ref_value {c K : Nat} (hK : K = 1074) (hc : c < 9218868437227405312) : ∃ (cl m x : Int) (p pk : Nat), cl ≤ 1 ∧ Ev (numeraryref07_Of.f (c : Int)) (cl, false, m, x) ∧ Ev (numeraryref07_Decimals.f m x) (D p, (pk : Int)) ∧ pk ≤ K ∧ dn p ≤ 4000 ∧ p * 2 ^ K = Nb c * 10 ^ pk := by
  obtain ⟨s, e, f, hs, he, hf, hW⟩ := W_split (b := c) (by omega)
  have hs0 : s = 0 := by unfold W at hW; omega
  subst hs0
  have he2 : e < 2047 := by unfold W at hW; omega
  have ho := ref_of (s := 0) (e := e) (f := f) (by decide) he hf
  rw [← hW] at ho
  have ten : ∀ j : Nat, (10 : Nat) ^ j = 5 ^ j * 2 ^ j := fun j => by rw [← Nat.mul_pow]
  by_cases e0 : e = 0
  · have hN : Nb c = f := by
      have hcf : c = f := by rw [hW, e0]; unfold W; omega
      unfold Nb; rw [if_pos (by omega), hcf]
    by_cases f0 : f = 0
    · have hV : V 0 e f = (0, false, 0, 0) := by unfold V; rw [if_neg (by omega), if_pos e0, if_pos f0]; rfl
      rw [hV] at ho
      have hd := rdec_up (m := 0) (c := 0) (by decide) (by decide)
      rw [Nat.zero_mul] at hd
      refine ⟨0, 0, 0, 0, 0, by decide, ho, hd, Nat.zero_le _, Nat.le_trans (dn_small (n := 0) (by decide)) (by decide), ?_⟩
      rw [hN, f0, Nat.zero_mul, Nat.zero_mul]
    · have hV : V 0 e f = (1, false, (f : Int), -1074) := by unfold V; rw [if_neg (by omega), if_pos e0, if_neg f0]; rfl
      rw [hV] at ho
      have hd := rdec_down (m := f) (c := K) (by omega) (by omega)
      rw [show (-(K : Int)) = -1074 by omega] at hd
      have l1 := dn_small (n := f) (by omega)
      have l2 := dn_five f K
      refine ⟨1, f, -1074, f * 5 ^ K, K, by decide, ho, hd, Nat.le_refl _, by omega, ?_⟩
      rw [hN, ten, Nat.mul_assoc]
  · have hN : Nb c = (f + 4503599627370496) * 2 ^ (e - 1) := by
      obtain ⟨d, rfl⟩ : ∃ d, e = d + 1 := ⟨e - 1, by omega⟩
      refine Nb_at (E := d) (M := f + 4503599627370496) ?_ (by clear hW ho he he2 e0; omega) (.inr (Nat.le_add_left _ _))
      rw [hW]; unfold W
      rw [Nat.zero_mul, Nat.zero_add, Nat.add_mul, Nat.one_mul, Nat.add_assoc, Nat.add_comm f]
    have hV : V 0 e f = (1, false, ((f + 4503599627370496 : Nat) : Int), (e : Int) - 1075) := by unfold V; rw [if_neg (by omega), if_neg e0]; rfl
    rw [hV] at ho
    have hm : f + 4503599627370496 < 18446744073709551616 := by clear hN hW ho hV; omega
    generalize f + 4503599627370496 = M at *
    have l1 := dn_small hm
    by_cases hx : 1075 ≤ e
    · obtain ⟨d, hd⟩ : ∃ d, e = 1075 + d := ⟨e - 1075, by omega⟩
      have h := rdec_up (m := M) (c := d) hm (by omega)
      have l2 := dn_two M d
      refine ⟨1, M, (e : Int) - 1075, M * 2 ^ d, 0, by decide, ho, ?_, Nat.zero_le _, by omega, ?_⟩
      · rw [show (e : Int) - 1075 = (d : Int) by omega]; exact h
      · rw [hN, Nat.pow_zero, Nat.mul_one, Nat.mul_assoc, ← Nat.pow_add, show d + K = e - 1 by omega]
    · obtain ⟨d, hd⟩ : ∃ d, d + e = 1075 := ⟨1075 - e, by omega⟩
      have h := rdec_down (m := M) (c := d) hm (by omega)
      have l2 := dn_five M d
      refine ⟨1, M, (e : Int) - 1075, M * 5 ^ d, d, by decide, ho, ?_, by omega, by omega, ?_⟩
      · rw [show (e : Int) - 1075 = -(d : Int) by omega]; exact h
      · rw [hN, ten, show K = e - 1 + d by omega, Nat.pow_add]; grind
theorem cmp_both {A B a b s t : Nat} (hs : 0 < s) (ht : 0 < t) (hA : A * s = a * t) (hB : B * s = b * t) : cmpI A B = cmpI a b := by
  have h1 : A < B ↔ a < b := by rw [← Nat.mul_lt_mul_right (b := A) hs, hA, hB, Nat.mul_lt_mul_right ht]
  have h2 : B < A ↔ b < a := by rw [← Nat.mul_lt_mul_right (b := B) hs, hA, hB, Nat.mul_lt_mul_right ht]
  unfold cmpI
  by_cases c : A < B
  · rw [if_pos c, if_pos (h1.mp c)]
  · rw [if_neg c, if_neg (fun h => c (h1.mpr h))]
    by_cases c2 : B < A
    · rw [if_pos c2, if_pos (h2.mp c2)]
    · rw [if_neg c2, if_neg (fun h => c2 (h2.mpr h))]
theorem mxI_nat (a b : Nat) : mxI (a : Int) (b : Int) = ((max a b : Nat) : Int) := by unfold mxI; split <;> omega
end Go.Proofs.YteidggfjcanbjaaDoor.F

/- The value of 64 bits, as a quotient and as the document's decimals; decimals that are cut off. -/
namespace Go.Proofs.YteidggfjcanbjaaDoor.F
open Go Go.Proofs.YteidggfjcanbjaaDoor.E
set_option linter.unusedVariables false
set_option linter.unusedSimpArgs false
theorem mnI_min (a b : Nat) : mnI (a : Int) (b : Int) = ((min a b : Nat) : Int) := by unfold mnI; split <;> omega
theorem value_tail {cl : Int} {sg : Bool} {mu : Nat} {x b : Int} {R : (List Int × List Int) × Bool} (hb : Ev (bits_Value_Bits.f (cl, sg, (mu : Int), x)) (b, true)) (hcl : cl = 0 ∨ cl = 1) (hM : mu < 18446744073709551616)
    (h : Ev (if x ≥ 0 then (M.bind (tens_Up.f (L mu) x) fun t3 => (M.bind (nat_Of.f 1) fun t4 => (M.ret ((t3, t4), true)))) else (M.bind (tens_Noughts.f (L mu)) fun t5 => (M.bind (tens_Down.f (L mu) (mnI t5 (IntKind.i64.wrap (0 - x)))) fun t6 => (M.bind (nat_Nat_Bits.f (L mu)) fun t7 => (if t7 = 0 then (M.ret ((([] : List Int), ([] : List Int)), true)) else (M.bind (nat_Of.f 1) fun t8 => (M.bind (tens_Up.f t8 (IntKind.i64.wrap ((IntKind.i64.wrap (0 - x)) - (mnI t5 (IntKind.i64.wrap (0 - x)))))) fun t9 => (M.ret ((t6.1, t9), true))))))))) R) :
    Ev (ratio_Value.f (cl, sg, (mu : Int), x)) R := by
  refine ev_eq ratio_Value.f_eq ?_
  rcases hcl with rfl | rfl
  · exact ev_neg (by simp) (Ev.bind hb (ev_neg (by simp) (Ev.bind (of_val hM) h)))
  · exact ev_pos (by simp) (ev_neg (by simp) (Ev.bind hb (ev_neg (by simp) (Ev.bind (of_val hM) h))))
theorem gcd_odd_pow {m c : Nat} (h : m % 2 = 1) : Nat.gcd m (2 ^ c) = 1 := by
  have h2 : Nat.Coprime m 2 := by
    rw [Nat.coprime_comm]
    unfold Nat.Coprime
    rw [← Nat.mod_add_div m 2, h, Nat.gcd_add_mul_left_right]
    rfl
  exact Nat.Coprime.pow_right c h2
theorem two_pow_ln {c : Nat} (hc : c ≤ 2000) : ln (2 ^ c) ≤ 70 := by
  have h1 := ln_pow2 1 c
  have h2 := ln_small (n := 1) (by decide)
  rw [Nat.one_mul] at h1
  omega
theorem value_up {cl : Int} {sg : Bool} {mu c : Nat} {x b : Int} (hb : Ev (bits_Value_Bits.f (cl, sg, (mu : Int), x)) (b, true)) (hcl : cl = 0 ∨ cl = 1) (hM : mu < 18446744073709551616) (hx : x = (c : Int)) (hc : c ≤ 2000) :
    ∃ r, RQ r (mu * 2 ^ c) 1 100 ∧ Ev (ratio_Value.f (cl, sg, (mu : Int), x)) (r, true) := by
  have l1 := ln_small hM
  have l2 := ln_pow2 mu c
  have l3 : ln 1 = 1 := by decide
  subst hx
  exact ⟨_, ⟨mu * 2 ^ c, 1, rfl, by decide, Nat.gcd_one_right _, rfl, by omega, by omega⟩, value_tail hb hcl hM (ev_pos (by omega) (Ev.bind (up (by omega) (by omega)) (Ev.bind (of_val (n := 1) (by decide)) (ev_now rfl))))⟩
theorem value_down {cl : Int} {sg : Bool} {mu c : Nat} {x b : Int} (hb : Ev (bits_Value_Bits.f (cl, sg, (mu : Int), x)) (b, true)) (hcl : cl = 0 ∨ cl = 1) (hM : mu < 18446744073709551616) (h0 : 0 < mu) (hx : x = -(c : Int)) (hc : c ≤ 2000) (hc0 : 0 < c) :
    ∃ r, RQ r mu (2 ^ c) 100 ∧ Ev (ratio_Value.f (cl, sg, (mu : Int), x)) (r, true) := by
  have l1 := ln_small hM
  obtain ⟨k, hk⟩ := tz_ex mu h0
  have hb0 := bl_pos h0
  have l4 := two_pow_ln (c := c - min k c) (by omega)
  have l5 := ln_mono (Nat.div_le_self mu (2 ^ min k c))
  have l6 : ln 1 = 1 := by decide
  have hw : IntKind.i64.wrap (0 - -(c : Int)) = (c : Int) := by rw [wrap_id (by omega) (by omega)]; omega
  have hw2 : IntKind.i64.wrap ((c : Int) - ((min k c : Nat) : Int)) = ((c - min k c : Nat) : Int) := by rw [wrap_id (by omega) (by omega)]; omega
  have hdv : 2 ^ min k c ∣ mu := Nat.dvd_of_mod_eq_zero ((hk.mod _).mpr (Nat.min_le_left _ _))
  have hu := up (n := 1) (c := c - min k c) (by omega) (by omega)
  rw [Nat.one_mul] at hu
  subst hx
  refine ⟨_, ⟨mu / 2 ^ min k c, 2 ^ (c - min k c), rfl, Nat.pow_pos (by decide), ?_, ?_, by omega, by omega⟩, value_tail hb hcl hM (ev_neg (by omega) (Ev.bind (noughts (by omega) hk) ?_))⟩
  · rcases Nat.le_total k c with h | h
    · rw [Nat.min_eq_left h]
      exact gcd_odd_pow hk.div
    · rw [Nat.min_eq_right h, Nat.sub_self, Nat.pow_zero, Nat.gcd_one_right]
  · obtain ⟨z, hz⟩ := hdv
    rw [hz, Nat.mul_div_cancel_left _ (Nat.pow_pos (by decide)), Nat.mul_right_comm, ← Nat.pow_add, show min k c + (c - min k c) = c by omega, Nat.mul_comm]
  · rw [hw, mnI_min, hw2]
    exact Ev.bind (down (by omega) (by omega)) (Ev.bind (nbits (by omega)) (ev_neg (by omega) (Ev.bind (of_val (n := 1) (by decide)) (Ev.bind hu (ev_now rfl)))))
/-- The value of bits that are finite or nought: n over d of the program, p with pk places of the document. -/
theorem val64 {s e f : Nat} (hs : s ≤ 1) (he : e < 2047) (hf : f < 4503599627370496) : ∃ (cl m x : Int) (r : List Int × List Int) (n d p pk : Nat), V s e f = (cl, decide (s = 1), m, x) ∧ (cl = 0 ∨ cl = 1) ∧ (cl = 0 ↔ n = 0) ∧ (e = 0 ∧ f = 0 ↔ n = 0) ∧ 0 < d ∧ RQ r n d 100 ∧ ln n ≤ 100 ∧ ln d ≤ 100 ∧
    Ev (ratio_Value.f (V s e f)) (r, true) ∧ Ev (numeraryref07_Decimals.f m x) (D p, (pk : Int)) ∧ pk ≤ 1074 ∧ dn p ≤ 4000 ∧ p * d = n * 10 ^ pk ∧ (pk = 0 ∨ d = 2 ^ pk) ∧ (d = 1 ∨ d = 2 ^ pk) ∧ (pk = 0 → d = 1) := by
  have hb := value_bits hs (show e < 2048 by omega) hf (.inl (by omega))
  have ten : ∀ j : Nat, (10 : Nat) ^ j = 5 ^ j * 2 ^ j := fun j => by rw [← Nat.mul_pow]
  have hl1 : ln 1 = 1 := by decide
  by_cases e0 : e = 0
  · by_cases f0 : f = 0
    · have hV : V s e f = (0, decide (s = 1), ((0 : Nat) : Int), ((0 : Nat) : Int)) := by unfold V; rw [if_neg (by omega), if_pos e0, if_pos f0]; rfl
      rw [hV] at hb ⊢
      obtain ⟨r, hr, hv⟩ := value_up (c := 0) hb (.inl rfl) (by decide) rfl (by decide)
      have hd := rdec_up (m := 0) (c := 0) (by decide) (by decide)
      rw [Nat.zero_mul] at hd hr
      exact ⟨_, _, _, r, 0, 1, 0, 0, rfl, .inl rfl, by simp, by simp [e0, f0], by decide, hr, by decide, by decide, hv, hd, by decide, Nat.le_trans (dn_small (n := 0) (by decide)) (by decide), by decide, .inl rfl, .inl rfl, fun _ => rfl⟩
    · obtain ⟨K, hK⟩ : ∃ K : Nat, K = 1074 := ⟨_, rfl⟩
      have hV : V s e f = (1, decide (s = 1), (f : Int), -(K : Int)) := by unfold V; rw [if_neg (by omega), if_pos e0, if_neg f0, hK]; rfl
      rw [hV] at hb ⊢
      obtain ⟨r, hr, hv⟩ := value_down (c := K) hb (.inr rfl) (by omega) (by omega) rfl (by omega) (by omega)
      have hd := rdec_down (m := f) (c := K) (by omega) (by omega)
      have l1 := dn_small (n := f) (by omega)
      have l2 := dn_five f K
      have l3 := ln_small (n := f) (by omega)
      have l4 := two_pow_ln (c := K) (by omega)
      refine ⟨_, _, _, r, f, 2 ^ K, f * 5 ^ K, K, rfl, .inr rfl, ⟨fun h => absurd h (by decide), fun h => absurd h f0⟩, ⟨fun h => h.2, fun h => ⟨e0, h⟩⟩, Nat.pow_pos (by decide), hr, by omega, by omega, hv, hd, by omega, by omega, ?_, .inr rfl, .inr rfl, fun h => by omega⟩
      rw [ten, Nat.mul_assoc]
  · have hV : V s e f = (1, decide (s = 1), ((f + 4503599627370496 : Nat) : Int), (e : Int) - 1075) := by unfold V; rw [if_neg (by omega), if_neg e0]
    rw [hV] at hb ⊢
    have hm : f + 4503599627370496 < 18446744073709551616 := by omega
    have hm0 : 0 < f + 4503599627370496 := by omega
    clear hV
    generalize f + 4503599627370496 = mu at *
    have l1 := dn_small hm
    have l3 := ln_small hm
    by_cases hx : 1075 ≤ e
    · obtain ⟨d, hd⟩ : ∃ d, e = 1075 + d := ⟨e - 1075, by omega⟩
      have h := rdec_up (m := mu) (c := d) hm (by omega)
      have l2 := dn_two mu d
      have l4 := ln_pow2 mu d
      obtain ⟨r, hr, hv⟩ := value_up (c := d) hb (.inr rfl) hm (by omega) (by omega)
      have hpos : 0 < mu * 2 ^ d := Nat.mul_pos hm0 (Nat.pow_pos (by decide))
      refine ⟨_, _, _, r, mu * 2 ^ d, 1, mu * 2 ^ d, 0, rfl, .inr rfl, ⟨fun h => absurd h (by decide), fun h => by omega⟩, ⟨fun h => absurd h.1 e0, fun h => by omega⟩, by decide, hr, by omega, by omega, hv, ?_, by decide, by omega, by rw [Nat.pow_zero], .inl rfl, .inl rfl, fun _ => rfl⟩
      rw [show (e : Int) - 1075 = (d : Int) by omega]; exact h
    · obtain ⟨d, hd⟩ : ∃ d, d + e = 1075 := ⟨1075 - e, by omega⟩
      have h := rdec_down (m := mu) (c := d) hm (by omega)
      have l2 := dn_five mu d
      have l4 := two_pow_ln (c := d) (by omega)
      obtain ⟨r, hr, hv⟩ := value_down (c := d) hb (.inr rfl) hm hm0 (by omega) (by omega) (by omega)
      refine ⟨_, _, _, r, mu, 2 ^ d, mu * 5 ^ d, d, rfl, .inr rfl, ⟨fun h => absurd h (by decide), fun h => by omega⟩, ⟨fun h => absurd h.1 e0, fun h => by omega⟩, Nat.pow_pos (by decide), hr, by omega, by omega, hv, ?_, by omega, by omega, ?_, .inr rfl, .inr rfl, fun h => by omega⟩
      · rw [show (e : Int) - 1075 = -(d : Int) by omega]; exact h
      · rw [ten, Nat.mul_assoc]
theorem value_no {s f : Nat} : Ev (ratio_Value.f (V s 2047 f)) (([], []), false) ∧ (V s 2047 f).1 > 1 ∧ ((V s 2047 f).1 = 2 ∨ (V s 2047 f).1 = 3) := by
  unfold V
  rw [if_pos rfl]
  by_cases c : f = 0
  · rw [if_pos c]; exact ⟨ev_eq ratio_Value.f_eq (ev_pos (by simp) (ev_pos (by simp) (ev_now rfl))), by simp, .inl rfl⟩
  · rw [if_neg c]; exact ⟨ev_eq ratio_Value.f_eq (ev_pos (by simp) (ev_pos (by simp) (ev_now rfl))), by simp, .inr rfl⟩
/-! ### decimals that are cut off -/
theorem dg_drop {B : Nat} (hB : 2 ≤ B) (n m : Nat) : (dg B n).drop m = dg B (n / B ^ m) := by
  induction m generalizing n with
  | zero => simp
  | succ m ih =>
    rcases Nat.eq_zero_or_pos n with rfl | hn
    · simp [dg_zero]
    · rw [dg_pos hB hn, List.drop_succ_cons, ih, Nat.div_div_eq_div_mul, Nat.pow_succ, Nat.mul_comm]
theorem D_drop (n m : Nat) : (D n).drop m = D (n / 10 ^ m) := by
  unfold D; rw [nl_drop, dg_drop (by decide)]
theorem gd_dg {B : Nat} (hB : 2 ≤ B) (n i : Nat) : gd (dg B n) i = n / B ^ i % B := by
  have h : gd (dg B n) i = gd ((dg B n).drop i) 0 := by rw [gd_drop, Nat.add_zero]
  rw [h, dg_drop hB]
  rcases Nat.eq_zero_or_pos (n / B ^ i) with h0 | h0
  · rw [h0, Nat.zero_mod]; rfl
  · rw [dg_pos hB h0]; rfl
/-- Rounded off by so many digits. -/
theorem near_pow {n m : Nat} (hm : 0 < m) : near n (10 ^ m) = n / 10 ^ m + (if 5 ≤ n / 10 ^ (m - 1) % 10 then 1 else 0) := by
  obtain ⟨k, rfl⟩ : ∃ k, m = k + 1 := ⟨m - 1, by omega⟩
  have h := near_half (x := n) (y := 10 ^ (k + 1)) (Nat.pow_pos (by decide))
  rw [← h, Nat.add_sub_cancel]
  have e : n / 10 ^ (k + 1) = n / 10 ^ k / 10 := by rw [Nat.pow_succ, Nat.div_div_eq_div_mul]
  have e2 : n % 10 ^ (k + 1) = n % 10 ^ k + 10 ^ k * (n / 10 ^ k % 10) := by rw [Nat.pow_succ, Nat.mod_mul]
  have hp : 0 < 10 ^ k := Nat.pow_pos (by decide)
  have hlt := Nat.mod_lt n hp
  congr 1
  rw [e2, Nat.pow_succ]
  generalize n / 10 ^ k % 10 = q at *
  generalize n % 10 ^ k = t at *
  generalize 10 ^ k = T at *
  by_cases c : 5 ≤ q
  · rw [if_pos c, if_pos]
    have : T * 5 ≤ T * q := Nat.mul_le_mul_left _ c
    omega
  · rw [if_neg c, if_neg]
    have : T * q ≤ T * 4 := Nat.mul_le_mul_left _ (by omega)
    omega
theorem rcut {n k p : Nat} (hn : dn n ≤ 1000000) (hk : k ≤ 1000000) (hp : p ≤ 1000000) : Ev (numeraryref09_Cut.f (D n) (k : Int) (p : Int)) (D (near (n * 10 ^ p) (10 ^ k))) := by
  refine ev_eq numeraryref09_Cut.f_eq ?_
  by_cases c : k ≤ p
  · obtain ⟨m, rfl⟩ : ∃ m, p = k + m := ⟨p - k, by omega⟩
    have h : near (n * 10 ^ (k + m)) (10 ^ k) = n * 10 ^ m := by
      refine near_uniq (Nat.pow_pos (by decide)) ?_ ?_
      · have : 2 * (n * 10 ^ m) * 10 ^ k = 2 * (n * 10 ^ (k + m)) := by rw [Nat.pow_add]; grind
        rw [this]; exact Nat.le_add_right _ _
      · have : (2 * (n * 10 ^ m) + 2) * 10 ^ k = 2 * (n * 10 ^ (k + m)) + 2 * 10 ^ k := by rw [Nat.pow_add]; grind
        have hp : 0 < 10 ^ k := Nat.pow_pos (by decide)
        rw [this]
        generalize 10 ^ k = T at *
        omega
    rw [h]
    refine ev_pos (by omega) ?_
    rw [show IntKind.i64.wrap (((k + m : Nat) : Int) - (k : Int)) = (m : Int) by rw [wrap_id (by omega) (by omega)]; omega]
    exact Ev.bind (rtens_up (by omega) (by omega)) (ev_now rfl)
  · obtain ⟨m, rfl⟩ : ∃ m, k = p + (m + 1) := ⟨k - p - 1, by omega⟩
    have h : near (n * 10 ^ p) (10 ^ (p + (m + 1))) = near n (10 ^ (m + 1)) := by
      rw [Nat.pow_add]
      refine near_scale (Nat.mul_pos (Nat.pow_pos (by decide)) (Nat.pow_pos (by decide))) (Nat.pow_pos (by decide)) ?_
      grind
    rw [h, near_pow (by omega), Nat.add_sub_cancel]
    have w1 : IntKind.i64.wrap (((p + (m + 1) : Nat) : Int) - (p : Int)) = ((m + 1 : Nat) : Int) := by rw [wrap_id (by omega) (by omega)]; omega
    have w2 : IntKind.i64.wrap (((m + 1 : Nat) : Int) - 1) = (m : Int) := by rw [wrap_id (by omega) (by omega)]; omega
    rw [w1, w2, Int.toNat_natCast, D_drop, show rdI (D n) (m : Int) = ((n / 10 ^ m % 10 : Nat) : Int) by unfold D; rw [rd_nl, gd_dg (by decide)], D_length]
    have ha : dn (n / 10 ^ (m + 1)) ≤ 1000000 := Nat.le_trans (dn_mono (Nat.div_le_self _ _)) hn
    have h1 : dn 1 = 1 := by decide
    have add : Ev (numeraryref02_Add.f (D (n / 10 ^ (m + 1))) ([1] : List Int)) (D (n / 10 ^ (m + 1) + 1)) := radd_D (n := 1) (by omega) (by omega)
    refine ev_neg (by omega) ?_
    have nil : ∀ {j}, dn n ≤ j → n / 10 ^ j = 0 := fun {j} h => Nat.div_eq_of_lt (dg_len_le b10 h)
    by_cases c1 : m + 1 ≤ dn n
    · refine ev_pos (by omega) (ev_pos (by omega) (ev_pos (by omega) ?_))
      by_cases c2 : m + 1 < dn n
      · refine ev_pos (by omega) (ev_pos (by omega) (ev_pos (by omega) ?_))
        by_cases c5 : 5 ≤ n / 10 ^ m % 10
        · rw [if_pos c5]; exact ev_pos (by omega) (Ev.bind add (ev_now rfl))
        · rw [if_neg c5]; exact ev_neg (by omega) (ev_now rfl)
      · refine ev_neg (by omega) ?_
        rw [nil (show dn n ≤ m + 1 by omega)] at add ⊢
        by_cases c5 : 5 ≤ n / 10 ^ m % 10
        · rw [if_pos c5]; exact ev_pos (by omega) (Ev.bind add (ev_now rfl))
        · rw [if_neg c5]; exact ev_neg (by omega) (ev_now rfl)
    · refine ev_neg (by omega) (ev_neg (by omega) ?_)
      rw [nil (show dn n ≤ m + 1 by omega), nil (show dn n ≤ m by omega), Nat.zero_mod, if_neg (by decide)]
      exact ev_now rfl
end Go.Proofs.YteidggfjcanbjaaDoor.F

/- The time of every value of 64 bits (its sign doesn't count), by every count of places, by both systems, is the document's, or there is none. -/
namespace Go.Proofs.YteidggfjcanbjaaDoor.Pure
open Go Go.Proofs.YteidggfjcanbjaaDoor.E Go.Proofs.YteidggfjcanbjaaDoor.F
set_option linter.unusedVariables false
set_option linter.unusedSimpArgs false
theorem rlast (y : Int) : Ev (numeraryref24_Last.f y) (lastOf y) := by
  refine ev_eq numeraryref24_Last.f_eq ?_
  by_cases c : y = 0
  · rw [show lastOf y = 2958465 from if_pos c]; exact ev_pos c (ev_now rfl)
  · by_cases c1 : y = 1
    · rw [show lastOf y = 2957003 by unfold lastOf; rw [if_neg c, if_pos c1]]; exact ev_neg c (ev_pos c1 (ev_now rfl))
    · rw [show lastOf y = -1 by unfold lastOf; rw [if_neg c, if_neg c1]]; exact ev_neg c (ev_neg c1 (ev_now rfl))
theorem rtime_tail {N B : Nat} {y : Int} (hN : N < 10000000000000000) (hB : 1 ≤ B) (hB2 : B ≤ 1000) {R : (Int × Int × Int × Int × Int) × Bool}
    (hR : R = if ((N / B / 60 / 60 / 24 : Nat) : Int) ≤ lastOf y then (timeOf N B, true) else ((0, 0, 0, 0, 0), false)) :
    Ev (if (B : Int) ≠ 0 then (if (B : Int) ≠ 0 then (M.bind (numeraryref24_Last.f y) fun t1 => (if (IntKind.i64.wrap ((IntKind.i64.wrap ((IntKind.i64.wrap ((IntKind.i64.wrap ((N : Int).tdiv (B : Int))).tdiv 60)).tdiv 60)).tdiv 24)) > t1 then (M.ret (((0 : Int), (0 : Int), (0 : Int), (0 : Int), (0 : Int)), false)) else (M.ret ((IntKind.i64.wrap ((IntKind.i64.wrap ((IntKind.i64.wrap ((IntKind.i64.wrap ((N : Int).tdiv (B : Int))).tdiv 60)).tdiv 60)).tdiv 24), (IntKind.i64.wrap ((IntKind.i64.wrap ((IntKind.i64.wrap ((N : Int).tdiv (B : Int))).tdiv 60)).tdiv 60)).tmod 24, (IntKind.i64.wrap ((IntKind.i64.wrap ((N : Int).tdiv (B : Int))).tdiv 60)).tmod 60, (IntKind.i64.wrap ((N : Int).tdiv (B : Int))).tmod 60, (N : Int).tmod (B : Int)), true)))) else M.none) else M.none) R := by
  have b1 := Nat.div_le_self N B
  rw [tdivN (n := N) B rfl, tmodN (n := N) B rfl]
  unfold timeOf at hR
  generalize N % B = m at *
  generalize N / B = x at *
  rw [wrap_nat (a := x) (by omega), tdivN (n := x) (K := 60) 60 rfl, wrap_nat (a := x / 60) (by omega), tdivN (n := x / 60) (K := 60) 60 rfl, wrap_nat (a := x / 60 / 60) (by omega), tdivN (n := x / 60 / 60) (K := 24) 24 rfl, wrap_nat (a := x / 60 / 60 / 24) (by omega), tmodN (n := x / 60 / 60) (K := 24) 24 rfl, tmodN (n := x / 60) (K := 60) 60 rfl, tmodN (n := x) (K := 60) 60 rfl]
  refine ev_pos (by omega) (ev_pos (by omega) (Ev.bind (rlast y) ?_))
  by_cases c : ((x / 60 / 60 / 24 : Nat) : Int) ≤ lastOf y
  · rw [if_pos c] at hR; exact ev_neg (by omega) (ev_now hR.symm)
  · rw [if_neg c] at hR; exact ev_pos (by omega) (ev_now hR.symm)
theorem rtime {P pk p : Nat} {y : Int} (hP : dn P ≤ 4000) (hpk : pk ≤ 1074) (hp : p ≤ 3) {N : Nat} (hN : near (P * 86400 * 10 ^ p) (10 ^ pk) = N) :
    Ev (numeraryref25_Of.f (D P) (pk : Int) (p : Int) y) (if N < 10000000000000000 ∧ ((N / 10 ^ p / 60 / 60 / 24 : Nat) : Int) ≤ lastOf y then (timeOf N (10 ^ p), true) else ((0, 0, 0, 0, 0), false)) := by
  have d1 := dn_mul P 86400
  have d2 : dn 86400 = 5 := by decide
  have hcut := rcut (n := P * 86400) (k := pk) (p := p) (by omega) (by omega) (by omega)
  rw [hN] at hcut
  have h10 : 10 ^ p ≤ 1000 := Nat.le_trans (Nat.pow_le_pow_right (by decide) hp) (by decide)
  have h0 : 1 ≤ 10 ^ p := Nat.pow_pos (by decide)
  refine ev_eq numeraryref25_Of.f_eq (ev_neg (by omega) (ev_neg (by omega) (Ev.bind (rtimes_D (m := 86400) (by omega) (by decide)) (Ev.bind hcut ?_))))
  rw [D_length]
  have hlen : dn N ≤ 16 ↔ N < 10000000000000000 := dg_len b10 N 16
  by_cases c : N < 10000000000000000
  · have c16 := hlen.mpr c
    refine ev_neg (by omega) ?_
    rw [show IntKind.i64.wrap ((dn N : Nat) - 1 : Int) = ((dn N : Nat) : Int) - 1 by rw [wrap_id (by omega) (by omega)]]
    -- the number of the digits
    have l0 : ∀ i, i ≤ dn N → Ev (numeraryref25_Of.l0 (p : Int) y 0 0 0 0 0 0 0 0 0 0 (D N) ((N / 10 ^ i : Nat) : Int) ((i : Int) - 1)) (if N < 10000000000000000 ∧ ((N / 10 ^ p / 60 / 60 / 24 : Nat) : Int) ≤ lastOf y then (timeOf N (10 ^ p), true) else ((0, 0, 0, 0, 0), false)) := by
      intro i
      induction i with
      | zero =>
        intro _
        rw [Nat.pow_zero, Nat.div_one]
        refine ev_loop numeraryref25_Of.l0_eq numeraryref25_Of.l0_step (ev_neg (by omega) ?_)
        have l1 : ∀ k i, i + k = p → Ev (numeraryref25_Of.l1 (p : Int) y 0 0 0 0 0 0 0 0 0 0 (N : Int) 0 0 0 0 0 ((10 ^ i : Nat) : Int) (i : Int)) (if N < 10000000000000000 ∧ ((N / 10 ^ p / 60 / 60 / 24 : Nat) : Int) ≤ lastOf y then (timeOf N (10 ^ p), true) else ((0, 0, 0, 0, 0), false)) := by
          intro k
          induction k with
          | zero =>
            intro i hi
            obtain rfl : i = p := by omega
            refine ev_loop numeraryref25_Of.l1_eq numeraryref25_Of.l1_step (ev_neg (by omega) (rtime_tail c h0 h10 ?_))
            by_cases c2 : ((N / 10 ^ i / 60 / 60 / 24 : Nat) : Int) ≤ lastOf y
            · rw [if_pos ⟨c, c2⟩, if_pos c2]
            · rw [if_neg (fun h => c2 h.2), if_neg c2]
          | succ k ih =>
            intro i hi
            have := ih (i + 1) (by omega)
            have c1 : 10 ^ i ≤ 1000 := Nat.le_trans (Nat.pow_le_pow_right (by decide) (show i ≤ 3 by omega)) (by decide)
            refine ev_loop numeraryref25_Of.l1_eq numeraryref25_Of.l1_step (ev_pos (by omega) ?_)
            rw [Nat.pow_succ 10 i] at this
            rw [show IntKind.i64.wrap (10 * ((10 ^ i : Nat) : Int)) = ((10 ^ i * 10 : Nat) : Int) by generalize 10 ^ i = q at *; rw [wrap_id (by omega) (by omega)]; omega, show IntKind.i64.wrap ((i : Int) + 1) = ((i + 1 : Nat) : Int) by rw [wrap_id (by omega) (by omega)]; omega]
            exact this
        exact l1 p 0 (by omega)
      | succ i ih =>
        intro hi
        refine ev_loop numeraryref25_Of.l0_eq numeraryref25_Of.l0_step (ev_pos (by omega) (ev_pos (by omega) (ev_pos (by rw [D_length]; omega) ?_)))
        have hd : rdI (D N) (((i + 1 : Nat) : Int) - 1) = ((N / 10 ^ i % 10 : Nat) : Int) := by
          rw [show ((i + 1 : Nat) : Int) - 1 = (i : Int) by omega]; unfold D; rw [rd_nl, gd_dg (by decide)]
        have e : N / 10 ^ i = 10 * (N / 10 ^ (i + 1)) + N / 10 ^ i % 10 := by
          rw [Nat.pow_succ, ← Nat.div_div_eq_div_mul]; omega
        have hle := Nat.div_le_self N (10 ^ (i + 1))
        rw [hd, show IntKind.i64.wrap (IntKind.i64.wrap (10 * ((N / 10 ^ (i + 1) : Nat) : Int)) + ((N / 10 ^ i % 10 : Nat) : Int)) = ((N / 10 ^ i : Nat) : Int) by
          generalize N / 10 ^ (i + 1) = u at *
          generalize N / 10 ^ i = v at *
          rw [wrap_id (x := 10 * (u : Int)) (by omega) (by omega), wrap_id (by omega) (by omega)]; omega, show IntKind.i64.wrap (((i + 1 : Nat) : Int) - 1 - 1) = (i : Int) - 1 by rw [wrap_id (by omega) (by omega)]; omega]
        exact ih (by omega)
    have := l0 (dn N) (Nat.le_refl _)
    rw [show N / 10 ^ dn N = 0 from Nat.div_eq_of_lt (dg_len_le b10 (Nat.le_refl _))] at this
    exact this
  · rw [if_neg (show ¬(N < 10000000000000000 ∧ ((N / 10 ^ p / 60 / 60 / 24 : Nat) : Int) ≤ lastOf y) from fun h => c h.1)]
    exact ev_pos (by have : ¬ dn N ≤ 16 := fun h => c (hlen.mp h); omega) (ev_now rfl)
theorem both {r : List Int × List Int} {n d P pk : Nat} (hr : RQ r n d 100) (hd : 0 < d) (hP : dn P ≤ 4000) (hpk : pk ≤ 1074) (he : P * d = n * 10 ^ pk) (p y : Int) :
    ∃ T, Ev (clock_Of.f r p y) T ∧ Ev (numeraryref25_Of.f (D P) (pk : Int) p y) T := by
  by_cases c : p < 0 ∨ 3 < p
  · refine ⟨_, clock_bad c, ev_eq numeraryref25_Of.f_eq ?_⟩
    by_cases c1 : p < 0
    · exact ev_pos c1 (ev_now rfl)
    · exact ev_neg c1 (ev_pos (by omega) (ev_now rfl))
  · obtain ⟨q, rfl⟩ : ∃ q : Nat, p = (q : Int) := ⟨p.toNat, by omega⟩
    have hq : q ≤ 3 := by omega
    have hc := clock_ok (p := q) (y := y) hr hd (by decide) hq
    have hs : near (P * 86400 * 10 ^ q) (10 ^ pk) = near (n * 86400 * 10 ^ q) d := by
      refine near_scale (Nat.pow_pos (by decide)) hd ?_
      calc P * 86400 * 10 ^ q * d = P * d * (86400 * 10 ^ q) := by grind
        _ = n * 86400 * 10 ^ q * 10 ^ pk := by rw [he]; grind
    have ht := rtime (y := y) hP hpk hq hs
    clear hs
    obtain ⟨N, hN⟩ : ∃ N, near (n * 86400 * 10 ^ q) d = N := ⟨_, rfl⟩
    rw [hN] at hc ht
    clear hN
    have h10 : 10 ^ q ≤ 1000 := Nat.le_trans (Nat.pow_le_pow_right (by decide) hq) (by decide)
    have h0 : 1 ≤ 10 ^ q := Nat.pow_pos (by decide)
    have hl : lastOf y ≤ 2958465 := by unfold lastOf; split <;> (try split) <;> omega
    have hbig : 10000000000000000 ≤ N → 2958465 < N / 10 ^ q / 60 / 60 / 24 := by
      intro h
      have h1 : N / 1000 ≤ N / 10 ^ q := Nat.div_le_div_left h10 h0
      generalize N / 10 ^ q = z at *
      omega
    rcases hc with ⟨c1, c2, hc⟩ | ⟨c1, hc⟩
    · rw [if_pos ⟨by
        rcases Nat.lt_or_ge N 10000000000000000 with h | h
        · exact h
        · exfalso
          have h2 := Int.ofNat_lt.mpr (hbig h)
          generalize ((N / 10 ^ q / 60 / 60 / 24 : Nat) : Int) = g at *
          omega, c2⟩] at ht
      exact ⟨_, hc, ht⟩
    · rw [if_neg (fun h => by
        rcases c1 with c1 | c1
        · omega
        · exact absurd h.2 (by omega))] at ht
      exact ⟨_, hc, ht⟩
theorem tmod_small (x : Int) (k : Nat) (hk : 0 < k) {K : Int} (hK : K = (k : Int)) : 0 ≤ (mxI 0 x).tmod K := by
  subst hK
  have : 0 ≤ mxI 0 x := by unfold mxI; split <;> omega
  rw [Int.tmod_eq_emod_of_nonneg this]
  exact Int.emod_nonneg _ (by omega)
theorem ClockTimes (a0 : Int) (h0 : (Lit.int .u64 a0).wf = true) (a1 : Int) (h1 : (Lit.int .i64 a1).wf = true) (a2 : Int) (h2 : (Lit.int .i64 a2).wf = true) : Ev (numerarylaw25_ClockTimes.f a0 a1 a2) true := by
  obtain ⟨h0a, h0b⟩ := wf_u64 h0
  obtain ⟨b, rfl⟩ : ∃ n : Nat, a0 = (n : Int) := ⟨a0.toNat, by omega⟩
  obtain ⟨s, e, f, hs, he, hf, rfl⟩ := W_split (b := b) (by omega)
  have hb := bits_of hs he hf
  have ho := ref_of hs he hf
  by_cases c : e = 2047
  · subst c
    obtain ⟨v1, v2, _⟩ := value_no (s := s) (f := f)
    exact ev_eq numerarylaw25_ClockTimes.f_eq (Ev.bind ho (Ev.bind hb (Ev.bind v1 (ev_pos v2 (Ev.bind wakes25 (ev_pos rfl (ev_now rfl)))))))
  · obtain ⟨cl, m, x, r, n, d, P, pk, hV, hcl, _, _, hd, hr, _, _, hv, hdec, hpk, hP, heq, _⟩ := val64 hs (show e < 2047 by omega) hf
    rw [hV] at hb ho hv
    have hb2 := both hr hd hP hpk heq
    obtain ⟨r1, r2⟩ := r
    refine ev_eq numerarylaw25_ClockTimes.f_eq (Ev.bind ho (Ev.bind hb (Ev.bind hv (ev_neg (by rcases hcl with rfl | rfl <;> simp) (Ev.bind hdec ?_)))))
    generalize (mxI 0 a1).tmod 4 = p1
    -- one way of the inner loop
    have one : ∀ (p : Int) (i : Int) (R : Bool), Ev (numerarylaw25_ClockTimes.l0 a2 r1 r2 true (D P) (pk : Int) ([a1, p1] : List Int) (([a1, p1] : List Int).length : Int) (IntKind.i64.wrap (i + 1))) R →
        Ev (numerarylaw25_ClockTimes.l1 a2 r1 r2 true (D P) (pk : Int) p ([a1, p1] : List Int) (([a1, p1] : List Int).length : Int) i ([a2, (mxI 0 a2).tmod 2] : List Int) (([a2, (mxI 0 a2).tmod 2] : List Int).length : Int) 0) R := by
      intro p i R h
      obtain ⟨T, t1, t2⟩ := hb2 p a2
      obtain ⟨U, u1, u2⟩ := hb2 p ((mxI 0 a2).tmod 2)
      refine ev_loop numerarylaw25_ClockTimes.l1_eq numerarylaw25_ClockTimes.l1_step (ev_pos (by simp) (ev_pos (by decide) (ev_pos (by simp) (Ev.bind t1 (Ev.bind t2 (ev_neg (by simp) (ev_neg (fun h => h ⟨rfl, rfl, rfl, rfl, rfl⟩) ?_)))))))
      refine ev_loop numerarylaw25_ClockTimes.l1_eq numerarylaw25_ClockTimes.l1_step (ev_pos (by simp; decide) (ev_pos (by decide) (ev_pos (by simp; decide) (Ev.bind u1 (Ev.bind u2 (ev_neg (by simp) (ev_neg (fun h => h ⟨rfl, rfl, rfl, rfl, rfl⟩) ?_)))))))
      exact ev_loop numerarylaw25_ClockTimes.l1_eq numerarylaw25_ClockTimes.l1_step (ev_neg (by simp; decide) h)
    refine ev_loop numerarylaw25_ClockTimes.l0_eq numerarylaw25_ClockTimes.l0_step (ev_pos (by simp) (ev_pos (by decide) (ev_pos (by simp) (one _ _ _ ?_))))
    refine ev_loop numerarylaw25_ClockTimes.l0_eq numerarylaw25_ClockTimes.l0_step (ev_pos (by simp; decide) (ev_pos (by decide) (ev_pos (by simp; decide) (one _ _ _ ?_))))
    exact ev_loop numerarylaw25_ClockTimes.l0_eq numerarylaw25_ClockTimes.l0_step (ev_neg (by simp; decide) (Ev.bind wakes25 (ev_pos rfl (ev_now rfl))))
end Go.Proofs.YteidggfjcanbjaaDoor.Pure
