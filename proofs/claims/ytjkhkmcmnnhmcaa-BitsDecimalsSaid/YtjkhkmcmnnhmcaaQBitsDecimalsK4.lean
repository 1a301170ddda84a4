/- The bits nearest to a number, and their neighbours. -/
import Derived.Test.YtjkhkmcmnnhmcaaQBitsDecimalsK3
import Derived.Test.YtjkhkmcmnnhmcaaQBitsDecimalsD1
namespace Go.Proofs.Ytjkhkmcmnnhmcaa.F
open Go Go.Proofs.Ytjkhkmcmnnhmcaa.E
set_option linter.unusedVariables false
set_option linter.unusedSimpArgs false
/-- The value of bits that aren't negative, times two to 1074. -/
def Nb (b : Nat) : Nat := if b < 4503599627370496 then b else (b % 4503599627370496 + 4503599627370496) * 2 ^ (b / 4503599627370496 - 1)
theorem Nb_at {b E M : Nat} (hb : b = E * 4503599627370496 + M) (hM : M ≤ 9007199254740992) (hE : E = 0 ∨ 4503599627370496 ≤ M) : Nb b = M * 2 ^ E := by
  unfold Nb
  by_cases c : b < 4503599627370496
  · have h0 : E = 0 := by omega
    subst h0
    rw [if_pos c, Nat.pow_zero, Nat.mul_one]; omega
  · rw [if_neg c]
    by_cases c2 : M = 9007199254740992
    · have e1 : b / 4503599627370496 = E + 2 := by omega
      have e2 : b % 4503599627370496 = 0 := by omega
      rw [e1, e2, c2, Nat.zero_add, show E + 2 - 1 = E + 1 by omega, Nat.pow_succ, Nat.mul_comm (2 ^ E) 2, ← Nat.mul_assoc]
    · have e1 : b / 4503599627370496 = E + 1 := by omega
      have e2 : b % 4503599627370496 + 4503599627370496 = M := by omega
      rw [e1, e2, Nat.add_sub_cancel]
theorem rnd_near {u v : Nat} (hv : 0 < v) : 2 * u ≤ (2 * rnd u v + 1) * v ∧ 2 * rnd u v * v ≤ 2 * u + v ∧ (2 * u = (2 * rnd u v + 1) * v → rnd u v % 2 = 0) ∧ (2 * rnd u v * v = 2 * u + v → rnd u v % 2 = 0) := by
  have h1 := Nat.div_add_mod u v
  have h2 := Nat.mod_lt u hv
  have p := @rnd_pos u v
  have n := @rnd_neg u v
  generalize rnd u v = R at *
  generalize u / v = q at *
  generalize u % v = r at *
  have e1 : (2 * (q + 1) + 1) * v = 2 * (v * q) + 3 * v := by grind
  have e2 : 2 * (q + 1) * v = 2 * (v * q) + 2 * v := by grind
  have e3 : (2 * q + 1) * v = 2 * (v * q) + v := by grind
  have e4 : 2 * q * v = 2 * (v * q) := by grind
  by_cases c : v < 2 * r ∨ (2 * r = v ∧ q % 2 = 1)
  · rw [p c]
    clear p n
    rw [e1, e2]
    generalize v * q = z at *
    omega
  · rw [n c]
    clear p n
    rw [e3, e4]
    generalize v * q = z at *
    omega
theorem mids {u Y E b : Nat} (hY : 0 < Y) (h1 : u < 9007199254740992 * (Y * 2 ^ E)) (h2 : E = 0 ∨ 4503599627370496 * (Y * 2 ^ E) ≤ u) (hb : b = E * 4503599627370496 + rnd u (Y * 2 ^ E)) :
    2 * u ≤ Y * (Nb b + Nb (b + 1)) ∧ (2 * u = Y * (Nb b + Nb (b + 1)) → b % 2 = 0) ∧ (0 < b → Y * (Nb (b - 1) + Nb b) ≤ 2 * u ∧ (2 * u = Y * (Nb (b - 1) + Nb b) → b % 2 = 0)) := by
  have hv : 0 < Y * 2 ^ E := Nat.mul_pos hY (Nat.pow_pos (by decide))
  have hq : u / (Y * 2 ^ E) < 9007199254740992 := Nat.div_lt_of_lt_mul (by rw [Nat.mul_comm (Y * 2 ^ E)]; exact h1)
  have hR := rnd_le u (Y * 2 ^ E)
  have hR2 := rnd_ge u (Y * 2 ^ E)
  have hge : E = 0 ∨ 4503599627370496 ≤ u / (Y * 2 ^ E) := h2.imp id (fun h => (Nat.le_div_iff_mul_le hv).mpr h)
  obtain ⟨n1, n2, n3, n4⟩ := rnd_near (u := u) hv
  generalize rnd u (Y * 2 ^ E) = R at *
  have hRle : R ≤ 9007199254740992 := by omega
  have hER : E = 0 ∨ 4503599627370496 ≤ R := hge.imp id (fun h => by omega)
  clear hR hR2 hge hq
  have b0 := Nb_at hb hRle hER
  have par : b % 2 = R % 2 := by omega
  have up : (R + 1) * 2 ^ E ≤ Nb (b + 1) := by
    by_cases c : R + 1 ≤ 9007199254740992
    · rw [Nb_at (b := b + 1) (E := E) (M := R + 1) (by omega) c (by omega)]
      exact Nat.le_refl _
    · have c2 : R = 9007199254740992 := by omega
      rw [Nb_at (b := b + 1) (E := E + 1) (M := 4503599627370497) (by omega) (by decide) (.inr (by decide)), Nat.pow_succ, Nat.mul_comm (2 ^ E) 2, ← Nat.mul_assoc]
      exact Nat.mul_le_mul_right _ (by omega)
  have up2 : (2 * R + 1) * (Y * 2 ^ E) ≤ Y * (Nb b + Nb (b + 1)) := by
    rw [b0]
    calc (2 * R + 1) * (Y * 2 ^ E) = Y * (R * 2 ^ E + (R + 1) * 2 ^ E) := by grind
      _ ≤ _ := Nat.mul_le_mul_left _ (Nat.add_le_add_left up _)
  refine ⟨Nat.le_trans n1 up2, fun h => ?_, fun hb0 => ?_⟩
  · rw [par]; exact n3 (Nat.le_antisymm n1 (h ▸ up2))
  · by_cases c : E = 0 ∨ 4503599627370496 ≤ R - 1
    · have hR0 : 1 ≤ R := by omega
      have b1 := Nb_at (b := b - 1) (E := E) (M := R - 1) (by omega) (by omega) c
      have e : Y * (Nb (b - 1) + Nb b) + Y * 2 ^ E = 2 * R * (Y * 2 ^ E) := by
        rw [b0, b1]
        obtain ⟨Q, rfl⟩ : ∃ Q, R = Q + 1 := ⟨R - 1, by omega⟩
        rw [Nat.add_sub_cancel]; grind
      refine ⟨by omega, fun h => ?_⟩
      rw [par]; exact n4 (by omega)
    · obtain ⟨F, rfl⟩ : ∃ F, E = F + 1 := ⟨E - 1, by omega⟩
      have hR0 : R = 4503599627370496 := by omega
      have hu : 4503599627370496 * (Y * 2 ^ (F + 1)) ≤ u := by omega
      have b1 := Nb_at (b := b - 1) (E := F) (M := 9007199254740991) (by omega) (by decide) (.inr (by decide))
      have hF : 0 < Y * 2 ^ F := Nat.mul_pos hY (Nat.pow_pos (by decide))
      have e : Y * (Nb (b - 1) + Nb b) + Y * 2 ^ F = 2 * (4503599627370496 * (Y * 2 ^ (F + 1))) := by
        rw [b0, b1, hR0, Nat.pow_succ]; grind
      refine ⟨by omega, fun h => by omega⟩
/-- The bits nearest to a number that isn't too great. -/
theorem near_all {X Y K : Nat} (hK : K = 1074) (hY : 0 < Y) (lX : ln X ≤ 1000) (lY : ln Y ≤ 1000) (hX : X < Y * 2 ^ 250) :
    ∃ b : Nat, b < 9218868437227405311 ∧ Ev (bits_Nearest.f (L X) (L Y)) ((b : Int), true) ∧ 2 * (X * 2 ^ K) ≤ Y * (Nb b + Nb (b + 1)) ∧ (2 * (X * 2 ^ K) = Y * (Nb b + Nb (b + 1)) → b % 2 = 0) ∧ (0 < b → Y * (Nb (b - 1) + Nb b) ≤ 2 * (X * 2 ^ K) ∧ (2 * (X * 2 ^ K) = Y * (Nb (b - 1) + Nb b) → b % 2 = 0)) := by
  rcases Nat.eq_zero_or_pos X with rfl | hX0
  · refine ⟨0, by decide, nearest0 hY lY, ?_, fun _ => rfl, fun h => absurd h (by decide)⟩
    rw [Nat.zero_mul]; exact Nat.zero_le _
  have hE : ∃ E, X * 2 ^ K < 9007199254740992 * (Y * 2 ^ E) ∧ (E = 0 ∨ 4503599627370496 * (Y * 2 ^ E) ≤ X * 2 ^ K) ∧ E ≤ 2000 := by
    by_cases c : X * 2 ^ K < 9007199254740992 * Y
    · exact ⟨0, by rw [Nat.pow_zero, Nat.mul_one]; exact c, .inl rfl, by decide⟩
    · have hq0 : 9007199254740992 ≤ X * 2 ^ K / Y := (Nat.le_div_iff_mul_le hY).mpr (by omega)
      have q1 := Nat.log2_self_le (n := X * 2 ^ K / Y) (by omega)
      have q2 := Nat.lt_log2_self (n := X * 2 ^ K / Y)
      have q3 : 53 ≤ (X * 2 ^ K / Y).log2 := (Nat.le_log2 (by omega)).mpr hq0
      obtain ⟨F, hF⟩ : ∃ F, (X * 2 ^ K / Y).log2 = F + 52 := ⟨(X * 2 ^ K / Y).log2 - 52, by omega⟩
      rw [hF] at q1 q2
      refine ⟨F, ?_, .inr ?_, ?_⟩
      · have := (Nat.div_lt_iff_lt_mul hY).mp q2
        calc X * 2 ^ K < 2 ^ (F + 52 + 1) * Y := this
          _ = 9007199254740992 * (Y * 2 ^ F) := by rw [Nat.add_assoc, Nat.pow_add]; grind
      · have := (Nat.le_div_iff_mul_le hY).mp q1
        calc 4503599627370496 * (Y * 2 ^ F) = 2 ^ (F + 52) * Y := by rw [Nat.pow_add]; grind
          _ ≤ _ := this
      · have h3 : X * 2 ^ K / Y < 2 ^ (250 + K) := by
          refine (Nat.div_lt_iff_lt_mul hY).mpr ?_
          rw [Nat.pow_add, Nat.mul_right_comm, Nat.mul_comm (2 ^ 250) Y]
          exact Nat.mul_lt_mul_of_pos_right hX (Nat.pow_pos (by decide))
        have h4 := (Nat.pow_lt_pow_iff_right (a := 2) (by decide)).mp (Nat.lt_of_le_of_lt q1 h3)
        omega
  obtain ⟨E, h1, h2, hE⟩ := hE
  have hv : 0 < Y * 2 ^ E := Nat.mul_pos hY (Nat.pow_pos (by decide))
  have hq : X * 2 ^ K / (Y * 2 ^ E) < 9007199254740992 := Nat.div_lt_of_lt_mul (by rw [Nat.mul_comm (Y * 2 ^ E)]; exact h1)
  have hR := rnd_le (X * 2 ^ K) (Y * 2 ^ E)
  have hR3 : rnd (X * 2 ^ K) (Y * 2 ^ E) ≤ 9007199254740992 := by omega
  clear hq hR
  exact ⟨_, by omega, nearest hK hX0 hY lX lY h1 h2 (by omega), mids hY h1 h2 rfl⟩
/-- What the document says of bits that are neither negative nor infinite nor Nothing. -/
theorem ref_value {c K : Nat} (hK : K = 1074) (hc : c < 9218868437227405312) : ∃ (cl m x : Int) (p pk : Nat), cl ≤ 1 ∧ Ev (numeraryref07_Of.f (c : Int)) (cl, false, m, x) ∧ Ev (numeraryref07_Decimals.f m x) (D p, (pk : Int)) ∧ pk ≤ K ∧ dn p ≤ 4000 ∧ p * 2 ^ K = Nb c * 10 ^ pk := by
  obtain ⟨s, e, f, hs, he, hf, hW⟩ := W_split (b := c) (by omega)
  have hs0 : s = 0 := by unfold W at hW; omega
  subst hs0
  have he2 : e < 2047 := by unfold W at hW; omega
  have ho := ref_of (s := 0) (e := e) (f := f) (by decide) he hf
  rw [← hW] at ho
  have ten : ∀ j : Nat, (10 : Nat) ^ j = 5 ^ j * 2 ^ j := fun j => by rw [← Nat.mul_pow]
  by_cases e0 : e = 0
  · have hN : Nb c = f := by
      have hcf : c = f := by rw [hW, e0]; unfold W; omega
      unfold Nb; rw [if_pos (by omega), hcf]
    by_cases f0 : f = 0
    · have hV : V 0 e f = (0, false, 0, 0) := by unfold V; rw [if_neg (by omega), if_pos e0, if_pos f0]; rfl
      rw [hV] at ho
      have hd := rdec_up (m := 0) (c := 0) (by decide) (by decide)
      rw [Nat.zero_mul] at hd
      refine ⟨0, 0, 0, 0, 0, by decide, ho, hd, Nat.zero_le _, Nat.le_trans (dn_small (n := 0) (by decide)) (by decide), ?_⟩
      rw [hN, f0, Nat.zero_mul, Nat.zero_mul]
    · have hV : V 0 e f = (1, false, (f : Int), -1074) := by unfold V; rw [if_neg (by omega), if_pos e0, if_neg f0]; rfl
      rw [hV] at ho
      have hd := rdec_down (m := f) (c := K) (by omega) (by omega)
      rw [show (-(K : Int)) = -1074 by omega] at hd
      have l1 := dn_small (n := f) (by omega)
      have l2 := dn_five f K
      refine ⟨1, f, -1074, f * 5 ^ K, K, by decide, ho, hd, Nat.le_refl _, by omega, ?_⟩
      rw [hN, ten, Nat.mul_assoc]
  · have hN : Nb c = (f + 4503599627370496) * 2 ^ (e - 1) := by
      obtain ⟨d, rfl⟩ : ∃ d, e = d + 1 := ⟨e - 1, by omega⟩
      refine Nb_at (E := d) (M := f + 4503599627370496) ?_ (by clear hW ho he he2 e0; omega) (.inr (Nat.le_add_left _ _))
      rw [hW]; unfold W
      rw [Nat.zero_mul, Nat.zero_add, Nat.add_mul, Nat.one_mul, Nat.add_assoc, Nat.add_comm f]
    have hV : V 0 e f = (1, false, ((f + 4503599627370496 : Nat) : Int), (e : Int) - 1075) := by unfold V; rw [if_neg (by omega), if_neg e0]; rfl
    rw [hV] at ho
    have hm : f + 4503599627370496 < 18446744073709551616 := by clear hN hW ho hV; omega
    generalize f + 4503599627370496 = M at *
    have l1 := dn_small hm
    by_cases hx : 1075 ≤ e
    · obtain ⟨d, hd⟩ : ∃ d, e = 1075 + d := ⟨e - 1075, by omega⟩
      have h := rdec_up (m := M) (c := d) hm (by omega)
      have l2 := dn_two M d
      refine ⟨1, M, (e : Int) - 1075, M * 2 ^ d, 0, by decide, ho, ?_, Nat.zero_le _, by omega, ?_⟩
      · rw [show (e : Int) - 1075 = (d : Int) by omega]; exact h
      · rw [hN, Nat.pow_zero, Nat.mul_one, Nat.mul_assoc, ← Nat.pow_add, show d + K = e - 1 by omega]
    · obtain ⟨d, hd⟩ : ∃ d, d + e = 1075 := ⟨1075 - e, by omega⟩
      have h := rdec_down (m := M) (c := d) hm (by omega)
      have l2 := dn_five M d
      refine ⟨1, M, (e : Int) - 1075, M * 5 ^ d, d, by decide, ho, ?_, by omega, by omega, ?_⟩
      · rw [show (e : Int) - 1075 = -(d : Int) by omega]; exact h
      · rw [hN, ten, show K = e - 1 + d by omega, Nat.pow_add]; grind
theorem cmp_both {A B a b s t : Nat} (hs : 0 < s) (ht : 0 < t) (hA : A * s = a * t) (hB : B * s = b * t) : cmpI A B = cmpI a b := by
  have h1 : A < B ↔ a < b := by rw [← Nat.mul_lt_mul_right (b := A) hs, hA, hB, Nat.mul_lt_mul_right ht]
  have h2 : B < A ↔ b < a := by rw [← Nat.mul_lt_mul_right (b := B) hs, hA, hB, Nat.mul_lt_mul_right ht]
  unfold cmpI
  by_cases c : A < B
  · rw [if_pos c, if_pos (h1.mp c)]
  · rw [if_neg c, if_neg (fun h => c (h1.mpr h))]
    by_cases c2 : B < A
    · rw [if_pos c2, if_pos (h2.mp c2)]
    · rw [if_neg c2, if_neg (fun h => c2 (h2.mpr h))]
theorem mxI_nat (a b : Nat) : mxI (a : Int) (b : Int) = ((max a b : Nat) : Int) := by unfold mxI; split <;> omega
end Go.Proofs.Ytjkhkmcmnnhmcaa.F
