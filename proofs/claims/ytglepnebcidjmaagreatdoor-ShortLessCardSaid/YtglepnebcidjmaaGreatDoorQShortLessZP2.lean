/- The value of 64 bits, as a quotient and as the document's decimals; decimals that are cut off. -/
import Derived.Test.YtglepnebcidjmaaGreatDoorQShortLessZP1
namespace Go.Proofs.YtglepnebcidjmaaGreatDoor.F
open Go Go.Proofs.YtglepnebcidjmaaGreatDoor.E
set_option linter.unusedVariables false
set_option linter.unusedSimpArgs false
theorem mnI_min (a b : Nat) : mnI (a : Int) (b : Int) = ((min a b : Nat) : Int) := by unfold mnI; split <;> omega
theorem value_tail {cl : Int} {sg : Bool} {mu : Nat} {x b : Int} {R : (List Int × List Int) × Bool} (hb : Ev (bits_Value_Bits.f (cl, sg, (mu : Int), x)) (b, true)) (hcl : cl = 0 ∨ cl = 1) (hM : mu < 18446744073709551616)
    (h : Ev (if x ≥ 0 then (M.bind (tens_Up.f (L mu) x) fun t3 => (M.bind (nat_Of.f 1) fun t4 => (M.ret ((t3, t4), true)))) else (M.bind (tens_Noughts.f (L mu)) fun t5 => (M.bind (tens_Down.f (L mu) (mnI t5 (IntKind.i64.wrap (0 - x)))) fun t6 => (M.bind (nat_Nat_Bits.f (L mu)) fun t7 => (if t7 = 0 then (M.ret ((([] : List Int), ([] : List Int)), true)) else (M.bind (nat_Of.f 1) fun t8 => (M.bind (tens_Up.f t8 (IntKind.i64.wrap ((IntKind.i64.wrap (0 - x)) - (mnI t5 (IntKind.i64.wrap (0 - x)))))) fun t9 => (M.ret ((t6.1, t9), true))))))))) R) :
    Ev (ratio_Value.f (cl, sg, (mu : Int), x)) R := by
  refine ev_eq ratio_Value.f_eq ?_
  rcases hcl with rfl | rfl
  · exact ev_neg (by simp) (Ev.bind hb (ev_neg (by simp) (Ev.bind (of_val hM) h)))
  · exact ev_pos (by simp) (ev_neg (by simp) (Ev.bind hb (ev_neg (by simp) (Ev.bind (of_val hM) h))))
theorem gcd_odd_pow {m c : Nat} (h : m % 2 = 1) : Nat.gcd m (2 ^ c) = 1 := by
  have h2 : Nat.Coprime m 2 := by
    rw [Nat.coprime_comm]
    unfold Nat.Coprime
    rw [← Nat.mod_add_div m 2, h, Nat.gcd_add_mul_left_right]
    rfl
  exact Nat.Coprime.pow_right c h2
theorem two_pow_ln {c : Nat} (hc : c ≤ 2000) : ln (2 ^ c) ≤ 70 := by
  have h1 := ln_pow2 1 c
  have h2 := ln_small (n := 1) (by decide)
  rw [Nat.one_mul] at h1
  omega
theorem value_up {cl : Int} {sg : Bool} {mu c : Nat} {x b : Int} (hb : Ev (bits_Value_Bits.f (cl, sg, (mu : Int), x)) (b, true)) (hcl : cl = 0 ∨ cl = 1) (hM : mu < 18446744073709551616) (hx : x = (c : Int)) (hc : c ≤ 2000) :
    ∃ r, RQ r (mu * 2 ^ c) 1 100 ∧ Ev (ratio_Value.f (cl, sg, (mu : Int), x)) (r, true) := by
  have l1 := ln_small hM
  have l2 := ln_pow2 mu c
  have l3 : ln 1 = 1 := by decide
  subst hx
  exact ⟨_, ⟨mu * 2 ^ c, 1, rfl, by decide, Nat.gcd_one_right _, rfl, by omega, by omega⟩, value_tail hb hcl hM (ev_pos (by omega) (Ev.bind (up (by omega) (by omega)) (Ev.bind (of_val (n := 1) (by decide)) (ev_now rfl))))⟩
theorem value_down {cl : Int} {sg : Bool} {mu c : Nat} {x b : Int} (hb : Ev (bits_Value_Bits.f (cl, sg, (mu : Int), x)) (b, true)) (hcl : cl = 0 ∨ cl = 1) (hM : mu < 18446744073709551616) (h0 : 0 < mu) (hx : x = -(c : Int)) (hc : c ≤ 2000) (hc0 : 0 < c) :
    ∃ r, RQ r mu (2 ^ c) 100 ∧ Ev (ratio_Value.f (cl, sg, (mu : Int), x)) (r, true) := by
  have l1 := ln_small hM
  obtain ⟨k, hk⟩ := tz_ex mu h0
  have hb0 := bl_pos h0
  have l4 := two_pow_ln (c := c - min k c) (by omega)
  have l5 := ln_mono (Nat.div_le_self mu (2 ^ min k c))
  have l6 : ln 1 = 1 := by decide
  have hw : IntKind.i64.wrap (0 - -(c : Int)) = (c : Int) := by rw [wrap_id (by omega) (by omega)]; omega
  have hw2 : IntKind.i64.wrap ((c : Int) - ((min k c : Nat) : Int)) = ((c - min k c : Nat) : Int) := by rw [wrap_id (by omega) (by omega)]; omega
  have hdv : 2 ^ min k c ∣ mu := Nat.dvd_of_mod_eq_zero ((hk.mod _).mpr (Nat.min_le_left _ _))
  have hu := up (n := 1) (c := c - min k c) (by omega) (by omega)
  rw [Nat.one_mul] at hu
  subst hx
  refine ⟨_, ⟨mu / 2 ^ min k c, 2 ^ (c - min k c), rfl, Nat.pow_pos (by decide), ?_, ?_, by omega, by omega⟩, value_tail hb hcl hM (ev_neg (by omega) (Ev.bind (noughts (by omega) hk) ?_))⟩
  · rcases Nat.le_total k c with h | h
    · rw [Nat.min_eq_left h]
      exact gcd_odd_pow hk.div
    · rw [Nat.min_eq_right h, Nat.sub_self, Nat.pow_zero, Nat.gcd_one_right]
  · obtain ⟨z, hz⟩ := hdv
    rw [hz, Nat.mul_div_cancel_left _ (Nat.pow_pos (by decide)), Nat.mul_right_comm, ← Nat.pow_add, show min k c + (c - min k c) = c by omega, Nat.mul_comm]
  · rw [hw, mnI_min, hw2]
    exact Ev.bind (down (by omega) (by omega)) (Ev.bind (nbits (by omega)) (ev_neg (by omega) (Ev.bind (of_val (n := 1) (by decide)) (Ev.bind hu (ev_now rfl)))))
/-- The value of bits that are finite or nought: n over d of the program, p with pk places of the document. -/
theorem val64N {s e f : Nat} (hs : s ≤ 1) (he : e < 2047) (hf : f < 4503599627370496) : ∃ (cl m x : Int) (r : List Int × List Int) (n d p pk : Nat), V s e f = (cl, decide (s = 1), m, x) ∧ (cl = 0 ∨ cl = 1) ∧ (cl = 0 ↔ n = 0) ∧ (e = 0 ∧ f = 0 ↔ n = 0) ∧ 0 < d ∧ RQ r n d 100 ∧ ln n ≤ 100 ∧ ln d ≤ 100 ∧
    Ev (ratio_Value.f (V s e f)) (r, true) ∧ Ev (numeraryref07_Decimals.f m x) (D p, (pk : Int)) ∧ pk ≤ 1074 ∧ dn p ≤ 4000 ∧ p * d = n * 10 ^ pk ∧ (pk = 0 ∨ d = 2 ^ pk) ∧ (d = 1 ∨ d = 2 ^ pk) ∧ (pk = 0 → d = 1) ∧ ∀ J : Nat, J = 1074 → n * 2 ^ J = (if e = 0 then f else (f + 4503599627370496) * 2 ^ (e - 1)) * d := by
  have hb := value_bits hs (show e < 2048 by omega) hf (.inl (by omega))
  have ten : ∀ j : Nat, (10 : Nat) ^ j = 5 ^ j * 2 ^ j := fun j => by rw [← Nat.mul_pow]
  have hl1 : ln 1 = 1 := by decide
  by_cases e0 : e = 0
  · by_cases f0 : f = 0
    · have hV : V s e f = (0, decide (s = 1), ((0 : Nat) : Int), ((0 : Nat) : Int)) := by unfold V; rw [if_neg (by omega), if_pos e0, if_pos f0]; rfl
      rw [hV] at hb ⊢
      obtain ⟨r, hr, hv⟩ := value_up (c := 0) hb (.inl rfl) (by decide) rfl (by decide)
      have hd := rdec_up (m := 0) (c := 0) (by decide) (by decide)
      rw [Nat.zero_mul] at hd hr
      exact ⟨_, _, _, r, 0, 1, 0, 0, rfl, .inl rfl, by simp, by simp [e0, f0], by decide, hr, by decide, by decide, hv, hd, by decide, Nat.le_trans (dn_small (n := 0) (by decide)) (by decide), by decide, .inl rfl, .inl rfl, fun _ => rfl, fun J _ => by rw [if_pos e0, f0, Nat.zero_mul, Nat.zero_mul]⟩
    · obtain ⟨K, hK⟩ : ∃ K : Nat, K = 1074 := ⟨_, rfl⟩
      have hV : V s e f = (1, decide (s = 1), (f : Int), -(K : Int)) := by unfold V; rw [if_neg (by omega), if_pos e0, if_neg f0, hK]; rfl
      rw [hV] at hb ⊢
      obtain ⟨r, hr, hv⟩ := value_down (c := K) hb (.inr rfl) (by omega) (by omega) rfl (by omega) (by omega)
      have hd := rdec_down (m := f) (c := K) (by omega) (by omega)
      have l1 := dn_small (n := f) (by omega)
      have l2 := dn_five f K
      have l3 := ln_small (n := f) (by omega)
      have l4 := two_pow_ln (c := K) (by omega)
      refine ⟨_, _, _, r, f, 2 ^ K, f * 5 ^ K, K, rfl, .inr rfl, ⟨fun h => absurd h (by decide), fun h => absurd h f0⟩, ⟨fun h => h.2, fun h => ⟨e0, h⟩⟩, Nat.pow_pos (by decide), hr, by omega, by omega, hv, hd, by omega, by omega, ?_, .inr rfl, .inr rfl, fun h => by omega, fun J hJ => by rw [if_pos e0, show J = K by omega]⟩
      rw [ten, Nat.mul_assoc]
  · have hV : V s e f = (1, decide (s = 1), ((f + 4503599627370496 : Nat) : Int), (e : Int) - 1075) := by unfold V; rw [if_neg (by omega), if_neg e0]
    rw [hV] at hb ⊢
    have hm : f + 4503599627370496 < 18446744073709551616 := by omega
    have hm0 : 0 < f + 4503599627370496 := by omega
    clear hV
    generalize f + 4503599627370496 = mu at *
    have l1 := dn_small hm
    have l3 := ln_small hm
    by_cases hx : 1075 ≤ e
    · obtain ⟨d, hd⟩ : ∃ d, e = 1075 + d := ⟨e - 1075, by omega⟩
      have h := rdec_up (m := mu) (c := d) hm (by omega)
      have l2 := dn_two mu d
      have l4 := ln_pow2 mu d
      obtain ⟨r, hr, hv⟩ := value_up (c := d) hb (.inr rfl) hm (by omega) (by omega)
      have hpos : 0 < mu * 2 ^ d := Nat.mul_pos hm0 (Nat.pow_pos (by decide))
      refine ⟨_, _, _, r, mu * 2 ^ d, 1, mu * 2 ^ d, 0, rfl, .inr rfl, ⟨fun h => absurd h (by decide), fun h => by omega⟩, ⟨fun h => absurd h.1 e0, fun h => by omega⟩, by decide, hr, by omega, by omega, hv, ?_, by decide, by omega, by rw [Nat.pow_zero], .inl rfl, .inl rfl, fun _ => rfl, fun J hJ => by rw [if_neg e0, Nat.mul_one, Nat.mul_assoc, ← Nat.pow_add, show d + J = e - 1 by omega]⟩
      rw [show (e : Int) - 1075 = (d : Int) by omega]; exact h
    · obtain ⟨d, hd⟩ : ∃ d, d + e = 1075 := ⟨1075 - e, by omega⟩
      have h := rdec_down (m := mu) (c := d) hm (by omega)
      have l2 := dn_five mu d
      have l4 := two_pow_ln (c := d) (by omega)
      obtain ⟨r, hr, hv⟩ := value_down (c := d) hb (.inr rfl) hm hm0 (by omega) (by omega) (by omega)
      refine ⟨_, _, _, r, mu, 2 ^ d, mu * 5 ^ d, d, rfl, .inr rfl, ⟨fun h => absurd h (by decide), fun h => by omega⟩, ⟨fun h => absurd h.1 e0, fun h => by omega⟩, Nat.pow_pos (by decide), hr, by omega, by omega, hv, ?_, by omega, by omega, ?_, .inr rfl, .inr rfl, fun h => by omega, fun J hJ => by rw [if_neg e0, Nat.mul_assoc, ← Nat.pow_add, show e - 1 + d = J by omega]⟩
      · rw [show (e : Int) - 1075 = -(d : Int) by omega]; exact h
      · rw [ten, Nat.mul_assoc]
theorem val64 {s e f : Nat} (hs : s ≤ 1) (he : e < 2047) (hf : f < 4503599627370496) : ∃ (cl m x : Int) (r : List Int × List Int) (n d p pk : Nat), V s e f = (cl, decide (s = 1), m, x) ∧ (cl = 0 ∨ cl = 1) ∧ (cl = 0 ↔ n = 0) ∧ (e = 0 ∧ f = 0 ↔ n = 0) ∧ 0 < d ∧ RQ r n d 100 ∧ ln n ≤ 100 ∧ ln d ≤ 100 ∧
    Ev (ratio_Value.f (V s e f)) (r, true) ∧ Ev (numeraryref07_Decimals.f m x) (D p, (pk : Int)) ∧ pk ≤ 1074 ∧ dn p ≤ 4000 ∧ p * d = n * 10 ^ pk ∧ (pk = 0 ∨ d = 2 ^ pk) ∧ (d = 1 ∨ d = 2 ^ pk) ∧ (pk = 0 → d = 1) := by
  obtain ⟨cl, m, x, r, n, d, p, pk, h1, h2, h3, h4, h5, h6, h7, h8, h9, h10, h11, h12, h13, h14, h15, h16, _⟩ := val64N hs he hf
  exact ⟨cl, m, x, r, n, d, p, pk, h1, h2, h3, h4, h5, h6, h7, h8, h9, h10, h11, h12, h13, h14, h15, h16⟩
theorem value_no {s f : Nat} : Ev (ratio_Value.f (V s 2047 f)) (([], []), false) ∧ (V s 2047 f).1 > 1 ∧ ((V s 2047 f).1 = 2 ∨ (V s 2047 f).1 = 3) := by
  unfold V
  rw [if_pos rfl]
  by_cases c : f = 0
  · rw [if_pos c]; exact ⟨ev_eq ratio_Value.f_eq (ev_pos (by simp) (ev_pos (by simp) (ev_now rfl))), by simp, .inl rfl⟩
  · rw [if_neg c]; exact ⟨ev_eq ratio_Value.f_eq (ev_pos (by simp) (ev_pos (by simp) (ev_now rfl))), by simp, .inr rfl⟩
/-! ### decimals that are cut off -/
theorem dg_drop {B : Nat} (hB : 2 ≤ B) (n m : Nat) : (dg B n).drop m = dg B (n / B ^ m) := by
  induction m generalizing n with
  | zero => simp
  | succ m ih =>
    rcases Nat.eq_zero_or_pos n with rfl | hn
    · simp [dg_zero]
    · rw [dg_pos hB hn, List.drop_succ_cons, ih, Nat.div_div_eq_div_mul, Nat.pow_succ, Nat.mul_comm]
theorem D_drop (n m : Nat) : (D n).drop m = D (n / 10 ^ m) := by
  unfold D; rw [nl_drop, dg_drop (by decide)]
theorem gd_dg {B : Nat} (hB : 2 ≤ B) (n i : Nat) : gd (dg B n) i = n / B ^ i % B := by
  have h : gd (dg B n) i = gd ((dg B n).drop i) 0 := by rw [gd_drop, Nat.add_zero]
  rw [h, dg_drop hB]
  rcases Nat.eq_zero_or_pos (n / B ^ i) with h0 | h0
  · rw [h0, Nat.zero_mod]; rfl
  · rw [dg_pos hB h0]; rfl
/-- Rounded off by so many digits. -/
theorem near_pow {n m : Nat} (hm : 0 < m) : near n (10 ^ m) = n / 10 ^ m + (if 5 ≤ n / 10 ^ (m - 1) % 10 then 1 else 0) := by
  obtain ⟨k, rfl⟩ : ∃ k, m = k + 1 := ⟨m - 1, by omega⟩
  have h := near_half (x := n) (y := 10 ^ (k + 1)) (Nat.pow_pos (by decide))
  rw [← h, Nat.add_sub_cancel]
  have e : n / 10 ^ (k + 1) = n / 10 ^ k / 10 := by rw [Nat.pow_succ, Nat.div_div_eq_div_mul]
  have e2 : n % 10 ^ (k + 1) = n % 10 ^ k + 10 ^ k * (n / 10 ^ k % 10) := by rw [Nat.pow_succ, Nat.mod_mul]
  have hp : 0 < 10 ^ k := Nat.pow_pos (by decide)
  have hlt := Nat.mod_lt n hp
  congr 1
  rw [e2, Nat.pow_succ]
  generalize n / 10 ^ k % 10 = q at *
  generalize n % 10 ^ k = t at *
  generalize 10 ^ k = T at *
  by_cases c : 5 ≤ q
  · rw [if_pos c, if_pos]
    have : T * 5 ≤ T * q := Nat.mul_le_mul_left _ c
    omega
  · rw [if_neg c, if_neg]
    have : T * q ≤ T * 4 := Nat.mul_le_mul_left _ (by omega)
    omega
theorem rcut {n k p : Nat} (hn : dn n ≤ 1000000) (hk : k ≤ 1000000) (hp : p ≤ 1000000) : Ev (numeraryref09_Cut.f (D n) (k : Int) (p : Int)) (D (near (n * 10 ^ p) (10 ^ k))) := by
  refine ev_eq numeraryref09_Cut.f_eq ?_
  by_cases c : k ≤ p
  · obtain ⟨m, rfl⟩ : ∃ m, p = k + m := ⟨p - k, by omega⟩
    have h : near (n * 10 ^ (k + m)) (10 ^ k) = n * 10 ^ m := by
      refine near_uniq (Nat.pow_pos (by decide)) ?_ ?_
      · have : 2 * (n * 10 ^ m) * 10 ^ k = 2 * (n * 10 ^ (k + m)) := by rw [Nat.pow_add]; grind
        rw [this]; exact Nat.le_add_right _ _
      · have : (2 * (n * 10 ^ m) + 2) * 10 ^ k = 2 * (n * 10 ^ (k + m)) + 2 * 10 ^ k := by rw [Nat.pow_add]; grind
        have hp : 0 < 10 ^ k := Nat.pow_pos (by decide)
        rw [this]
        generalize 10 ^ k = T at *
        omega
    rw [h]
    refine ev_pos (by omega) ?_
    rw [show IntKind.i64.wrap (((k + m : Nat) : Int) - (k : Int)) = (m : Int) by rw [wrap_id (by omega) (by omega)]; omega]
    exact Ev.bind (rtens_up (by omega) (by omega)) (ev_now rfl)
  · obtain ⟨m, rfl⟩ : ∃ m, k = p + (m + 1) := ⟨k - p - 1, by omega⟩
    have h : near (n * 10 ^ p) (10 ^ (p + (m + 1))) = near n (10 ^ (m + 1)) := by
      rw [Nat.pow_add]
      refine near_scale (Nat.mul_pos (Nat.pow_pos (by decide)) (Nat.pow_pos (by decide))) (Nat.pow_pos (by decide)) ?_
      grind
    rw [h, near_pow (by omega), Nat.add_sub_cancel]
    have w1 : IntKind.i64.wrap (((p + (m + 1) : Nat) : Int) - (p : Int)) = ((m + 1 : Nat) : Int) := by rw [wrap_id (by omega) (by omega)]; omega
    have w2 : IntKind.i64.wrap (((m + 1 : Nat) : Int) - 1) = (m : Int) := by rw [wrap_id (by omega) (by omega)]; omega
    rw [w1, w2, Int.toNat_natCast, D_drop, show rdI (D n) (m : Int) = ((n / 10 ^ m % 10 : Nat) : Int) by unfold D; rw [rd_nl, gd_dg (by decide)], D_length]
    have ha : dn (n / 10 ^ (m + 1)) ≤ 1000000 := Nat.le_trans (dn_mono (Nat.div_le_self _ _)) hn
    have h1 : dn 1 = 1 := by decide
    have add : Ev (numeraryref02_Add.f (D (n / 10 ^ (m + 1))) ([1] : List Int)) (D (n / 10 ^ (m + 1) + 1)) := radd_D (n := 1) (by omega) (by omega)
    refine ev_neg (by omega) ?_
    have nil : ∀ {j}, dn n ≤ j → n / 10 ^ j = 0 := fun {j} h => Nat.div_eq_of_lt (dg_len_le b10 h)
    by_cases c1 : m + 1 ≤ dn n
    · refine ev_pos (by omega) (ev_pos (by omega) (ev_pos (by omega) ?_))
      by_cases c2 : m + 1 < dn n
      · refine ev_pos (by omega) (ev_pos (by omega) (ev_pos (by omega) ?_))
        by_cases c5 : 5 ≤ n / 10 ^ m % 10
        · rw [if_pos c5]; exact ev_pos (by omega) (Ev.bind add (ev_now rfl))
        · rw [if_neg c5]; exact ev_neg (by omega) (ev_now rfl)
      · refine ev_neg (by omega) ?_
        rw [nil (show dn n ≤ m + 1 by omega)] at add ⊢
        by_cases c5 : 5 ≤ n / 10 ^ m % 10
        · rw [if_pos c5]; exact ev_pos (by omega) (Ev.bind add (ev_now rfl))
        · rw [if_neg c5]; exact ev_neg (by omega) (ev_now rfl)
    · refine ev_neg (by omega) (ev_neg (by omega) ?_)
      rw [nil (show dn n ≤ m + 1 by omega), nil (show dn n ≤ m by omega), Nat.zero_mod, if_neg (by decide)]
      exact ev_now rfl
end Go.Proofs.YtglepnebcidjmaaGreatDoor.F

/- Texts as lists of numbers; decimals. -/
namespace Go.Proofs.YtglepnebcidjmaaGreatDoor.F
open Go Go.Proofs.YtglepnebcidjmaaGreatDoor.E
set_option linter.unusedVariables false
set_option linter.unusedSimpArgs false
/-! ### texts -/
theorem S_nil : S [] = (⟨#[]⟩ : ByteArray) := rfl
theorem S_empty : ByteArray.empty = S [] := rfl
theorem S_size (l : List Nat) : (S l).size = l.length := by unfold S; show (l.map UInt8.ofNat).toArray.size = _; simp
theorem S_app (a b : List Nat) : S a ++ S b = S (a ++ b) := by
  apply ByteArray.ext
  rw [ByteArray.data_append]
  unfold S
  simp
theorem S_ext (l : List Nat) (i j : Nat) : (S l).extract i j = S ((l.take j).drop i) := by
  apply ByteArray.ext
  rw [ByteArray.data_extract]
  unfold S
  simp [List.extract_eq_take_drop, List.map_drop, List.map_take, List.take_drop]
  rw [List.drop_take, List.drop_take, show i + (j - i) - i = j - i by omega]
theorem S_ne {l : List Nat} (h : l ≠ []) : S l ≠ (⟨#[]⟩ : ByteArray) := fun e => h (by
  have : l.length = 0 := by rw [← S_size, e]; rfl
  exact List.length_eq_zero_iff.mp this)
theorem S_inj {a b : List Nat} (ha : Dg 256 a) (hb : Dg 256 b) : S a = S b ↔ a = b := ⟨fun h => by rw [← toN_S ha, ← toN_S hb, h], fun h => by rw [h]⟩
theorem S_of (s : ByteArray) : ∃ l, Dg 256 l ∧ s = S l := ⟨toN s, toN_dg s, (S_toN s).symm⟩
theorem byteAt_S {l : List Nat} (h : Dg 256 l) (i : Nat) : byteAt (S l) (i : Int) = ((gd l i : Nat) : Int) := by
  unfold byteAt S gd
  rw [Int.toNat_natCast]
  simp only [List.getD_eq_getElem?_getD, List.getElem?_map]
  cases hi : l[i]? with
  | none => rfl
  | some x =>
    have hx := h x (List.mem_of_getElem? hi)
    simp only [Option.map_some, Option.getD_some]
    rw [UInt8.toNat_ofNat', Nat.mod_eq_of_lt (by simpa using hx)]
theorem bytesOf_S {l : List Nat} (h : Dg 256 l) : bytesOf (S l) = nl l := by
  unfold bytesOf S nl
  simp only [List.map_map]
  refine List.map_congr_left fun x hx => ?_
  have := h x hx
  simp only [Function.comp, UInt8.toNat_ofNat']
  rw [Nat.mod_eq_of_lt (by simpa using this)]
  rfl
theorem strOf_nl (l : List Nat) : strOf (nl l) = S l := by
  unfold strOf S nl
  simp only [List.map_map]
  congr 2
/-! ### decimals -/
def isD (l : List Nat) : Prop := ∀ c ∈ l, 48 ≤ c ∧ c ≤ 57
def num (l : List Nat) : Nat := val 10 (l.reverse.map (· - 48))
theorem isD.dg {l : List Nat} (h : isD l) : Dg 256 l := fun x hx => by have := h x hx; omega
theorem isD.nil : isD [] := fun c h => nomatch h
theorem isD.cons {x : Nat} {l : List Nat} (h1 : 48 ≤ x ∧ x ≤ 57) (h : isD l) : isD (x :: l) := fun c hc => by
  rcases List.mem_cons.mp hc with rfl | hc
  · exact h1
  · exact h c hc
theorem isD.app {a b : List Nat} (ha : isD a) (hb : isD b) : isD (a ++ b) := fun c hc => (List.mem_append.mp hc).elim (ha c) (hb c)
theorem isD.take {l : List Nat} (h : isD l) (n : Nat) : isD (l.take n) := fun c hc => h c (List.mem_of_mem_take hc)
theorem isD.drop {l : List Nat} (h : isD l) (n : Nat) : isD (l.drop n) := fun c hc => h c (List.mem_of_mem_drop hc)
theorem isD.rep (n : Nat) : isD (List.replicate n 48) := fun c hc => by rw [List.eq_of_mem_replicate hc]; omega
theorem decs0_zero : decs0 0 = [] := rfl
theorem decs0_len (n : Nat) : (decs0 n).length = dn n := by unfold decs0 dn; simp
theorem decs0_isD (n : Nat) : isD (decs0 n) := fun c hc => by
  unfold decs0 at hc
  obtain ⟨x, hx, rfl⟩ := List.mem_map.mp hc
  have := Dg_dg (B := 10) (by decide) n x (List.mem_reverse.mp hx)
  omega
theorem decs_isD (n : Nat) : isD (decs n) := by
  unfold decs; split
  · exact isD.cons (by decide) isD.nil
  · exact decs0_isD n
theorem num_app (a b : List Nat) : num (a ++ b) = num a * 10 ^ b.length + num b := by
  unfold num
  rw [List.reverse_append, List.map_append, val_append, List.length_map, List.length_reverse]
  rw [Nat.mul_comm, Nat.add_comm]
theorem num_nil : num [] = 0 := rfl
theorem num_one (c : Nat) : num [c] = c - 48 := by simp [num, val]
theorem num_snoc (l : List Nat) (c : Nat) : num (l ++ [c]) = num l * 10 + (c - 48) := by rw [num_app, num_one]; rfl
theorem num_cons (c : Nat) (l : List Nat) : num (c :: l) = (c - 48) * 10 ^ l.length + num l := by
  have := num_app [c] l
  rwa [num_one] at this
theorem num_rep (n : Nat) : num (List.replicate n 48) = 0 := by
  induction n with
  | zero => rfl
  | succ n ih => rw [List.replicate_succ, num_cons, ih]; simp
theorem num_decs0 (n : Nat) : num (decs0 n) = n := by
  unfold num decs0
  rw [← List.map_reverse, List.reverse_reverse, List.map_map]
  have : (dg 10 n).map ((· - 48) ∘ (48 + ·)) = dg 10 n := by
    refine (List.map_congr_left fun x _ => ?_).trans (List.map_id _)
    simp
  rw [this, val_dg (by decide)]
theorem num_decs (n : Nat) : num (decs n) = n := by
  unfold decs; split
  · rename_i h; subst h; rfl
  · exact num_decs0 n
theorem num_lt {l : List Nat} (h : isD l) : num l < 10 ^ l.length := by
  have := val_lt (B := 10) (l := l.reverse.map (· - 48)) (by decide) (fun x hx => by
    obtain ⟨y, hy, rfl⟩ := List.mem_map.mp hx
    have := h y (List.mem_reverse.mp hy)
    omega)
  rw [List.length_map, List.length_reverse] at this
  exact this
/-- Decimals, with noughts ahead, of a number of at most so many. -/
def pad (k : Nat) (l : List Nat) : List Nat := List.replicate (k - l.length) 48 ++ l
theorem dg_split {q r k : Nat} (hq : 0 < q) (hr : r < 10 ^ k) : dg 10 (q * 10 ^ k + r) = dg 10 r ++ List.replicate (k - dn r) 0 ++ dg 10 q := by
  have hd : dn r ≤ k := (dg_len b10 r k).mpr hr
  have hv : val 10 (dg 10 r ++ List.replicate (k - dn r) 0 ++ dg 10 q) = q * 10 ^ k + r := by
    rw [val_append, val_append, val_replicate, val_dg b10, val_dg b10, List.length_append, List.length_replicate, show (dg 10 r).length + (k - dn r) = k by unfold dn at *; omega]
    rw [Nat.mul_zero, Nat.add_zero, Nat.mul_comm, Nat.add_comm]
  have hD : Dg 10 (dg 10 r ++ List.replicate (k - dn r) 0 ++ dg 10 q) := ((Dg_dg b10 r).append (Dg.replicate (by decide) _)).append (Dg_dg b10 q)
  have := dg_val b10 hD
  rw [hv] at this
  rw [this]
  have hlast := dg_last b10 hq
  have hl : 0 < (dg 10 q).length := by rw [dg_pos b10 hq]; simp
  generalize dg 10 r ++ List.replicate (k - dn r) 0 = u at *
  have hlen : (u ++ dg 10 q).length = u.length + ((dg 10 q).length - 1) + 1 := by rw [List.length_append]; omega
  have h2 := trim_take (l := u ++ dg 10 q) (n := (u ++ dg 10 q).length) (Nat.le_refl _) (.inr (by
    rw [hlen, Nat.add_sub_cancel, gd_append_right]
    omega)) (fun i hi => gd_ge hi)
  rw [h2, List.take_length]
theorem decs0_split {q r k : Nat} (hq : 0 < q) (hr : r < 10 ^ k) : decs0 (q * 10 ^ k + r) = decs0 q ++ (List.replicate (k - dn r) 48 ++ decs0 r) := by
  unfold decs0
  rw [dg_split hq hr]
  simp
theorem pad_decs {r k : Nat} (hk : 0 < k) : pad k (decs r) = List.replicate (k - dn r) 48 ++ decs0 r := by
  unfold pad decs
  split
  · rename_i h; subst h
    rw [decs0_zero, List.append_nil, show dn 0 = 0 from rfl]
    show List.replicate (k - 1) 48 ++ List.replicate 1 48 = _
    rw [List.replicate_append_replicate]
    congr 1
    omega
  · rw [decs0_len]
theorem dn_div {n k : Nat} (h : 10 ^ k ≤ n) : dn (n / 10 ^ k) + k = dn n := by
  have e : n = n / 10 ^ k * 10 ^ k + n % 10 ^ k := by rw [Nat.mul_comm]; exact (Nat.div_add_mod n (10 ^ k)).symm
  have hp : 0 < 10 ^ k := Nat.pow_pos (by decide)
  have hq : 0 < n / 10 ^ k := Nat.div_pos h hp
  have hs := dg_split hq (Nat.mod_lt n hp)
  rw [← e] at hs
  have hd : dn (n % 10 ^ k) ≤ k := (dg_len b10 _ k).mpr (Nat.mod_lt n hp)
  have h2 : dn n = (dg 10 n).length := rfl
  rw [h2, hs, List.length_append, List.length_append, List.length_replicate]
  unfold dn at *
  omega
theorem decs0_head {n : Nat} (h : 0 < n) : ∃ c l, decs0 n = c :: l ∧ 49 ≤ c ∧ c ≤ 57 := by
  have hl := dg_last b10 h
  have hlen : 0 < (dg 10 n).length := by rw [dg_pos b10 h]; simp
  have hd := (Dg_dg b10 n).gd (by decide) ((dg 10 n).length - 1)
  refine ⟨48 + gd (dg 10 n) ((dg 10 n).length - 1), (decs0 n).drop 1, ?_, by omega, by omega⟩
  have h0 : 0 < (decs0 n).length := by rw [decs0_len]; exact dn_pos h
  have e := List.drop_eq_getElem_cons (l := decs0 n) (i := 0) h0
  rw [List.drop_zero] at e
  refine e.trans ?_
  congr 1
  simp only [decs0, List.getElem_map, List.getElem_reverse, gd, List.getD_eq_getElem?_getD]
  rw [List.getElem?_eq_getElem (by omega)]
  rfl
theorem decs_of_pos {n : Nat} (h : 0 < n) : decs n = decs0 n := by unfold decs; rw [if_neg (by omega)]
theorem decs_len_pos (n : Nat) : 0 < (decs n).length := by
  unfold decs; split
  · decide
  · rw [decs0_len]; exact dn_pos (by omega)
theorem decs_len (n : Nat) : (decs n).length = max 1 (dn n) := by
  unfold decs; split
  · rename_i h; subst h; rfl
  · rw [decs0_len]; have := dn_pos (b := n) (by omega); omega
/-- Decimals without noughts ahead are those of their number. -/
theorem decs0_num {l : List Nat} (h : isD l) (h0 : l = [] ∨ ∃ c t, l = c :: t ∧ c ≠ 48) : decs0 (num l) = l := by
  rcases h0 with rfl | ⟨c, t, rfl, hc⟩
  · rfl
  · have hct := h c List.mem_cons_self
    have ht : isD t := fun x hx => h x (List.mem_cons_of_mem _ hx)
    have key : ∀ (t : List Nat), isD t → ∀ q, 0 < q → decs0 (q * 10 ^ t.length + num t) = decs0 q ++ t := by
      intro t ht q hq
      rw [decs0_split hq (num_lt ht)]
      congr 1
      clear hq
      induction t with
      | nil => rfl
      | cons x t ih =>
        have hx := ht x List.mem_cons_self
        have ht2 : isD t := fun y hy => ht y (List.mem_cons_of_mem _ hy)
        have ih := ih ht2
        have hlt := num_lt ht2
        rw [num_cons]
        have hdl : dn (num t) ≤ t.length := (dg_len b10 _ _).mpr hlt
        by_cases hx0 : x = 48
        · subst hx0
          rw [Nat.sub_self, Nat.zero_mul, Nat.zero_add, List.length_cons, show t.length + 1 - dn (num t) = (t.length - dn (num t)) + 1 by omega, List.replicate_succ, List.cons_append, ih]
        · have hq : 0 < x - 48 := by omega
          have hd := dg_split hq hlt
          have hdn : dn ((x - 48) * 10 ^ t.length + num t) = t.length + 1 := by
            have h2 : dn ((x - 48) * 10 ^ t.length + num t) = (dg 10 ((x - 48) * 10 ^ t.length + num t)).length := rfl
            have h3 : (dg 10 (x - 48)).length = 1 := by
              rw [dg_pos b10 hq, show (x - 48) / 10 = 0 by omega]; rfl
            rw [h2, hd, List.length_append, List.length_append, List.length_replicate, h3]
            unfold dn at *
            omega
          rw [hdn, List.length_cons, Nat.sub_self, List.replicate_zero, List.nil_append, decs0_split hq hlt, ih]
          have : decs0 (x - 48) = [x] := by
            unfold decs0
            rw [dg_pos b10 hq, show (x - 48) / 10 = 0 by omega, dg_zero]
            simp; omega
          rw [this]; rfl
    have hq : 0 < c - 48 := by omega
    have h1 : decs0 (c - 48) = [c] := by
      unfold decs0
      rw [dg_pos b10 hq, show (c - 48) / 10 = 0 by omega, dg_zero]
      simp; omega
    rw [num_cons, key t ht _ hq, h1]; rfl
/-! ### the library's -/
theorem trimLeft_S {l : List Nat} (h : Dg 256 l) : Ev (strings_TrimLeft.f (S l) (⟨#[48]⟩ : ByteArray)) (S (l.dropWhile (· == 48))) := by
  unfold strings_TrimLeft.f
  rw [toN_S h]
  exact ev_pos rfl (ev_now rfl)
theorem trimRight_S {l : List Nat} (h : Dg 256 l) (hs : l.length ≤ 9223372036854775807) : Ev (strings_TrimRight.f (S l) (⟨#[48]⟩ : ByteArray)) (S (l.reverse.dropWhile (· == 48)).reverse) := by
  unfold strings_TrimRight.f
  rw [toN_S h]
  exact ev_pos ⟨rfl, by rw [S_size]; exact hs⟩ (ev_now rfl)
theorem repeat_S {k : Nat} {K : Int} (hK : K = (k : Int)) (h : k ≤ 140737488355328) : Ev (strings_Repeat.f (⟨#[48]⟩ : ByteArray) K) (S (List.replicate k 48)) := by
  subst hK
  unfold strings_Repeat.f
  exact ev_pos ⟨rfl, by omega, by omega⟩ (ev_now (by rw [Int.toNat_natCast]))
theorem formatUint_S {n : Nat} (h : n < 18446744073709551616) : Ev (strconv_FormatUint.f (n : Int) 10) (S (decs n)) := by
  unfold strconv_FormatUint.f
  exact ev_pos ⟨rfl, by omega, by omega⟩ (ev_now (by rw [Int.toNat_natCast]))
theorem parseUint_S {l : List Nat} (h : isD l) (h1 : l.length ≤ 18) (h2 : l ≠ []) : Ev (strconv_ParseUint.f (S l) 10 64) (((num l : Nat) : Int), ()) := by
  unfold strconv_ParseUint.f
  rw [toN_S h.dg]
  exact ev_pos ⟨rfl, rfl, List.all_eq_true.mpr (fun x hx => by have := h x hx; simp; omega), h1, h2⟩ (ev_now rfl)
/-! ### digits -/
/-- Without noughts at the end. -/
def trimR (l : List Nat) : List Nat := (l.reverse.dropWhile (· == 48)).reverse
def trimL (l : List Nat) : List Nat := l.dropWhile (· == 48)
theorem trim_S {l : List Nat} (h : Dg 256 l) (hs : l.length ≤ 9223372036854775807) : Ev (digits_Trim.f (S l)) (S (trimR l)) := ev_eq digits_Trim.f_eq (Ev.bind (trimRight_S h hs) (ev_now rfl))
theorem pad_S {l : List Nat} {k : Nat} {K : Int} (hK : K = (k : Int)) (hk : k ≤ 65536) : Ev (digits_Pad.f (S l) K) (S (pad k l)) := by
  subst hK
  refine ev_eq digits_Pad.f_eq (ev_neg (by omega) ?_)
  rw [S_size]
  unfold pad
  by_cases c : k ≤ l.length
  · refine ev_pos (by omega) (ev_now ?_)
    rw [show k - l.length = 0 by omega]; rfl
  · refine ev_neg (by omega) (Ev.bind (repeat_S (k := k - l.length) (by rw [wrap_id (by omega) (by omega)]; omega) (by omega)) (ev_pos (by rw [S_size, List.length_replicate]; omega) (ev_now (S_app _ _))))
theorem pad_big {s : ByteArray} {K : Int} (hK : 65536 < K) : Ev (digits_Pad.f s K) s := ev_eq digits_Pad.f_eq (ev_pos (by omega) (ev_now rfl))
theorem pad_low {s : ByteArray} {K : Int} (hK : K ≤ (s.size : Int)) : Ev (digits_Pad.f s K) s := by
  refine ev_eq digits_Pad.f_eq ?_
  by_cases c : K > 65536
  · exact ev_pos c (ev_now rfl)
  · exact ev_neg c (ev_pos hK (ev_now rfl))
theorem plain_loop : ∀ (n : Nat) (ps : List ByteArray), ln n ≤ 1048576 → ps.length + dn n ≤ 1099511627776 →
    ∃ qs : List (List Nat), Ev (digits_plain.l0 (L n) ps) (ps ++ qs.map S) ∧ qs.reverse.flatten = decs0 n := by
  intro n
  induction n using Nat.strongRecOn with
  | _ n ih =>
    intro ps hl hp
    rcases Nat.eq_zero_or_pos n with rfl | hn
    · exact ⟨[], ev_loop digits_plain.l0_eq digits_plain.l0_step (Ev.bind (nbits (n := 0) (by omega)) (ev_neg (by decide) (ev_now (by simp)))), rfl⟩
    · have hb := bl_pos hn
      have hlt : n / 10 ^ 9 < n := Nat.div_lt_self hn (by decide)
      have hr : n % 10 ^ 9 < 10 ^ 9 := Nat.mod_lt _ (by decide)
      have h9 : ln (10 ^ 9) ≤ 2 := ln_small (by decide)
      have hlq := ln_mono (Nat.le_of_lt hlt)
      have hdq := dn_mono (Nat.le_of_lt hlt)
      have hdn := dn_pos hn
      have hdv := qdiv (a := n) (b := 10 ^ 9) (by decide) (by omega) (by omega)
      have hsm := nsmall (n := n % 10 ^ 9) (by omega)
      have hfm := formatUint_S (n := n % 10 ^ 9) (by omega)
      have hbq := nbits (n := n / 10 ^ 9) (by omega)
      have go : ∀ {R}, Ev (if ((bl (n / 10 ^ 9) : Nat) : Int) > 0 then (M.bind (digits_Pad.f (S (decs (n % 10 ^ 9))) 9) fun t7 => (if ps.length + ([t7] : List ByteArray).length ≤ 1099511627776 then (digits_plain.l0 (L (n / 10 ^ 9)) (ps ++ ([t7] : List ByteArray))) else M.none)) else (if ps.length + ([S (decs (n % 10 ^ 9))] : List ByteArray).length ≤ 1099511627776 then (digits_plain.l0 (L (n / 10 ^ 9)) (ps ++ ([S (decs (n % 10 ^ 9))] : List ByteArray))) else M.none)) R → Ev (digits_plain.l0 (L n) ps) R := fun h =>
        ev_loop digits_plain.l0_eq digits_plain.l0_step (Ev.bind (nbits (by omega)) (ev_pos (by omega) (Ev.bind (ten (c := 9) (by decide)) (Ev.bind hdv (Ev.bind hsm (Ev.bind hfm (Ev.bind hbq h)))))))
      by_cases hq : n / 10 ^ 9 = 0
      · have hn9 : n < 10 ^ 9 := by
          rcases Nat.lt_or_ge n (10 ^ 9) with h | h
          · exact h
          · have := Nat.div_pos h (show 0 < 10 ^ 9 by decide); omega
        rw [hq] at go
        have hm : n % 10 ^ 9 = n := Nat.mod_eq_of_lt hn9
        rw [hm] at go
        refine ⟨[decs0 n], go (ev_neg (by decide) (ev_pos (by simp; omega) ?_)), by simp⟩
        have : Ev (digits_plain.l0 (L 0) (ps ++ [S (decs n)])) (ps ++ [S (decs n)]) := ev_loop digits_plain.l0_eq digits_plain.l0_step (Ev.bind (nbits (n := 0) (by decide)) (ev_neg (by decide) (ev_now rfl)))
        rw [decs_of_pos hn] at this ⊢
        exact this
      · have hq0 : 0 < n / 10 ^ 9 := by omega
        have hbq0 := bl_pos hq0
        have h10 : 10 ^ 9 ≤ n := by
          rcases Nat.lt_or_ge n (10 ^ 9) with h | h
          · have := Nat.div_eq_of_lt h; omega
          · exact h
        have hdd := dn_div h10
        obtain ⟨qs, hqs, hfl⟩ := ih (n / 10 ^ 9) hlt (ps ++ [S (pad 9 (decs (n % 10 ^ 9)))]) (by omega) (by rw [List.length_append]; show ps.length + 1 + _ ≤ _; omega)
        refine ⟨pad 9 (decs (n % 10 ^ 9)) :: qs, go (ev_pos (by omega) (Ev.bind (pad_S (k := 9) rfl (by decide)) (ev_pos (by simp; omega) ?_))), ?_⟩
        · simpa using hqs
        · rw [List.reverse_cons, List.flatten_append, hfl, pad_decs (by decide)]
          have e : n = n / 10 ^ 9 * 10 ^ 9 + n % 10 ^ 9 := by rw [Nat.mul_comm]; exact (Nat.div_add_mod n (10 ^ 9)).symm
          have := decs0_split hq0 hr
          rw [← e] at this
          rw [this]; simp
theorem joinL_S (qs : List (List Nat)) : joinL (qs.map S) = qs.reverse.flatten.map UInt8.ofNat := by
  unfold joinL S
  rw [← List.map_reverse, List.map_map, List.map_flatten]
  congr 1
theorem plain_ok {n : Nat} (hl : ln n ≤ 1048576) (hd : dn n ≤ 1000000000) : Ev (digits_plain.f (L n)) (S (decs0 n)) := by
  obtain ⟨qs, h1, h2⟩ := plain_loop n [] hl (by simp; omega)
  have h3 : Ev (digits_plain.parts (L n)) (qs.map S) := ev_eq digits_plain.parts_eq (by simpa using h1)
  refine Ev.bind h3 ?_
  unfold joined
  rw [joinL_S, h2]
  exact ev_pos (by rw [List.length_map, decs0_len]; omega) (ev_now rfl)
theorem halves_fuel : ∀ (k n : Nat), dn n < k → ln n ≤ 1048576 → dn n ≤ 1000000000 → Ev (digits_halves.fuel k (L n)) (S (decs0 n)) := by
  intro k
  induction k with
  | zero => intro n h; omega
  | succ k ih =>
    intro n hk hl hd
    have hL := limbs_L (n := n) (by omega)
    show Ev (digits_halves.step (digits_halves.fuel k) (L n)) _
    refine ev_eq digits_halves.step_eq (Ev.bind hL ?_)
    rw [L_length]
    by_cases c : ln n ≤ 40
    · exact ev_pos (by omega) (Ev.bind (plain_ok hl hd) (ev_now rfl))
    · have hw : IntKind.i64.wrap ((IntKind.i64.wrap (((ln n : Nat) : Int) * 9)).tdiv 2) = ((ln n * 9 / 2 : Nat) : Int) := by
        rw [wrap_id (x := ((ln n : Nat) : Int) * 9) (by omega) (by omega), show ((ln n : Nat) : Int) * 9 = ((ln n * 9 : Nat) : Int) by omega, Int.tdiv_eq_ediv_of_nonneg (by omega), wrap_id (by omega) (by omega)]
        omega
      rw [hw]
      refine ev_neg (by omega) ?_
      obtain ⟨j, hj⟩ : ∃ j, ln n * 9 / 2 = j := ⟨_, rfl⟩
      rw [hj]
      have hj2 : j ≤ 4718592 := by omega
      have hp : 0 < 10 ^ j := Nat.pow_pos (by decide)
      have hlt := ln_pow10 j
      have hlq := ln_mono (Nat.div_le_self n (10 ^ j))
      have hlr := ln_mono (Nat.mod_le n (10 ^ j))
      have hdq := dn_mono (Nat.div_le_self n (10 ^ j))
      have hdr := dn_mono (Nat.mod_le n (10 ^ j))
      have hdv := qdiv (a := n) (b := 10 ^ j) hp (by omega) (by omega)
      refine Ev.bind (ten (by omega)) (Ev.bind hdv (Ev.bind (nbits (by omega)) ?_))
      by_cases hq : n / 10 ^ j = 0
      · rw [hq]
        exact ev_pos (by decide) (Ev.bind (plain_ok hl hd) (ev_now rfl))
      · have hq0 : 0 < n / 10 ^ j := Nat.pos_of_ne_zero hq
        have hbq := bl_pos hq0
        have h10 : 10 ^ j ≤ n := by
          rcases Nat.lt_or_ge n (10 ^ j) with h | h
          · have := Nat.div_eq_of_lt h; omega
          · exact h
        have hdd := dn_div h10
        have hrl : dn (n % 10 ^ j) ≤ j := (dg_len b10 _ j).mpr (Nat.mod_lt n hp)
        have hq1 := dn_pos hq0
        refine ev_neg (by omega) (Ev.bind (ih (n % 10 ^ j) (by omega) (by omega) (by omega)) (Ev.bind (ih (n / 10 ^ j) (by omega) (by omega) (by omega)) ?_))
        rw [S_size, decs0_len]
        refine Ev.bind (repeat_S (k := j - dn (n % 10 ^ j)) (by rw [wrap_id (by omega) (by omega)]; omega) (by omega)) ?_
        have e : n = n / 10 ^ j * 10 ^ j + n % 10 ^ j := by rw [Nat.mul_comm]; exact (Nat.div_add_mod n (10 ^ j)).symm
        have hs := decs0_split hq0 (Nat.mod_lt n hp)
        rw [← e] at hs
        refine ev_pos (by rw [S_size, S_size, decs0_len, List.length_replicate]; omega) (ev_pos (by rw [S_app, S_size, List.length_append, decs0_len, List.length_replicate]; omega) (ev_now ?_))
        rw [S_app, S_app, hs, List.append_assoc]
theorem text_ok {n : Nat} (hl : ln n ≤ 1048576) (hd : dn n ≤ 1000000000) : Ev (digits_Text.f (L n)) (S (decs n)) := by
  refine ev_eq digits_Text.f_eq (Ev.bind (nbits (by omega)) ?_)
  rcases Nat.eq_zero_or_pos n with rfl | hn
  · exact ev_pos (by decide) (ev_now rfl)
  · have := bl_pos hn
    refine ev_neg (by omega) (Ev.bind ?_ (ev_now rfl))
    rw [decs_of_pos hn]
    exact ⟨⟨dn n + 1, (halves_fuel (dn n + 1) n (by omega) hl hd).out⟩⟩
theorem count_ok {n : Nat} (hl : ln n ≤ 1048576) (hd : dn n ≤ 1000000000) : Ev (digits_Count.f (L n)) ((max 1 (dn n) : Nat) : Int) :=
  ev_eq digits_Count.f_eq (Ev.bind (text_ok hl hd) (ev_now (by rw [S_size, decs_len])))
theorem digit_ok (c : Nat) : Ev (digits_digit.f (c : Int)) (decide (48 ≤ c ∧ c ≤ 57)) := by
  refine ev_eq digits_digit.f_eq ?_
  by_cases h : 48 ≤ c
  · exact ev_pos (by omega) (ev_now (decide_eq_decide.mpr (by omega)))
  · exact ev_neg (by omega) (ev_now (decide_eq_false (by omega)).symm)
theorem parse_chunks : ∀ (l : List Nat) (m : Nat) (x2 : List Int), isD l → ln m + l.length ≤ 1000000 → Ev (digits_Parse.l1 (S l) x2 (L m)) (L (m * 10 ^ l.length + num l), true) := by
  intro l
  induction hk : l.length using Nat.strongRecOn generalizing l with
  | _ k ih =>
    intro m x2 hD hb
    subst hk
    cases l with
    | nil => exact ev_loop digits_Parse.l1_eq digits_Parse.l1_step (ev_neg (by rw [S_nil]; simp) (ev_now (by simp [num_nil])))
    | cons c t =>
      generalize hl : c :: t = l at *
      have hlen : 0 < l.length := by rw [← hl]; simp
      have hmn : mnI ((l.length : Nat) : Int) 9 = ((min l.length 9 : Nat) : Int) := mnI_min l.length 9
      refine ev_loop digits_Parse.l1_eq digits_Parse.l1_step ?_
      rw [S_size, hmn, Int.toNat_natCast, S_ext, S_ext, List.drop_zero, List.take_length]
      have hn1 : S l ≠ (⟨#[]⟩ : ByteArray) := S_ne (fun h => by rw [h] at hlen; simp at hlen)
      have e9 : (10 : Nat) ^ 9 = 1000000000 := by decide
      have hk9 : min l.length 9 ≤ 9 := Nat.min_le_right _ _
      have htk : (l.take (min l.length 9)).length = min l.length 9 := by rw [List.length_take]; omega
      have hdt := hD.take (min l.length 9)
      have hnl := num_lt hdt
      rw [htk] at hnl
      have hp9 : 10 ^ min l.length 9 ≤ 10 ^ 9 := Nat.pow_le_pow_right (by decide) hk9
      have hsm : num (l.take (min l.length 9)) < 18446744073709551616 := by omega
      have l1 := ln_small hsm
      have l2 : ln (10 ^ min l.length 9) ≤ 2 := ln_small (by omega)
      have l3 := ln_mul m (10 ^ min l.length 9)
      have l4 := ln_add (m * 10 ^ min l.length 9) (num (l.take (min l.length 9)))
      have e : l = l.take (min l.length 9) ++ l.drop (min l.length 9) := (List.take_append_drop _ _).symm
      have hdl : (l.drop (min l.length 9)).length = l.length - min l.length 9 := List.length_drop
      have h10 : m * 10 ^ min l.length 9 + num (l.take (min l.length 9)) = m * 10 ^ min l.length 9 + num (l.take (min l.length 9)) := rfl
      have lb : ln (m * 10 ^ min l.length 9 + num (l.take (min l.length 9))) ≤ ln m + 1 := by
        have h1 : m < 4294967296 ^ ln m := dg_lt b32 m
        have h2 : m * 10 ^ min l.length 9 + num (l.take (min l.length 9)) < 4294967296 ^ (ln m + 1) := by
          have h3 : (m + 1) * 10 ^ min l.length 9 ≤ 4294967296 ^ ln m * 10 ^ min l.length 9 := Nat.mul_le_mul_right _ h1
          have h4 : 4294967296 ^ ln m * 10 ^ min l.length 9 ≤ 4294967296 ^ ln m * 4294967296 := Nat.mul_le_mul_left _ (by omega)
          rw [Nat.pow_succ]
          rw [Nat.add_mul, Nat.one_mul] at h3
          omega
        exact (dg_len b32 _ _).mpr h2
      have hih := ih (l.drop (min l.length 9)).length (by omega) (l.drop (min l.length 9)) rfl (m * 10 ^ min l.length 9 + num (l.take (min l.length 9))) x2 (hD.drop _) (by omega)
      refine ev_pos hn1 (ev_pos (by omega) (ev_pos (by omega) (Ev.bind (parseUint_S hdt (by omega) (fun h => by rw [h] at htk; simp at htk; omega)) (Ev.bind (ten (by omega)) (Ev.bind (nmul (by omega) (by omega)) (Ev.bind (of_val hsm) (Ev.bind (nadd (by omega) (by omega)) (ev_pos (by omega) (ev_pos (by omega) ?_)))))))))
      have fin : (m * 10 ^ min l.length 9 + num (l.take (min l.length 9))) * 10 ^ (l.drop (min l.length 9)).length + num (l.drop (min l.length 9)) = m * 10 ^ l.length + num l := by
        have e1 : num l = num (l.take (min l.length 9)) * 10 ^ (l.drop (min l.length 9)).length + num (l.drop (min l.length 9)) := by
          rw [← num_app, List.take_append_drop]
        have e2 : 10 ^ l.length = 10 ^ min l.length 9 * 10 ^ (l.drop (min l.length 9)).length := by rw [← Nat.pow_add, hdl]; congr 1; omega
        rw [e1, e2, Nat.add_mul, Nat.mul_assoc]; omega
      rw [fin] at hih
      exact hih
theorem parse_ok {l : List Nat} (h : isD l) (h0 : l ≠ []) (hb : l.length ≤ 900000) : Ev (digits_Parse.f (S l)) (L (num l), true) := by
  refine ev_eq digits_Parse.f_eq (ev_neg (S_ne h0) ?_)
  rw [bytesOf_S h.dg, nl_length]
  have loop : ∀ k i, i + k = l.length → Ev (digits_Parse.l0 (S l) ([] : List Int) (nl l) (l.length : Int) (i : Int)) (L (num l), true) := by
    intro k
    induction k with
    | zero =>
      intro i hi
      refine ev_loop digits_Parse.l0_eq digits_Parse.l0_step (ev_neg (by omega) ?_)
      have := parse_chunks l 0 [] h (by rw [show ln 0 = 0 from rfl]; omega)
      rw [Nat.zero_mul, Nat.zero_add] at this
      exact this
    | succ k ih =>
      intro i hi
      have hc : 48 ≤ gd l i ∧ gd l i ≤ 57 := h _ (by
        unfold gd; rw [List.getD_eq_getElem?_getD, List.getElem?_eq_getElem (by omega)]
        exact List.getElem_mem _)
      refine ev_loop digits_Parse.l0_eq digits_Parse.l0_step (ev_pos (by omega) (ev_pos (by omega) (ev_pos (by rw [nl_length]; omega) ?_)))
      rw [rd_nl]
      refine Ev.bind (digit_ok _) (ev_neg (by simp [hc]) ?_)
      rw [show IntKind.i64.wrap ((i : Int) + 1) = ((i + 1 : Nat) : Int) by rw [wrap_id (by omega) (by omega)]; omega]
      exact ih (i + 1) (by omega)
  exact loop l.length 0 (by omega)
theorem parse_bad {l : List Nat} (hd : Dg 256 l) (h : ¬ isD l) (hb : l.length ≤ 900000) : Ev (digits_Parse.f (S l)) ([], false) := by
  have h0 : l ≠ [] := fun e => h (by subst e; exact isD.nil)
  obtain ⟨i, hi, hbad, hpre⟩ : ∃ i, i < l.length ∧ ¬(48 ≤ gd l i ∧ gd l i ≤ 57) ∧ ∀ j, j < i → 48 ≤ gd l j ∧ gd l j ≤ 57 := by
    clear hd hb h0
    induction l with
    | nil => exact absurd isD.nil h
    | cons c t ih =>
      by_cases hc : 48 ≤ c ∧ c ≤ 57
      · obtain ⟨i, h1, h2, h3⟩ := ih (fun ht => h (isD.cons hc ht))
        refine ⟨i + 1, by simp; omega, h2, fun j hj => ?_⟩
        cases j with
        | zero => exact hc
        | succ j => exact h3 j (by omega)
      · exact ⟨0, by simp, hc, fun j hj => by omega⟩
  refine ev_eq digits_Parse.f_eq (ev_neg (S_ne h0) ?_)
  rw [bytesOf_S hd, nl_length]
  have loop : ∀ k j, j + k = i → Ev (digits_Parse.l0 (S l) ([] : List Int) (nl l) (l.length : Int) (j : Int)) ([], false) := by
    intro k
    induction k with
    | zero =>
      intro j hj
      obtain rfl : j = i := by omega
      refine ev_loop digits_Parse.l0_eq digits_Parse.l0_step (ev_pos (by omega) (ev_pos (by omega) (ev_pos (by rw [nl_length]; omega) ?_)))
      rw [rd_nl]
      exact Ev.bind (digit_ok _) (ev_pos (by simp; omega) (ev_now rfl))
    | succ k ih =>
      intro j hj
      have hc := hpre j (by omega)
      refine ev_loop digits_Parse.l0_eq digits_Parse.l0_step (ev_pos (by omega) (ev_pos (by omega) (ev_pos (by rw [nl_length]; omega) ?_)))
      rw [rd_nl]
      refine Ev.bind (digit_ok _) (ev_neg (by simp [hc]) ?_)
      rw [show IntKind.i64.wrap ((j : Int) + 1) = ((j + 1 : Nat) : Int) by rw [wrap_id (by omega) (by omega)]; omega]
      exact ih (j + 1) (by omega)
  exact loop i 0 (by omega)
theorem parse_none : Ev (digits_Parse.f (S [])) ([], false) := ev_eq digits_Parse.f_eq (ev_pos rfl (ev_now rfl))
end Go.Proofs.YtglepnebcidjmaaGreatDoor.F

/- Layer 6: what the laws' own helpers come to. -/
namespace Go.Proofs.YtglepnebcidjmaaGreatDoor.F
open Go Go.Proofs.YtglepnebcidjmaaGreatDoor.E
set_option linter.unusedVariables false
set_option linter.unusedSimpArgs false
theorem decs0_lit {l : List Nat} {n : Nat} (h : isD l) (h0 : l = [] ∨ ∃ c t, l = c :: t ∧ c ≠ 48) (hn : num l = n) : decs0 n = l := by subst hn; exact decs0_num h h0
theorem decs_lit {l : List Nat} {n : Nat} (h : isD l) (h0 : ∃ c t, l = c :: t ∧ c ≠ 48) (hn : num l = n) (hp : n ≠ 0) : decs n = l := by
  rw [decs_of_pos (by omega)]; exact decs0_lit h (.inr h0) hn
theorem trimR_snoc (l : List Nat) (c : Nat) : trimR (l ++ [c]) = if c = 48 then trimR l else l ++ [c] := by
  unfold trimR
  rw [List.reverse_append]
  show (List.dropWhile _ (c :: l.reverse)).reverse = _
  rw [List.dropWhile_cons]
  by_cases h : c = 48
  · subst h; simp
  · simp [h]
theorem trimR_nil : trimR [] = [] := rfl
theorem trimR_rep (l : List Nat) (k : Nat) : trimR (l ++ List.replicate k 48) = trimR l := by
  induction k with
  | zero => simp
  | succ k ih => rw [List.replicate_succ', ← List.append_assoc, trimR_snoc, if_pos rfl, ih]
theorem snocRec {P : List Nat → Prop} (h0 : P []) (h1 : ∀ l c, P l → P (l ++ [c])) (l : List Nat) : P l := by
  have : ∀ m : List Nat, P m.reverse := by
    intro m
    induction m with
    | nil => exact h0
    | cons x m ih => rw [List.reverse_cons]; exact h1 _ _ ih
  have := this l.reverse
  rwa [List.reverse_reverse] at this
theorem trimR_spec (l : List Nat) : ∃ k, l = trimR l ++ List.replicate k 48 ∧ (trimR l = [] ∨ ∃ t c, trimR l = t ++ [c] ∧ c ≠ 48) := by
  refine snocRec (P := fun l => ∃ k, l = trimR l ++ List.replicate k 48 ∧ (trimR l = [] ∨ ∃ t c, trimR l = t ++ [c] ∧ c ≠ 48)) ?_ (fun l c ih => ?_) l
  · exact ⟨0, rfl, .inl rfl⟩
  · rw [trimR_snoc]
    by_cases h : c = 48
    · subst h
      obtain ⟨k, h1, h2⟩ := ih
      rw [if_pos rfl]
      refine ⟨k + 1, ?_, h2⟩
      rw [List.replicate_succ', ← List.append_assoc, ← h1]
    · rw [if_neg h]
      exact ⟨0, by simp, .inr ⟨l, c, rfl, h⟩⟩
theorem trimR_le (l : List Nat) : (trimR l).length ≤ l.length := by
  obtain ⟨k, h, _⟩ := trimR_spec l
  have := congrArg List.length h
  rw [List.length_append] at this
  omega
theorem trimR_dg {B : Nat} {l : List Nat} (h : Dg B l) : Dg B (trimR l) := fun x hx => by
  obtain ⟨k, h1, _⟩ := trimR_spec l
  exact h x (by rw [h1]; exact List.mem_append_left _ hx)
theorem trimR_take (l : List Nat) : l.take (trimR l).length = trimR l := by
  obtain ⟨k, h1, _⟩ := trimR_spec l
  calc l.take (trimR l).length = (trimR l ++ List.replicate k 48).take (trimR l).length := by rw [← h1]
    _ = trimR l := List.take_left
theorem trimR_idem (l : List Nat) : trimR (trimR l) = trimR l := by
  obtain ⟨k, h1, h2⟩ := trimR_spec l
  rcases h2 with h2 | ⟨t, c, h2, hc⟩
  · rw [h2]; rfl
  · rw [h2, trimR_snoc, if_neg hc]
end Go.Proofs.YtglepnebcidjmaaGreatDoor.F

/- Rounding to places, and to digits: the program's and the document's. -/
namespace Go.Proofs.YtglepnebcidjmaaGreatDoor.F
open Go Go.Proofs.YtglepnebcidjmaaGreatDoor.E
set_option linter.unusedVariables false
set_option linter.unusedSimpArgs false
theorem decs0_step {m : Nat} (h : 0 < m) : decs0 m = decs0 (m / 10) ++ [48 + m % 10] := by
  unfold decs0
  rw [dg_pos b10 h]; simp
/-- The document's decimals. -/
theorem rtext {n : Nat} (hd : dn n ≤ 1000000000) : Ev (numeraryref02_Text.f (D n)) (S (decs n)) := by
  refine ev_eq numeraryref02_Text.f_eq ?_
  rw [D_length]
  rcases Nat.eq_zero_or_pos n with rfl | hn
  · exact ev_pos (by decide) (ev_now rfl)
  · have hdn := dn_pos hn
    refine ev_neg (by omega) ?_
    rw [decs_of_pos hn]
    have loop : ∀ i, i ≤ dn n → Ev (numeraryref02_Text.l0 (D n) (S (decs0 (n / 10 ^ i))) ((i : Int) - 1)) (S (decs0 n)) := by
      intro i
      induction i with
      | zero =>
        intro _
        rw [Nat.pow_zero, Nat.div_one]
        exact ev_loop numeraryref02_Text.l0_eq numeraryref02_Text.l0_step (ev_neg (by omega) (ev_now rfl))
      | succ i ih =>
        intro hi
        have hp : 0 < n / 10 ^ i := by
          refine Nat.div_pos ?_ (Nat.pow_pos (by decide))
          rcases Nat.lt_or_ge n (10 ^ i) with h | h
          · have := (dg_len b10 n i).mpr h
            unfold dn at hi; omega
          · exact h
        have hd : rdI (D n) (((i + 1 : Nat) : Int) - 1) = ((n / 10 ^ i % 10 : Nat) : Int) := by
          rw [show ((i + 1 : Nat) : Int) - 1 = (i : Int) by omega]; unfold D; rw [rd_nl, gd_dg (by decide)]
        refine ev_loop numeraryref02_Text.l0_eq numeraryref02_Text.l0_step (ev_pos (by omega) (ev_pos (by omega) (ev_pos (by rw [D_length]; omega) ?_)))
        have hw : IntKind.u8.wrap (IntKind.i64.wrap (48 + ((n / 10 ^ i % 10 : Nat) : Int))) = ((48 + n / 10 ^ i % 10 : Nat) : Int) := by
          rw [wrap_id (by omega) (by omega), u8_id (by omega) (by omega)]; omega
        have hs := decs0_step hp
        rw [Nat.div_div_eq_div_mul, ← Nat.pow_succ] at hs
        have hlen : (decs0 (n / 10 ^ (i + 1))).length ≤ dn n := by rw [decs0_len]; exact dn_mono (Nat.div_le_self _ _)
        rw [hd, hw, show ([((48 + n / 10 ^ i % 10 : Nat) : Int)] : List Int) = nl [48 + n / 10 ^ i % 10] from rfl, strOf_nl, S_app, ← hs, show IntKind.i64.wrap (((i + 1 : Nat) : Int) - 1 - 1) = (i : Int) - 1 by rw [wrap_id (by omega) (by omega)]; omega]
        exact ev_pos (by rw [S_size, S_size]; show _ + 1 ≤ _; omega) (ih (by omega))
    have h := loop (dn n) (Nat.le_refl _)
    rw [show n / 10 ^ dn n = 0 from Nat.div_eq_of_lt (dg_len_le b10 (Nat.le_refl _)), decs0_zero] at h
    rw [wrap_id (by omega) (by omega)]
    exact h
/-! ### to places -/
/-- So many decimals of a number below a power of ten. -/
def tail (p r : Nat) : List Nat := List.replicate (p - dn r) 48 ++ decs0 r
theorem tail_len {p r : Nat} (h : r < 10 ^ p) : (tail p r).length = p := by
  have : dn r ≤ p := (dg_len b10 r p).mpr h
  unfold tail
  rw [List.length_append, List.length_replicate, decs0_len]; omega
theorem tail_isD (p r : Nat) : isD (tail p r) := (isD.rep _).app (decs0_isD r)
theorem num_tail (p r : Nat) : num (tail p r) = r := by unfold tail; rw [num_app, num_rep, num_decs0]; simp
theorem split10 (N p : Nat) : N / 10 ^ p * 10 ^ p + N % 10 ^ p = N := by rw [Nat.mul_comm]; exact Nat.div_add_mod N (10 ^ p)
theorem mod10_lt (N p : Nat) : N % 10 ^ p < 10 ^ p := Nat.mod_lt _ (Nat.pow_pos (by decide))
theorem pad_split (N p : Nat) : pad (p + 1) (decs N) = decs (N / 10 ^ p) ++ tail p (N % 10 ^ p) := by
  have hm := mod10_lt N p
  rcases Nat.eq_zero_or_pos (N / 10 ^ p) with hq | hq
  · have hN : N % 10 ^ p = N := by have := split10 N p; rw [hq] at this; omega
    rw [hq, hN, pad_decs (by omega)]
    rw [hN] at hm
    have hd : dn N ≤ p := (dg_len b10 N p).mpr hm
    unfold tail
    rw [show p + 1 - dn N = (p - dn N) + 1 by omega, List.replicate_succ]; rfl
  · have hs := decs0_split hq hm
    rw [split10] at hs
    have hN : 0 < N := Nat.lt_of_lt_of_le hq (Nat.div_le_self _ _)
    have hl : (decs N).length = (decs0 (N / 10 ^ p)).length + p := by
      rw [decs_of_pos hN, hs, List.length_append]
      congr 1
      exact tail_len hm
    have h0 : 0 < (decs0 (N / 10 ^ p)).length := by rw [decs0_len]; exact dn_pos hq
    unfold pad
    rw [show p + 1 - (decs N).length = 0 by omega, decs_of_pos hN, decs_of_pos hq, hs]
    rfl
theorem pad0_split (N p : Nat) : pad p (decs0 N) = decs0 (N / 10 ^ p) ++ tail p (N % 10 ^ p) := by
  have hm := mod10_lt N p
  rcases Nat.eq_zero_or_pos (N / 10 ^ p) with hq | hq
  · have hN : N % 10 ^ p = N := by have := split10 N p; rw [hq] at this; omega
    rw [hq, hN, decs0_zero]
    unfold pad tail
    rw [decs0_len]; rfl
  · have hs := decs0_split hq hm
    rw [split10] at hs
    have hl : (decs0 N).length = (decs0 (N / 10 ^ p)).length + p := by
      rw [hs, List.length_append]
      congr 1
      exact tail_len hm
    unfold pad
    rw [show p - (decs0 N).length = 0 by omega, hs]
    rfl
theorem trimL_decs (q : Nat) : trimL (decs q) = decs0 q := by
  rcases Nat.eq_zero_or_pos q with rfl | hq
  · rfl
  · rw [decs_of_pos hq]
    obtain ⟨c, t, h, h1, h2⟩ := decs0_head hq
    unfold trimL
    rw [h, List.dropWhile_cons, if_neg (by simp; omega)]
theorem near_le_of {a K d : Nat} (hd : 0 < d) (h : a ≤ K * d) : near a d ≤ K := by
  unfold near
  refine Nat.lt_succ_iff.mp (Nat.div_lt_of_lt_mul ?_)
  have : 2 * d * K.succ = 2 * (K * d) + 2 * d := by rw [Nat.succ_eq_add_one]; grind
  omega
theorem ten_ln {k : Nat} (hk : k ≤ 10000) : ln (10 ^ k) ≤ 1252 := by have := ln_pow10 k; omega
theorem dn_of_ln {n c : Nat} (h : ln n ≤ c) : dn n ≤ 10 * c := by
  refine (dg_len b10 _ _).mpr ?_
  have h1 := dg_len_le b32 h
  have h2 : 4294967296 ^ c ≤ 10 ^ (10 * c) := by
    rw [Nat.pow_mul]
    exact Nat.pow_le_pow_left (by decide) c
  omega
/-! ### the power of ten of the first digit -/
/-- 10 ^ e is the greatest power that isn't above n over d. -/
def IsE (n d : Nat) (e : Int) : Prop := ∀ u v : Nat, (u : Int) - (v : Int) = e → d * 10 ^ u ≤ n * 10 ^ v ∧ n * 10 ^ v < d * 10 ^ (u + 1)
theorem IsE.of {n d u v : Nat} {e : Int} (he : (u : Int) - (v : Int) = e) (h1 : d * 10 ^ u ≤ n * 10 ^ v) (h2 : n * 10 ^ v < d * 10 ^ (u + 1)) : IsE n d e := by
  intro x y hxy
  have key : d * 10 ^ x * 10 ^ v = d * 10 ^ u * 10 ^ y ∧ d * 10 ^ (x + 1) * 10 ^ v = d * 10 ^ (u + 1) * 10 ^ y ∧ n * 10 ^ y * 10 ^ v = n * 10 ^ v * 10 ^ y := by
    refine ⟨?_, ?_, Nat.mul_right_comm _ _ _⟩
    · rw [Nat.mul_assoc, Nat.mul_assoc, ← Nat.pow_add, ← Nat.pow_add, show x + v = u + y by omega]
    · rw [Nat.mul_assoc, Nat.mul_assoc, ← Nat.pow_add, ← Nat.pow_add, show x + 1 + v = u + 1 + y by omega]
  obtain ⟨k1, k2, k3⟩ := key
  have hv : 0 < 10 ^ v := Nat.pow_pos (by decide)
  have hy : 0 < 10 ^ y := Nat.pow_pos (by decide)
  constructor
  · refine Nat.le_of_mul_le_mul_right (c := 10 ^ v) ?_ hv
    rw [k1, k3]
    exact Nat.mul_le_mul_right _ h1
  · refine Nat.lt_of_mul_lt_mul_right (a := 10 ^ v) ?_
    rw [k2, k3]
    exact Nat.mul_lt_mul_of_pos_right h2 hy
theorem IsE.scale {n d N D' : Nat} {e : Int} (h : IsE n d e) (hd : 0 < d) (hD : 0 < D') (hx : N * d = n * D') : IsE N D' e := by
  intro u v huv
  obtain ⟨h1, h2⟩ := h u v huv
  constructor
  · refine Nat.le_of_mul_le_mul_right (c := d) ?_ hd
    calc D' * 10 ^ u * d = d * 10 ^ u * D' := by grind
      _ ≤ n * 10 ^ v * D' := Nat.mul_le_mul_right _ h1
      _ = N * 10 ^ v * d := by rw [Nat.mul_right_comm, ← hx]; grind
  · refine Nat.lt_of_mul_lt_mul_right (a := d) ?_
    calc N * 10 ^ v * d = n * 10 ^ v * D' := by rw [Nat.mul_right_comm N, hx]; grind
      _ < d * 10 ^ (u + 1) * D' := Nat.mul_lt_mul_of_pos_right h2 hD
      _ = D' * 10 ^ (u + 1) * d := by grind
theorem IsE.uniq {n d : Nat} {e f : Int} (h : IsE n d e) (k : IsE n d f) : e = f := by
  have key : ∀ {e f : Int}, IsE n d e → IsE n d f → ¬ e < f := by
    intro e f h k hlt
    obtain ⟨u, v, huv⟩ : ∃ u v : Nat, (u : Int) - (v : Int) = e := ⟨e.toNat, (-e).toNat, by omega⟩
    obtain ⟨w, hw⟩ : ∃ w : Nat, ((u + 1 + w : Nat) : Int) - (v : Int) = f := ⟨(f - e - 1).toNat, by omega⟩
    have h1 := (h u v huv).2
    have h2 := (k _ _ hw).1
    have h3 : d * 10 ^ (u + 1) ≤ d * 10 ^ (u + 1 + w) := Nat.mul_le_mul_left _ (Nat.pow_le_pow_right (by decide) (by omega))
    omega
  have h1 := key h k
  have h2 := key k h
  omega
theorem rexp_is {P k : Nat} (hP : 0 < P) : IsE P (10 ^ k) ((dn P : Int) - 1 - (k : Int)) := by
  have h0 := dn_pos hP
  refine IsE.of (u := dn P - 1) (v := k) (by omega) ?_ ?_
  · rw [Nat.mul_comm]; exact Nat.mul_le_mul_right _ (dg_ge b10 hP)
  · rw [Nat.mul_comm, show dn P - 1 + 1 = dn P by omega]; exact Nat.mul_lt_mul_of_pos_left (dg_lt b10 P) (Nat.pow_pos (by decide))
theorem rexp_ok {P k : Nat} (hP : dn P ≤ 1000000) (hk : k ≤ 1000000) : Ev (numeraryref09_Exp.f (D P) (k : Int)) ((dn P : Int) - 1 - (k : Int)) := by
  refine ev_eq numeraryref09_Exp.f_eq (ev_now ?_)
  rw [D_length, wrap_id (x := ((dn P : Nat) : Int) - 1) (by omega) (by omega), wrap_id (by omega) (by omega)]
theorem ten_or {k : Int} (h1 : -10000 ≤ k) (h2 : k ≤ 10000) : Ev (tens_Ten.f k) (L (10 ^ k.toNat)) := by
  by_cases c : 0 ≤ k
  · have := ten (c := k.toNat) (by omega)
    rwa [Int.toNat_of_nonneg c] at this
  · have h : k.toNat = 0 := by omega
    rw [h, Nat.pow_zero]
    exact ten_neg (by omega)
theorem power_ok {k : Int} (h1 : -9000 ≤ k) (h2 : k ≤ 9000) : ∃ r, RQ r (10 ^ k.toNat) (10 ^ (-k).toNat) 1252 ∧ Ev (round_power.f k) r := by
  have l1 := ten_ln (k := k.toNat) (by omega)
  have l2 := ten_ln (k := (-k).toNat) (by omega)
  obtain ⟨r, hr, hv⟩ := ratio_of (a := 10 ^ k.toNat) (b := 10 ^ (-k).toNat) (c := 1252) (Nat.pow_pos (by decide)) (by decide) l1 l2
  refine ⟨r, hr, ev_eq round_power.f_eq (Ev.bind (ten_or (by omega) (by omega)) ?_)⟩
  rw [wrap_id (x := 0 - k) (by omega) (by omega), show 0 - k = -k by omega]
  exact Ev.bind (ten_or (by omega) (by omega)) (Ev.bind hv (ev_now rfl))
theorem exp_zero {r : List Int × List Int} {d c : Nat} (hr : RQ r 0 d c) (hd : 0 < d) (hc : c ≤ 10000) : Ev (round_Exp.f r) (0, false) := by
  obtain ⟨n', d', rfl, p1, g, e1, la, lb⟩ := hr
  have hn : n' = 0 := by
    rw [Nat.zero_mul] at e1
    rcases Nat.mul_eq_zero.mp e1 with h | h
    · exact h
    · omega
  subst hn
  exact ev_eq round_Exp.f_eq (Ev.bind (terms_pos p1 (by omega)) (Ev.bind (nbits (n := 0) (by decide)) (ev_pos (by decide) (ev_now rfl))))
theorem exp_ok {r : List Int × List Int} {n d c : Nat} (hr : RQ r n d c) (hd : 0 < d) (hn : 0 < n) (hc : c ≤ 800) : ∃ e : Int, IsE n d e ∧ -8001 ≤ e ∧ e ≤ 8000 ∧
    Ev (round_Exp.f r) (if -5000 ≤ e ∧ e ≤ 5000 then (e, true) else (0, false)) := by
  have hr0 := hr
  obtain ⟨n', d', rfl, p1, g, e1, la, lb⟩ := hr
  have hn' : 0 < n' := by
    rcases Nat.eq_zero_or_pos n' with h | h
    · exfalso; rw [h, Nat.zero_mul] at e1
      have := Nat.mul_pos hn p1
      omega
    · exact h
  have dn1 := dn_of_ln la
  have dn2 := dn_of_ln lb
  have q1 := dn_pos hn'
  have q2 := dn_pos p1
  have hb := bl_pos hn'
  obtain ⟨k, hk⟩ : ∃ k : Int, k = (dn n' : Int) - (dn d' : Int) := ⟨_, rfl⟩
  obtain ⟨s, hs, vs⟩ := power_ok (k := k) (by omega) (by omega)
  have hcmp := ratio_cmp hr0 hs hd (Nat.pow_pos (by decide)) (by omega) (by decide)
  have c1 := count_ok (n := n') (by omega) (by omega)
  have c2 := count_ok (n := d') (by omega) (by omega)
  rw [show max 1 (dn n') = dn n' by omega] at c1
  rw [show max 1 (dn d') = dn d' by omega] at c2
  have hkw : IntKind.i64.wrap (((dn n' : Nat) : Int) - ((dn d' : Nat) : Int)) = k := by rw [wrap_id (by omega) (by omega)]; exact hk.symm
  -- n' over d' lies between 10 ^ (k - 1) and 10 ^ (k + 1)
  have goUp : n' * 10 ^ (dn d') < d' * 10 ^ (dn n' + 1) := by
    have h1 := dg_lt b10 n'
    have h2 := dg_ge b10 p1
    have h1 : n' < 10 ^ dn n' := h1
    have h2 : 10 ^ (dn d' - 1) ≤ d' := h2
    have h3 : n' * 10 ^ dn d' < 10 ^ dn n' * 10 ^ dn d' := Nat.mul_lt_mul_of_pos_right h1 (Nat.pow_pos (by decide))
    have h4 : 10 ^ dn n' * 10 ^ dn d' = 10 ^ (dn d' - 1) * 10 ^ (dn n' + 1) := by rw [← Nat.pow_add, ← Nat.pow_add]; congr 1; omega
    have h5 : 10 ^ (dn d' - 1) * 10 ^ (dn n' + 1) ≤ d' * 10 ^ (dn n' + 1) := Nat.mul_le_mul_right _ h2
    omega
  have low : d' * 10 ^ (dn n' - 1) ≤ n' * 10 ^ (dn d') := by
    have h1 := dg_ge b10 hn'
    have h2 := dg_lt b10 d'
    have h1 : 10 ^ (dn n' - 1) ≤ n' := h1
    have h2 : d' < 10 ^ dn d' := h2
    have h3 : d' * 10 ^ (dn n' - 1) ≤ 10 ^ dn d' * 10 ^ (dn n' - 1) := Nat.mul_le_mul_right _ (Nat.le_of_lt h2)
    have h5 : 10 ^ dn d' * 10 ^ (dn n' - 1) ≤ n' * 10 ^ dn d' := by rw [Nat.mul_comm n']; exact Nat.mul_le_mul_left _ h1
    omega
  have scale : ∀ e : Int, IsE n' d' e → IsE n d e := fun e h => h.scale p1 hd e1.symm
  have go : ∀ {R}, Ev (if (cmpI (n * 10 ^ (-k).toNat) (10 ^ k.toNat * d)) < 0 then (if (IntKind.i64.wrap (k - 1)) < (-5000) then (M.ret ((0 : Int), false)) else (if (IntKind.i64.wrap (k - 1)) > 5000 then (M.ret (0, false)) else (M.ret (IntKind.i64.wrap (k - 1), true)))) else (if k < (-5000) then (M.ret (0, false)) else (if k > 5000 then (M.ret (0, false)) else (M.ret (k, true))))) R → Ev (round_Exp.f (L n', L d')) R := by
    intro R h
    refine ev_eq round_Exp.f_eq (Ev.bind (terms_pos p1 (by omega)) (Ev.bind (nbits (by omega)) (ev_neg (by omega) (Ev.bind c1 (Ev.bind c2 ?_)))))
    rw [hkw]
    exact Ev.bind vs (Ev.bind hcmp h)
  have cmp_iff : n * 10 ^ (-k).toNat < 10 ^ k.toNat * d ↔ n' * 10 ^ dn d' < d' * 10 ^ dn n' := by
    have e3 : n * 10 ^ (-k).toNat * (d' * 10 ^ dn d') = n' * 10 ^ dn d' * (d * 10 ^ (-k).toNat) := by
      calc n * 10 ^ (-k).toNat * (d' * 10 ^ dn d') = n * d' * (10 ^ (-k).toNat * 10 ^ dn d') := by grind
        _ = _ := by rw [← e1]; grind
    have e4 : 10 ^ k.toNat * d * (d' * 10 ^ dn d') = d' * 10 ^ dn n' * (d * 10 ^ (-k).toNat) := by
      have : 10 ^ k.toNat * 10 ^ dn d' = 10 ^ dn n' * 10 ^ (-k).toNat := by rw [← Nat.pow_add, ← Nat.pow_add]; congr 1; omega
      calc 10 ^ k.toNat * d * (d' * 10 ^ dn d') = d * d' * (10 ^ k.toNat * 10 ^ dn d') := by grind
        _ = _ := by rw [this]; grind
    have hA : 0 < d' * 10 ^ dn d' := Nat.mul_pos p1 (Nat.pow_pos (by decide))
    have hB : 0 < d * 10 ^ (-k).toNat := Nat.mul_pos hd (Nat.pow_pos (by decide))
    rw [← Nat.mul_lt_mul_right hA, e3, e4, Nat.mul_lt_mul_right hB]
  by_cases hlt : n' * 10 ^ dn d' < d' * 10 ^ dn n'
  · have hE : IsE n' d' (k - 1) := IsE.of (u := dn n' - 1) (v := dn d') (by omega) low (by rw [show dn n' - 1 + 1 = dn n' by omega]; exact hlt)
    refine ⟨k - 1, scale _ hE, by omega, by omega, go (ev_pos (cmpI_lt.mpr (cmp_iff.mpr hlt)) ?_)⟩
    rw [wrap_id (by omega) (by omega)]
    by_cases b : -5000 ≤ k - 1 ∧ k - 1 ≤ 5000
    · rw [if_pos b]; exact ev_neg (by omega) (ev_neg (by omega) (ev_now rfl))
    · rw [if_neg b]
      by_cases b2 : k - 1 < -5000
      · exact ev_pos b2 (ev_now rfl)
      · exact ev_neg b2 (ev_pos (by omega) (ev_now rfl))
  · have hE : IsE n' d' k := IsE.of (u := dn n') (v := dn d') (by omega) (by omega) goUp
    refine ⟨k, scale _ hE, by omega, by omega, go (ev_neg (fun h => hlt (cmp_iff.mp (cmpI_lt.mp h))) ?_)⟩
    by_cases b : -5000 ≤ k ∧ k ≤ 5000
    · rw [if_pos b]; exact ev_neg (by omega) (ev_neg (by omega) (ev_now rfl))
    · rw [if_neg b]
      by_cases b2 : k < -5000
      · exact ev_pos b2 (ev_now rfl)
      · exact ev_neg b2 (ev_pos (by omega) (ev_now rfl))
/-! ### to digits -/
/-- n over d times a power of ten, rounded. -/
def sc (n d : Nat) (t : Int) : Nat := near (n * 10 ^ t.toNat) (d * 10 ^ (-t).toNat)
theorem sc_scale {n d N D' : Nat} {t : Int} (hd : 0 < d) (hD : 0 < D') (hx : N * d = n * D') : sc N D' t = sc n d t := by
  unfold sc
  refine near_scale (Nat.mul_pos hD (Nat.pow_pos (by decide))) (Nat.mul_pos hd (Nat.pow_pos (by decide))) ?_
  calc N * 10 ^ t.toNat * (d * 10 ^ (-t).toNat) = N * d * (10 ^ t.toNat * 10 ^ (-t).toNat) := by grind
    _ = _ := by rw [hx]; grind
theorem sc_bounds {n d m : Nat} {e : Int} (hE : IsE n d e) (hd : 0 < d) (hm : 1 ≤ m) : 10 ^ (m - 1) ≤ sc n d ((m : Int) - 1 - e) ∧ sc n d ((m : Int) - 1 - e) ≤ 10 ^ m := by
  unfold sc
  obtain ⟨t, ht⟩ : ∃ t : Int, t = (m : Int) - 1 - e := ⟨_, rfl⟩
  rw [← ht]
  obtain ⟨u, v, huv⟩ : ∃ u v : Nat, (u : Int) - (v : Int) = e := ⟨e.toNat, (-e).toNat, by omega⟩
  obtain ⟨h1, h2⟩ := hE u v huv
  have hD : 0 < d * 10 ^ (-t).toNat := Nat.mul_pos hd (Nat.pow_pos (by decide))
  have hv : 0 < 10 ^ v := Nat.pow_pos (by decide)
  have ee : 10 ^ (m - 1) * 10 ^ (-t).toNat * 10 ^ v = 10 ^ u * 10 ^ t.toNat := by rw [← Nat.pow_add, ← Nat.pow_add, ← Nat.pow_add]; congr 1; omega
  have low : 10 ^ (m - 1) * (d * 10 ^ (-t).toNat) ≤ n * 10 ^ t.toNat := by
    refine Nat.le_of_mul_le_mul_right (c := 10 ^ v) ?_ hv
    calc 10 ^ (m - 1) * (d * 10 ^ (-t).toNat) * 10 ^ v = d * (10 ^ (m - 1) * 10 ^ (-t).toNat * 10 ^ v) := by grind
      _ = d * 10 ^ u * 10 ^ t.toNat := by rw [ee]; grind
      _ ≤ n * 10 ^ v * 10 ^ t.toNat := Nat.mul_le_mul_right _ h1
      _ = n * 10 ^ t.toNat * 10 ^ v := Nat.mul_right_comm _ _ _
  have high : n * 10 ^ t.toNat ≤ 10 ^ m * (d * 10 ^ (-t).toNat) := by
    refine Nat.le_of_mul_le_mul_right (c := 10 ^ v) ?_ hv
    have e2 : 10 ^ m * 10 ^ (-t).toNat * 10 ^ v = 10 ^ (u + 1) * 10 ^ t.toNat := by rw [← Nat.pow_add, ← Nat.pow_add, ← Nat.pow_add]; congr 1; omega
    calc n * 10 ^ t.toNat * 10 ^ v = n * 10 ^ v * 10 ^ t.toNat := Nat.mul_right_comm _ _ _
      _ ≤ d * 10 ^ (u + 1) * 10 ^ t.toNat := Nat.mul_le_mul_right _ (Nat.le_of_lt h2)
      _ = d * (10 ^ m * 10 ^ (-t).toNat * 10 ^ v) := by rw [e2]; grind
      _ = 10 ^ m * (d * 10 ^ (-t).toNat) * 10 ^ v := by grind
  constructor
  · unfold near
    rw [Nat.le_div_iff_mul_le (by omega)]
    have : 10 ^ (m - 1) * (2 * (d * 10 ^ (-t).toNat)) = 2 * (10 ^ (m - 1) * (d * 10 ^ (-t).toNat)) := by grind
    omega
  · exact near_le_of hD high
/-- The digits and the power that a rounded number stands for. -/
def sciOf (N m : Nat) (e : Int) : ByteArray × Int := if N = 10 ^ m then (S (decs0 (10 ^ (m - 1))), e + 1) else (S (decs0 N), e)
theorem dn_ten_pow (m : Nat) : dn (10 ^ m) = m + 1 := by
  have h1 : dn (10 ^ m) ≤ m + 1 := (dg_len b10 _ _).mpr (Nat.pow_lt_pow_right (by decide) (by omega))
  have h2 : ¬ dn (10 ^ m) ≤ m := fun h => Nat.lt_irrefl _ ((dg_len b10 _ _).mp h)
  omega
theorem decs0_ten (m : Nat) : decs0 (10 ^ m) = 49 :: List.replicate m 48 := by
  have h := decs0_split (q := 1) (r := 0) (k := m) (by decide) (Nat.pow_pos (by decide))
  rw [Nat.one_mul, Nat.add_zero, decs0_zero, List.append_nil] at h
  exact h
theorem fin_to {N m : Nat} {e W : Int} (hm : 1 ≤ m) (hm2 : m ≤ 400) (h1 : 10 ^ (m - 1) ≤ N) (h2 : N ≤ 10 ^ m) (hW : W = e + 1) {R : (ByteArray × Int)} (hR : R = sciOf N m e) {α : Type} {K : ByteArray × Int → M α} {r : α} (hK : Ev (K R) r) :
    Ev (if ((S (decs N)).size : Int) > (m : Int) then (if 0 ≤ (m : Int) then (if (m : Int) ≤ ((S (decs N)).size : Int) then (K ((S (decs N)).extract 0 (m : Int).toNat, W)) else M.none) else M.none) else (K (S (decs N), e))) r := by
  subst hW
  have hN : 0 < N := Nat.lt_of_lt_of_le (Nat.pow_pos (by decide)) h1
  rw [S_size, decs_of_pos hN, decs0_len]
  unfold sciOf at hR
  by_cases c : N = 10 ^ m
  · rw [if_pos c] at hR
    subst c
    rw [dn_ten_pow]
    refine ev_pos (by omega) (ev_pos (by omega) (ev_pos (by omega) ?_))
    have : (S (decs0 (10 ^ m))).extract 0 (m : Int).toNat = S (decs0 (10 ^ (m - 1))) := by
      rw [S_ext, List.drop_zero, Int.toNat_natCast, decs0_ten, decs0_ten]
      obtain ⟨k, rfl⟩ : ∃ k, m = k + 1 := ⟨m - 1, by omega⟩
      rw [List.take_succ_cons, List.take_replicate, show min k (k + 1) = k by omega]; rfl
    rw [this, ← hR]
    exact hK
  · rw [if_neg c] at hR
    have hd : dn N ≤ m := (dg_len b10 N m).mpr (by omega)
    rw [← hR]
    exact ev_neg (by omega) hK
theorem to_ok {r : List Int × List Int} {n d c m : Nat} (hr : RQ r n d c) (hd : 0 < d) (hn : 0 < n) (hc : c ≤ 800) (hm : 1 ≤ m) (hm2 : m ≤ 400) {e : Int} (hE : IsE n d e) :
    Ev (round_To.f r (m : Int)) (if -5000 ≤ e ∧ e ≤ 5000 then (sciOf (sc n d ((m : Int) - 1 - e)) m e, true) else ((ByteArray.empty, 0), false)) := by
  obtain ⟨e', hE', b1, b2, hx⟩ := exp_ok hr hd hn hc
  obtain rfl := hE.uniq hE'
  by_cases hb : -5000 ≤ e ∧ e ≤ 5000
  · rw [if_pos hb] at hx ⊢
    obtain ⟨s1, s2⟩ := sc_bounds (m := m) hE hd hm
    obtain ⟨n', d', rfl, p1, g, e1, la, lb⟩ := hr
    have hsc : sc n d ((m : Int) - 1 - e) = sc n' d' ((m : Int) - 1 - e) := sc_scale p1 hd e1.symm
    rw [hsc] at s1 s2 ⊢
    have hw : IntKind.i64.wrap (IntKind.i64.wrap ((m : Int) - 1) - e) = (m : Int) - 1 - e := by rw [wrap_id (x := (m : Int) - 1) (by omega) (by omega), wrap_id (by omega) (by omega)]
    obtain ⟨t, ht⟩ : ∃ t : Int, t = (m : Int) - 1 - e := ⟨_, rfl⟩
    rw [← ht] at hw s1 s2 ⊢
    have he1 : IntKind.i64.wrap (e + 1) = e + 1 := by rw [wrap_id (by omega) (by omega)]
    have lN : ∀ {z : Nat}, ln z ≤ 1048576 → True := fun _ => trivial
    refine ev_eq round_To.f_eq (Ev.bind hx (ev_neg (by simp) (ev_neg (by omega) (ev_neg (by omega) (Ev.bind (terms_pos p1 (by omega)) ?_)))))
    dsimp only
    rw [hw]
    have lm : ln (10 ^ m) ≤ 1252 := ten_ln (by omega)
    have lsN : ln (sc n' d' t) ≤ 1252 := Nat.le_trans (ln_mono s2) lm
    have dsN : dn (sc n' d' t) ≤ 401 := by have := dn_mono s2; rw [dn_ten_pow] at this; omega
    have htx := text_ok (n := sc n' d' t) (by omega) (by omega)
    by_cases h0 : 0 ≤ t
    · obtain ⟨u, hu⟩ : ∃ u : Nat, t = (u : Int) := ⟨t.toNat, by omega⟩
      have lu : ln (10 ^ u) ≤ 1252 := ten_ln (by omega)
      have lmul := ln_mul n' (10 ^ u)
      obtain ⟨x, hxq, vx⟩ := ratio_of (a := n' * 10 ^ u) (b := d') (c := 2100) p1 (by decide) (by omega) (by omega)
      obtain ⟨w1, w2⟩ := whole hxq p1 (by decide)
      have hscu : sc n' d' t = near (n' * 10 ^ u) d' := by unfold sc; rw [hu, Int.toNat_natCast, show (-(u : Int)).toNat = 0 by omega, Nat.pow_zero, Nat.mul_one]
      rw [← hscu] at w1
      subst hu
      exact ev_pos h0 (Ev.bind (ten (by omega)) (Ev.bind (nmul (by omega) (by omega)) (Ev.bind vx (Ev.bind w1 (Ev.bind htx (fin_to (K := fun z => M.ret (z, true)) hm hm2 s1 s2 he1 rfl (ev_now rfl)))))))
    · obtain ⟨u, hu⟩ : ∃ u : Nat, -t = (u : Int) := ⟨(-t).toNat, by omega⟩
      have lu : ln (10 ^ u) ≤ 1252 := ten_ln (by omega)
      have lmul := ln_mul d' (10 ^ u)
      have hpd : 0 < d' * 10 ^ u := Nat.mul_pos p1 (Nat.pow_pos (by decide))
      obtain ⟨x, hxq, vx⟩ := ratio_of (a := n') (b := d' * 10 ^ u) (c := 2100) hpd (by decide) (by omega) (by omega)
      obtain ⟨w1, w2⟩ := whole hxq hpd (by decide)
      have hscu : sc n' d' t = near n' (d' * 10 ^ u) := by unfold sc; rw [show t.toNat = 0 by omega, Nat.pow_zero, Nat.mul_one, show (-t).toNat = u by omega]
      rw [← hscu] at w1
      have hwt : IntKind.i64.wrap (0 - t) = (u : Int) := by rw [wrap_id (by omega) (by omega)]; omega
      refine ev_neg h0 ?_
      rw [hwt]
      exact Ev.bind (ten (by omega)) (Ev.bind (nmul (by omega) (by omega)) (Ev.bind vx (Ev.bind w1 (Ev.bind htx (fin_to (K := fun z => M.ret (z, true)) hm hm2 s1 s2 he1 rfl (ev_now rfl))))))
  · rw [if_neg hb] at hx ⊢
    exact ev_eq round_To.f_eq (Ev.bind hx (ev_pos (by simp) (ev_now rfl)))
theorem to_zero {r : List Int × List Int} {d c : Nat} {m : Int} (hr : RQ r 0 d c) (hd : 0 < d) (hc : c ≤ 10000) : Ev (round_To.f r m) ((ByteArray.empty, 0), false) :=
  ev_eq round_To.f_eq (Ev.bind (exp_zero hr hd hc) (ev_pos (by simp) (ev_now rfl)))
theorem to_bad {r : List Int × List Int} {n d c : Nat} {m : Int} (hr : RQ r n d c) (hd : 0 < d) (hn : 0 < n) (hc : c ≤ 800) (hm : m < 1 ∨ 400 < m) : Ev (round_To.f r m) ((ByteArray.empty, 0), false) := by
  obtain ⟨e', hE', b1, b2, hx⟩ := exp_ok hr hd hn hc
  refine ev_eq round_To.f_eq (Ev.bind hx ?_)
  by_cases hb : -5000 ≤ e' ∧ e' ≤ 5000
  · rw [if_pos hb]
    refine ev_neg (by simp) ?_
    by_cases c : m < 1
    · exact ev_pos c (ev_now rfl)
    · exact ev_neg c (ev_pos (by omega) (ev_now rfl))
  · rw [if_neg hb]
    exact ev_pos (by simp) (ev_now rfl)
theorem rcut_neg {n k q : Nat} (hn : dn n ≤ 1000000) (hk : k ≤ 500000) (hq : q ≤ 500000) (h0 : 0 < q) : Ev (numeraryref09_Cut.f (D n) (k : Int) (-(q : Int))) (D (near n (10 ^ (k + q)))) := by
  have h := rcut (n := n) (k := k + q) (p := 0) hn (by omega) (by omega)
  rw [Nat.pow_zero, Nat.mul_one] at h
  have e : numeraryref09_Cut.f (D n) (k : Int) (-(q : Int)) = numeraryref09_Cut.f (D n) ((k + q : Nat) : Int) ((0 : Nat) : Int) := by
    have w1 : IntKind.i64.wrap ((k : Int) - -(q : Int)) = ((k + q : Nat) : Int) := by rw [wrap_id (by omega) (by omega)]; omega
    have w2 : IntKind.i64.wrap (((k + q : Nat) : Int) - ((0 : Nat) : Int)) = ((k + q : Nat) : Int) := by rw [wrap_id (by omega) (by omega)]; omega
    rw [numeraryref09_Cut.f_eq, numeraryref09_Cut.f_eq, w1, w2, if_neg (show ¬ (-(q : Int)) ≥ (k : Int) by omega), if_neg (show ¬ ((0 : Nat) : Int) ≥ ((k + q : Nat) : Int) by omega)]
  rw [e]
  exact h
theorem rto_ok {P k m : Nat} (hP : 0 < P) (hd : dn P ≤ 100000) (hk : k ≤ 100000) (hm : 1 ≤ m) (hm2 : m ≤ 400) :
    Ev (numeraryref09_To.f (D P) (k : Int) (m : Int)) (sciOf (sc P (10 ^ k) ((m : Int) - 1 - ((dn P : Int) - 1 - (k : Int)))) m ((dn P : Int) - 1 - (k : Int))) := by
  obtain ⟨s1, s2⟩ := sc_bounds (m := m) (rexp_is (k := k) hP) (Nat.pow_pos (by decide)) hm
  have h0 := dn_pos hP
  have hw : IntKind.i64.wrap (IntKind.i64.wrap ((m : Int) - 1) - ((dn P : Int) - 1 - (k : Int))) = (m : Int) - 1 - ((dn P : Int) - 1 - (k : Int)) := by rw [wrap_id (x := (m : Int) - 1) (by omega) (by omega), wrap_id (by omega) (by omega)]
  obtain ⟨e, he⟩ : ∃ e : Int, e = (dn P : Int) - 1 - (k : Int) := ⟨_, rfl⟩
  have hexp := rexp_ok (P := P) (k := k) (by omega) (by omega)
  rw [← he] at hw s1 s2 hexp ⊢
  obtain ⟨t, ht⟩ : ∃ t : Int, t = (m : Int) - 1 - e := ⟨_, rfl⟩
  rw [← ht] at hw s1 s2 ⊢
  have dsN : dn (sc P (10 ^ k) t) ≤ 401 := by have := dn_mono s2; rw [dn_ten_pow] at this; omega
  have htx := rtext (n := sc P (10 ^ k) t) (by omega)
  have he1 : IntKind.i64.wrap (e + 1) = e + 1 := by rw [wrap_id (by omega) (by omega)]
  have fin : Ev (if ((S (decs (sc P (10 ^ k) t))).size : Int) > (m : Int) then (if 0 ≤ (m : Int) then (if (m : Int) ≤ ((S (decs (sc P (10 ^ k) t))).size : Int) then (M.ret ((S (decs (sc P (10 ^ k) t))).extract 0 (m : Int).toNat, IntKind.i64.wrap (e + 1))) else M.none) else M.none) else (M.ret (S (decs (sc P (10 ^ k) t)), e))) (sciOf (sc P (10 ^ k) t) m e) :=
    fin_to (K := fun z => M.ret z) hm hm2 s1 s2 he1 rfl (ev_now rfl)
  refine ev_eq numeraryref09_To.f_eq (Ev.bind hexp ?_)
  rw [hw]
  by_cases c : 0 ≤ t
  · obtain ⟨u, hu⟩ : ∃ u : Nat, t = (u : Int) := ⟨t.toNat, by omega⟩
    have hscu : sc P (10 ^ k) t = near (P * 10 ^ u) (10 ^ k) := by unfold sc; rw [hu, Int.toNat_natCast, show (-(u : Int)).toNat = 0 by omega, Nat.pow_zero, Nat.mul_one]
    have hcut := rcut (n := P) (k := k) (p := u) (by omega) (by omega) (by omega)
    rw [← hscu, ← hu] at hcut
    exact Ev.bind hcut (ev_neg (by omega) (Ev.bind htx fin))
  · obtain ⟨u, hu⟩ : ∃ u : Nat, t = -(u : Int) := ⟨(-t).toNat, by omega⟩
    have hscu : sc P (10 ^ k) t = near P (10 ^ (k + u)) := by unfold sc; rw [show t.toNat = 0 by omega, Nat.pow_zero, Nat.mul_one, show (-t).toNat = u by omega, Nat.pow_add]
    have hcut := rcut_neg (n := P) (k := k) (q := u) (by omega) (by omega) (by omega) (by omega)
    have hcut2 := rcut (n := P) (k := k + u) (p := 0) (by omega) (by omega) (by omega)
    rw [Nat.pow_zero, Nat.mul_one, ← hscu] at hcut2
    rw [← hu] at hcut
    rw [D_length]
    refine Ev.bind hcut (ev_pos (by omega) (ev_pos (by omega) ?_))
    rw [show IntKind.i64.wrap (((dn P : Nat) : Int) - (m : Int)) = ((k + u : Nat) : Int) by rw [wrap_id (by omega) (by omega)]; omega]
    exact Ev.bind hcut2 (Ev.bind htx fin)
end Go.Proofs.YtglepnebcidjmaaGreatDoor.F

/- Rounding to 64 bits, told by what lies between neighbours; texts of decimals with an exponent, there and back. -/
namespace Go.Proofs.YtglepnebcidjmaaGreatDoor.F
open Go Go.Proofs.YtglepnebcidjmaaGreatDoor.E
set_option linter.unusedVariables false
set_option linter.unusedSimpArgs false
theorem Nb_form (b : Nat) : ∃ E M, b = E * 4503599627370496 + M ∧ M < 9007199254740992 ∧ (E = 0 ∨ 4503599627370496 ≤ M) := by
  by_cases c : b < 4503599627370496
  · exact ⟨0, b, by omega, by omega, .inl rfl⟩
  · exact ⟨b / 4503599627370496 - 1, b % 4503599627370496 + 4503599627370496, by omega, by omega, .inr (by omega)⟩
theorem Nb_fine (b : Nat) : ∃ g, 0 < g ∧ Nb (b + 1) = Nb b + g ∧ Nb (b + 1) ≤ 9007199254740992 * g := by
  obtain ⟨E, M, hb, hM, hE⟩ := Nb_form b
  have h0 := Nb_at hb (Nat.le_of_lt hM) hE
  have h1 := Nb_at (b := b + 1) (E := E) (M := M + 1) (by omega) hM (by omega)
  refine ⟨2 ^ E, Nat.pow_pos (by decide), ?_, ?_⟩
  · rw [h0, h1, Nat.add_mul, Nat.one_mul]
  · rw [h1]; exact Nat.mul_le_mul_right _ hM
theorem Nb_mono {b c : Nat} (h : b ≤ c) : Nb b ≤ Nb c := by
  obtain ⟨k, rfl⟩ : ∃ k, c = b + k := ⟨c - b, by omega⟩
  clear h
  induction k with
  | zero => exact Nat.le_refl _
  | succ k ih =>
    obtain ⟨g, _, h, _⟩ := Nb_fine (b + k)
    rw [← Nat.add_assoc, h]; omega
theorem Nb_lt {b c : Nat} (h : b < c) : Nb b < Nb c := by
  obtain ⟨g, hg, h1, _⟩ := Nb_fine b
  have := Nb_mono (show b + 1 ≤ c from h)
  omega
/-- These bits are the nearest, of two as near the even ones. -/
def Mid (u Y b : Nat) : Prop := (b < 9218868437227405312 → 2 * u ≤ Y * (Nb b + Nb (b + 1)) ∧ (2 * u = Y * (Nb b + Nb (b + 1)) → b % 2 = 0)) ∧ (0 < b → Y * (Nb (b - 1) + Nb b) ≤ 2 * u ∧ (2 * u = Y * (Nb (b - 1) + Nb b) → b % 2 = 0))
theorem mid_uniq {u Y b c : Nat} (hY : 0 < Y) (hb : b ≤ 9218868437227405312) (hc : c ≤ 9218868437227405312) (h : Mid u Y b) (k : Mid u Y c) : b = c := by
  have key : ∀ {b c : Nat}, c ≤ 9218868437227405312 → Mid u Y b → Mid u Y c → ¬ b < c := by
    intro b c hc h k hlt
    obtain ⟨h1, h2⟩ := h.1 (by omega)
    obtain ⟨k1, k2⟩ := k.2 (by omega)
    have m1 := Nb_mono (show b ≤ c - 1 by omega)
    have m2 := Nb_mono (show b + 1 ≤ c by omega)
    have m3 : Y * (Nb b + Nb (b + 1)) ≤ Y * (Nb (c - 1) + Nb c) := Nat.mul_le_mul_left _ (by omega)
    have e1 : Y * (Nb b + Nb (b + 1)) = Y * (Nb (c - 1) + Nb c) := by omega
    have e2 := Nat.eq_of_mul_eq_mul_left hY e1
    have p1 := h2 (by omega)
    have p2 := k2 (by omega)
    by_cases c1 : b < c - 1
    · have := Nb_lt c1
      omega
    · omega
  have h1 := key hc h k
  have h2 := key hb k h
  omega
theorem cmp3 {X Y X' Y' P s : Nat} (hY : 0 < Y) (hY' : 0 < Y') (h : X * Y' = X' * Y) : (2 * (X * P) ≤ Y * s ↔ 2 * (X' * P) ≤ Y' * s) ∧ (2 * (X * P) = Y * s ↔ 2 * (X' * P) = Y' * s) ∧ (Y * s ≤ 2 * (X * P) ↔ Y' * s ≤ 2 * (X' * P)) := by
  have e1 : 2 * (X * P) * Y' = 2 * (X' * P) * Y := by
    calc 2 * (X * P) * Y' = 2 * P * (X * Y') := by grind
      _ = 2 * (X' * P) * Y := by rw [h]; grind
  have e2 : Y * s * Y' = Y' * s * Y := by grind
  have a1 : 2 * (X * P) ≤ Y * s ↔ 2 * (X' * P) ≤ Y' * s := by rw [← Nat.mul_le_mul_right_iff (n := 2 * (X * P)) hY', e1, e2, Nat.mul_le_mul_right_iff hY]
  have a2 : Y * s ≤ 2 * (X * P) ↔ Y' * s ≤ 2 * (X' * P) := by rw [← Nat.mul_le_mul_right_iff (n := Y * s) hY', e1, e2, Nat.mul_le_mul_right_iff hY]
  exact ⟨a1, by omega, a2⟩
theorem mid_scale {X Y X' Y' P b : Nat} (hY : 0 < Y) (hY' : 0 < Y') (h : X * Y' = X' * Y) : Mid (X * P) Y b ↔ Mid (X' * P) Y' b := by
  obtain ⟨a1, a2, a3⟩ := cmp3 (P := P) (s := Nb b + Nb (b + 1)) hY hY' h
  obtain ⟨b1, b2, b3⟩ := cmp3 (P := P) (s := Nb (b - 1) + Nb b) hY hY' h
  unfold Mid
  rw [a1, a2, b2, b3]
/-- The bits nearest to any number. -/
theorem near_tot {X Y K : Nat} (hK : K = 1074) (hY : 0 < Y) (lX : ln X ≤ 1000) (lY : ln Y ≤ 1000) :
    ∃ b : Nat, b ≤ 9218868437227405312 ∧ Ev (bits_Nearest.f (L X) (L Y)) ((b : Int), true) ∧ Mid (X * 2 ^ K) Y b := by
  rcases Nat.eq_zero_or_pos X with rfl | hX0
  · refine ⟨0, by decide, nearest0 hY lY, fun _ => ⟨?_, fun _ => rfl⟩, fun h => absurd h (by decide)⟩
    rw [Nat.zero_mul]; exact Nat.zero_le _
  have hE : ∃ E, X * 2 ^ K < 9007199254740992 * (Y * 2 ^ E) ∧ (E = 0 ∨ 4503599627370496 * (Y * 2 ^ E) ≤ X * 2 ^ K) := by
    by_cases c : X * 2 ^ K < 9007199254740992 * Y
    · exact ⟨0, by rw [Nat.pow_zero, Nat.mul_one]; exact c, .inl rfl⟩
    · have hq0 : 9007199254740992 ≤ X * 2 ^ K / Y := (Nat.le_div_iff_mul_le hY).mpr (by omega)
      have q1 := Nat.log2_self_le (n := X * 2 ^ K / Y) (by omega)
      have q2 := Nat.lt_log2_self (n := X * 2 ^ K / Y)
      have q3 : 53 ≤ (X * 2 ^ K / Y).log2 := (Nat.le_log2 (by omega)).mpr hq0
      obtain ⟨F, hF⟩ : ∃ F, (X * 2 ^ K / Y).log2 = F + 52 := ⟨(X * 2 ^ K / Y).log2 - 52, by omega⟩
      rw [hF] at q1 q2
      refine ⟨F, ?_, .inr ?_⟩
      · have := (Nat.div_lt_iff_lt_mul hY).mp q2
        calc X * 2 ^ K < 2 ^ (F + 52 + 1) * Y := this
          _ = 9007199254740992 * (Y * 2 ^ F) := by rw [Nat.add_assoc, Nat.pow_add]; grind
      · have := (Nat.le_div_iff_mul_le hY).mp q1
        calc 4503599627370496 * (Y * 2 ^ F) = 2 ^ (F + 52) * Y := by rw [Nat.pow_add]; grind
          _ ≤ _ := this
  obtain ⟨E, h1, h2⟩ := hE
  obtain ⟨m1, m2, m3⟩ := mids hY h1 h2 rfl
  by_cases c : E * 4503599627370496 + rnd (X * 2 ^ K) (Y * 2 ^ E) < 9218868437227405312
  · exact ⟨_, Nat.le_of_lt c, nearest hK hX0 hY lX lY h1 h2 c, fun _ => ⟨m1, m2⟩, m3⟩
  · have hn := nearest_inf hK hX0 hY lX lY h1 h2 (by omega)
    refine ⟨9218868437227405312, Nat.le_refl _, hn, fun h => absurd h (Nat.lt_irrefl _), fun _ => ⟨?_, fun _ => by decide⟩⟩
    obtain ⟨B, hB⟩ : ∃ B, B = E * 4503599627370496 + rnd (X * 2 ^ K) (Y * 2 ^ E) := ⟨_, rfl⟩
    rw [← hB] at m3 c
    have k1 := Nb_mono (show 9218868437227405312 - 1 ≤ B - 1 by omega)
    have k2 := Nb_mono (show 9218868437227405312 ≤ B by omega)
    exact Nat.le_trans (Nat.mul_le_mul_left _ (Nat.add_le_add k1 k2)) (m3 (by omega)).1
/-- What the document says of bits up to the infinite ones. -/
theorem ref_up {c K : Nat} (hK : K = 1074) (hc : c ≤ 9218868437227405312) : ∃ (cl m x : Int), (cl = 2 ↔ c = 9218868437227405312) ∧ Ev (numeraryref07_Of.f (c : Int)) (cl, false, m, x) ∧ (∃ (p pk : Nat), Ev (numeraryref07_Decimals.f m x) (D p, (pk : Int)) ∧ (c < 9218868437227405312 → pk ≤ K ∧ dn p ≤ 4000 ∧ p * 2 ^ K = Nb c * 10 ^ pk)) := by
  by_cases h : c = 9218868437227405312
  · have ho := ref_of (s := 0) (e := 2047) (f := 0) (by decide) (by decide) (by decide)
    rw [show W 0 2047 0 = c by rw [h]; decide, show V 0 2047 0 = (2, false, 0, 0) by decide] at ho
    have hd := rdec_up (m := 0) (c := 0) (by decide) (by decide)
    exact ⟨2, 0, 0, ⟨fun _ => h, fun _ => rfl⟩, ho, _, _, hd, fun h' => absurd h' (by omega)⟩
  · obtain ⟨cl, m, x, p, pk, hcl, ho, hd, hpk, lp, ep⟩ := ref_value (c := c) hK (by omega)
    exact ⟨cl, m, x, ⟨fun h' => by omega, fun h' => absurd h' h⟩, ho, p, pk, hd, fun _ => ⟨hpk, lp, ep⟩⟩
theorem Nb_inf {K F : Nat} (hK : K = 1074) (hF : F = 972) : Nb 9218868437227405312 = 4503599627370496 * 2 ^ F * 2 ^ K := by
  obtain ⟨E, hE⟩ : ∃ E, E = F + K := ⟨_, rfl⟩
  rw [Nb_at (b := 9218868437227405312) (E := E) (M := 4503599627370496) (by omega) (by decide) (.inr (by decide)), Nat.mul_assoc, ← Nat.pow_add, hE]
theorem middle_tail {v k p pk q qk X Y K b c : Nat} (hK : K = 1074) (hY : 0 < Y) (hv : v * Y = X * 10 ^ k) (lv : dn v ≤ 10000) (hk : k ≤ 10000) (hpk : pk ≤ K) (hqk : qk ≤ K) (lp : dn p ≤ 4000) (lq : dn q ≤ 4000) (ep : p * 2 ^ K = Nb b * 10 ^ pk) (eq : q * 2 ^ K = Nb c * 10 ^ qk) :
    Ev (M.bind (numeraryref07_Tens.f (D p) (IntKind.i64.wrap ((mxI (mxI (k : Int) (pk : Int)) (qk : Int)) - (pk : Int)))) fun t12 => (M.bind (numeraryref07_Tens.f (D q) (IntKind.i64.wrap ((mxI (mxI (k : Int) (pk : Int)) (qk : Int)) - (qk : Int)))) fun t13 => (M.bind (numeraryref07_Tens.f (D v) (IntKind.i64.wrap ((mxI (mxI (k : Int) (pk : Int)) (qk : Int)) - (k : Int)))) fun t14 => (M.bind (numeraryref02_Times.f t14 2) fun t15 => (M.bind (numeraryref02_Add.f t12 t13) fun t16 => (M.bind (numeraryref02_Cmp.f t15 t16) fun t17 => (M.ret t17))))))) (cmpI (2 * (X * 2 ^ K)) (Y * (Nb b + Nb c))) := by
  have hmost : mxI (mxI (k : Int) (pk : Int)) (qk : Int) = ((max (max k pk) qk : Nat) : Int) := by rw [mxI_nat, mxI_nat]
  rw [hmost]
  obtain ⟨T, hT⟩ : ∃ T, T = max (max k pk) qk := ⟨_, rfl⟩
  rw [← hT]
  obtain ⟨tp, htp⟩ : ∃ d, T = pk + d := ⟨T - pk, by omega⟩
  obtain ⟨tq, htq⟩ : ∃ d, T = qk + d := ⟨T - qk, by omega⟩
  obtain ⟨tx, htx⟩ : ∃ d, T = k + d := ⟨T - k, by omega⟩
  have w1 : IntKind.i64.wrap ((T : Int) - (pk : Int)) = (tp : Int) := by rw [wrap_id (by omega) (by omega)]; omega
  have w2 : IntKind.i64.wrap ((T : Int) - (qk : Int)) = (tq : Int) := by rw [wrap_id (by omega) (by omega)]; omega
  have w3 : IntKind.i64.wrap ((T : Int) - (k : Int)) = (tx : Int) := by rw [wrap_id (by omega) (by omega)]; omega
  rw [w1, w2, w3]
  have l1 := dn_ten p tp
  have l2 := dn_ten q tq
  have l3 := dn_ten v tx
  refine Ev.bind (rtens_up (by omega) (by omega)) (Ev.bind (rtens_up (by omega) (by omega)) (Ev.bind (rtens_up (by omega) (by omega)) ?_))
  have l4 := dn_mul (v * 10 ^ tx) 2
  have l5 := dn_small (n := 2) (by decide)
  have l6 := dn_add (p * 10 ^ tp) (q * 10 ^ tq)
  refine Ev.bind (rtimes_D (m := 2) (by omega) (by decide)) (Ev.bind (radd_D (by omega) (by omega)) (Ev.bind (rcmp_D (by omega) (by omega)) (ev_now ?_)))
  have hs : 0 < Y * 2 ^ K := Nat.mul_pos hY (Nat.pow_pos (by decide))
  have e1 : v * 10 ^ tx * 2 * (Y * 2 ^ K) = 2 * (X * 2 ^ K) * 10 ^ T := by
    calc v * 10 ^ tx * 2 * (Y * 2 ^ K) = v * Y * 10 ^ tx * 2 * 2 ^ K := by grind
      _ = _ := by rw [hv, htx, Nat.pow_add]; grind
  have e2 : (p * 10 ^ tp + q * 10 ^ tq) * (Y * 2 ^ K) = Y * (Nb b + Nb c) * 10 ^ T := by
    have a1 : p * 10 ^ tp * 2 ^ K = Nb b * 10 ^ T := by rw [Nat.mul_right_comm, ep, htp, Nat.pow_add]; grind
    have a2 : q * 10 ^ tq * 2 ^ K = Nb c * 10 ^ T := by rw [Nat.mul_right_comm, eq, htq, Nat.pow_add]; grind
    calc (p * 10 ^ tp + q * 10 ^ tq) * (Y * 2 ^ K) = Y * (p * 10 ^ tp * 2 ^ K + q * 10 ^ tq * 2 ^ K) := by grind
      _ = _ := by rw [a1, a2]; grind
  exact cmp_both hs (Nat.pow_pos (by decide)) e1 e2
theorem middle_ok {v k X Y K b c : Nat} (hK : K = 1074) (hY : 0 < Y) (hv : v * Y = X * 10 ^ k) (lv : dn v ≤ 10000) (hk : k ≤ 10000) (hb : b < 9218868437227405312) (hc : c ≤ 9218868437227405312) :
    Ev (numeraryref10_middle.f (D v) (k : Int) (b : Int) (c : Int)) (cmpI (2 * (X * 2 ^ K)) (Y * (Nb b + Nb c))) := by
  obtain ⟨cl, m, x, hcl, ho, p, pk, hd, hp⟩ := ref_up (c := b) hK (by omega)
  obtain ⟨cl', m', x', hcl', ho', q, qk, hd', hq⟩ := ref_up (c := c) hK hc
  obtain ⟨hpk, lp, ep⟩ := hp hb
  refine ev_eq numeraryref10_middle.f_eq (Ev.bind ho (Ev.bind ho' (Ev.bind hd (Ev.bind hd' ?_))))
  by_cases h : c = 9218868437227405312
  · obtain ⟨F, hF⟩ : ∃ F, F = 972 := ⟨_, rfl⟩
    have hi := rdec_up (m := 4503599627370496) (c := F) (by decide) (by omega)
    rw [show ((F : Nat) : Int) = 972 by omega] at hi
    refine ev_pos (hcl'.mpr h) (Ev.bind hi ?_)
    have l1 := dn_two 4503599627370496 F
    have l2 := dn_small (n := 4503599627370496) (by decide)
    exact middle_tail (qk := 0) hK hY hv lv hk hpk (Nat.zero_le _) lp (by omega) ep (by rw [h, Nb_inf hK hF, Nat.pow_zero, Nat.mul_one])
  · obtain ⟨hqk, lq, eq⟩ := hq (by omega)
    exact ev_neg (fun h' => h (hcl'.mp h')) (middle_tail hK hY hv lv hk hpk hqk lp lq ep eq)
theorem near10 {v k X Y K b : Nat} (hK : K = 1074) (hY : 0 < Y) (hv : v * Y = X * 10 ^ k) (lv : dn v ≤ 10000) (hk : k ≤ 10000) (h0 : 0 < b) (hb : b < 9218868437227405312) [Decidable (Mid (X * 2 ^ K) Y b)] :
    Ev (numeraryref10_Near.f (D v) (k : Int) (b : Int)) (decide (Mid (X * 2 ^ K) Y b)) := by
  have m1 := middle_ok (c := b + 1) hK hY hv lv hk hb (by omega)
  have m2 := middle_ok (c := b - 1) hK hY hv lv hk hb (by omega)
  have hm : Mid (X * 2 ^ K) Y b ↔ (2 * (X * 2 ^ K) ≤ Y * (Nb b + Nb (b + 1)) ∧ (2 * (X * 2 ^ K) = Y * (Nb b + Nb (b + 1)) → b % 2 = 0)) ∧ (Y * (Nb b + Nb (b - 1)) ≤ 2 * (X * 2 ^ K) ∧ (2 * (X * 2 ^ K) = Y * (Nb b + Nb (b - 1)) → b % 2 = 0)) := by
    unfold Mid
    rw [Nat.add_comm (Nb (b - 1))]
    exact ⟨fun h => ⟨h.1 hb, h.2 h0⟩, fun h => ⟨fun _ => h.1, fun _ => h.2⟩⟩
  refine ev_eq numeraryref10_Near.f_eq ?_
  rw [show IntKind.u64.wrap ((b : Int) + 1) = ((b + 1 : Nat) : Int) by rw [u64_id (by omega) (by omega)]; omega, show IntKind.u64.wrap ((b : Int) - 1) = ((b - 1 : Nat) : Int) by rw [u64_id (by omega) (by omega)]; omega, show ((b : Nat) : Int).tmod 2 = ((b % 2 : Nat) : Int) from rfl]
  refine Ev.bind m1 (Ev.bind m2 ?_)
  generalize 2 * (X * 2 ^ K) = A at *
  generalize Y * (Nb b + Nb (b + 1)) = B at *
  generalize Y * (Nb b + Nb (b - 1)) = C at *
  have yes : (A ≤ B ∧ (A = B → b % 2 = 0)) ∧ (C ≤ A ∧ (A = C → b % 2 = 0)) → decide (Mid (X * 2 ^ K) Y b) = true := fun h => decide_eq_true (hm.mpr h)
  have no : ¬ ((A ≤ B ∧ (A = B → b % 2 = 0)) ∧ (C ≤ A ∧ (A = C → b % 2 = 0))) → decide (Mid (X * 2 ^ K) Y b) = false := fun h => decide_eq_false (fun h' => h (hm.mp h'))
  have par : ∀ {P : Prop} [Decidable P], (P ↔ (A ≤ B ∧ (A = B → b % 2 = 0)) ∧ (C ≤ A ∧ (A = C → b % 2 = 0))) → decide P = decide (Mid (X * 2 ^ K) Y b) := fun h => by rw [decide_eq_decide, hm]; exact h
  have lower : A ≤ B → (A = B → b % 2 = 0) → Ev (if cmpI A C > 0 then (M.ret true) else (if cmpI A C = 0 then (M.ret (decide (((b % 2 : Nat) : Int) = 0))) else (M.ret false))) (decide (Mid (X * 2 ^ K) Y b)) := by
    intro q1 q2
    by_cases c1 : C < A
    · exact ev_pos (cmpI_gt.mpr c1) (ev_now (yes ⟨⟨q1, q2⟩, by omega, by omega⟩).symm)
    · refine ev_neg (fun h => c1 (cmpI_gt.mp h)) ?_
      by_cases c2 : A = C
      · refine ev_pos (cmpI_eq0.mpr c2) (ev_now (par ?_))
        omega
      · exact ev_neg (fun h => c2 (cmpI_eq0.mp h)) (ev_now (no (by omega)).symm)
  by_cases c1 : A < B
  · exact ev_pos (cmpI_lt.mpr c1) (lower (by omega) (by omega))
  · refine ev_neg (fun h => c1 (cmpI_lt.mp h)) ?_
    by_cases c2 : A = B
    · refine ev_pos (cmpI_eq0.mpr c2) ?_
      by_cases c3 : b % 2 = 0
      · exact ev_pos (by omega) (lower (by omega) (fun _ => c3))
      · exact ev_neg (by omega) (ev_now (no (by omega)).symm)
    · exact ev_neg (fun h => c2 (cmpI_eq0.mp h)) (ev_now (no (by omega)).symm)
end Go.Proofs.YtglepnebcidjmaaGreatDoor.F

/- Decimals with an exponent: made of a quotient, read, and asked after. -/
namespace Go.Proofs.YtglepnebcidjmaaGreatDoor.F
open Go Go.Proofs.YtglepnebcidjmaaGreatDoor.E
set_option linter.unusedVariables false
set_option linter.unusedSimpArgs false
def Lead (l : List Nat) : Prop := isD l ∧ ∃ c t, l = c :: t ∧ c ≠ 48
theorem may_ok {l : List Nat} {e : Int} (h : Lead l) (hl : l.length ≤ 400) (h1 : -5000 ≤ e) (h2 : e ≤ 5000) : Ev (short_may.f (S l, e)) (L (num l), true) := by
  obtain ⟨hD, c, t, hc, hn⟩ := h
  have hb := byteAt_S hD.dg 0
  rw [show (((0 : Nat) : Nat) : Int) = 0 from rfl] at hb
  have hg : gd l 0 = c := by rw [hc, gd_cons_zero]
  have ne : l ≠ [] := by rw [hc]; simp
  have hlen : 0 < l.length := by rw [hc]; simp
  refine ev_eq short_may.f_eq (Ev.bind (parse_ok hD ne (by omega)) (ev_neg (by simp) (ev_neg (by dsimp only; rw [S_size]; omega) (ev_pos (by decide) (ev_pos (by dsimp only; rw [S_size]; omega) (ev_neg (by dsimp only; rw [hb]; omega) (ev_neg (by dsimp only; omega) (ev_neg (by dsimp only; omega) (ev_now rfl)))))))))
theorem num_ln {l : List Nat} (h : isD l) (hl : l.length ≤ 400) : ln (num l) ≤ 60 ∧ dn (num l) ≤ l.length := by
  have h1 := num_lt h
  have h2 := ln_pow10 l.length
  have h3 := ln_mono (Nat.le_of_lt h1)
  exact ⟨by omega, (dg_len b10 _ _).mpr h1⟩
theorem back_ok {l : List Nat} {e q : Int} {K : Nat} (hK : K = 1074) (h : Lead l) (hl : l.length ≤ 400) (h1 : -5000 ≤ e) (h2 : e ≤ 5000) (hq : q = e - (l.length : Int) + 1) :
    ∃ b : Nat, b ≤ 9218868437227405312 ∧ Ev (short_Back.f (S l, e)) ((b : Int), true) ∧ Mid (num l * 10 ^ q.toNat * 2 ^ K) (10 ^ (-q).toNat) b := by
  have k1 := (num_ln h.1 hl).1
  have k2 := ln_pow10 q.toNat
  have k3 := ln_pow10 (-q).toNat
  have k4 := ln_mul (num l) (10 ^ q.toNat)
  obtain ⟨b, hb, hn, hm⟩ := near_tot (X := num l * 10 ^ q.toNat) (Y := 10 ^ (-q).toNat) hK (Nat.pow_pos (by decide)) (by omega) (by omega)
  refine ⟨b, hb, ?_, hm⟩
  have w : IntKind.i64.wrap (IntKind.i64.wrap (e - ((S l).size : Int)) + 1) = q := by rw [S_size, wrap_id (x := e - (l.length : Int)) (by omega) (by omega), wrap_id (by omega) (by omega)]; exact hq.symm
  have w2 : IntKind.i64.wrap (0 - q) = -q := by rw [wrap_id (by omega) (by omega)]; omega
  refine ev_eq short_Back.f_eq (Ev.bind (may_ok h hl h1 h2) (ev_neg (by simp) ?_))
  dsimp only
  rw [w, w2]
  exact Ev.bind (ten_or (by omega) (by omega)) (Ev.bind (nmul (by omega) (by omega)) (Ev.bind (ten_or (by omega) (by omega)) (Ev.bind hn (ev_now rfl))))
theorem lead_dg {l : List Nat} (h : Lead l) : l.reverse.map (· - 48) = dg 10 (num l) := by
  have h1 := decs0_num h.1 (.inr h.2)
  generalize num l = n at *
  rw [← h1]
  unfold decs0
  rw [← List.map_reverse, List.reverse_reverse, List.map_map]
  have : ((· - 48) ∘ fun x : Nat => 48 + x) = id := by funext x; show 48 + x - 48 = x; omega
  rw [this, List.map_id]
theorem number_loop {l : List Nat} {e : Int} {R : List Int × Int} (hD : isD l) (hl : l.length ≤ 400) (fin : Ev (numeraryref10_Number.l0 (S l) e (nl (l.reverse.map (· - 48))) (-1)) R) :
    ∀ k, k ≤ l.length → Ev (numeraryref10_Number.l0 (S l) e (nl ((l.drop k).reverse.map (· - 48))) ((k : Int) - 1)) R := by
  intro k
  induction k with
  | zero => intro _; exact fin
  | succ k ih =>
    intro hk
    have hc := byteAt_S hD.dg k
    have e1 : l.drop k = gd l k :: l.drop (k + 1) := drop_cons _ k (by omega)
    have hx : 48 ≤ gd l k ∧ gd l k ≤ 57 := hD (gd l k) (by
      have : gd l k ∈ l.drop k := by rw [e1]; exact List.mem_cons_self ..
      exact List.mem_of_mem_drop this)
    have ek : (((k + 1 : Nat) : Int) - 1) = (k : Int) := by omega
    have hi : IntKind.i64.wrap (IntKind.i64.wrap (((gd l k : Nat) : Int)) - 48) = ((gd l k - 48 : Nat) : Int) := by rw [wrap_id (x := ((gd l k : Nat) : Int)) (by omega) (by omega), wrap_id (by omega) (by omega)]; omega
    have hj : IntKind.i64.wrap ((k : Int) - 1) = (k : Int) - 1 := wrap_id (by omega) (by omega)
    rw [ek]
    refine ev_loop numeraryref10_Number.l0_eq numeraryref10_Number.l0_step (ev_pos (by omega) (ev_pos (by omega) (ev_pos (by rw [S_size]; omega) ?_)))
    refine ev_pos (by rw [nl_length, List.length_map, List.length_reverse, List.length_drop]; simp; omega) ?_
    rw [hc, hi, hj]
    have := ih (by omega)
    rw [e1, List.reverse_cons, List.map_append] at this
    have e2 : nl ((l.drop (k + 1)).reverse.map (· - 48)) ++ [((gd l k - 48 : Nat) : Int)] = nl ((l.drop (k + 1)).reverse.map (· - 48) ++ [gd l k].map (· - 48)) := by unfold nl; simp
    rw [e2]
    exact this
theorem number_ok {l : List Nat} {e q : Int} (h : Lead l) (hl : l.length ≤ 400) (h1 : -5001 ≤ e) (h2 : e ≤ 5001) (hq : q = e - (l.length : Int) + 1) :
    ∃ v k : Nat, Ev (numeraryref10_Number.f (S l) e) (D v, (k : Int)) ∧ dn v ≤ 10000 ∧ k ≤ 10000 ∧ v * 10 ^ (-q).toNat = num l * 10 ^ q.toNat * 10 ^ k := by
  have k1 := (num_ln h.1 hl).2
  have w : IntKind.i64.wrap (IntKind.i64.wrap (((S l).size : Int) - 1) - e) = -q := by rw [S_size, wrap_id (x := (l.length : Int) - 1) (by omega) (by omega), wrap_id (by omega) (by omega)]; omega
  have start : ∀ {R : List Int × Int}, Ev (numeraryref10_Number.l0 (S l) e (nl (l.reverse.map (· - 48))) (-1)) R → Ev (numeraryref10_Number.f (S l) e) R := by
    intro R fin
    have := number_loop h.1 hl fin l.length (Nat.le_refl _)
    rw [List.drop_length] at this
    refine ev_eq numeraryref10_Number.f_eq ?_
    rw [S_size, wrap_id (by omega) (by omega)]
    exact this
  have hD : nl (l.reverse.map (· - 48)) = D (num l) := by rw [lead_dg h]; rfl
  by_cases c : 0 < q
  · have k2 := dn_ten (num l) q.toNat
    refine ⟨num l * 10 ^ q.toNat, 0, start ?_, by omega, by decide, ?_⟩
    · refine ev_loop numeraryref10_Number.l0_eq numeraryref10_Number.l0_step (ev_neg (by omega) ?_)
      rw [w, hD, show IntKind.i64.wrap (0 - -q) = ((q.toNat : Nat) : Int) by rw [wrap_id (by omega) (by omega)]; omega]
      exact ev_pos (by omega) (Ev.bind (rtens_up (by omega) (by omega)) (ev_now rfl))
    · rw [show (-q).toNat = 0 by omega]
  · refine ⟨num l, (-q).toNat, start ?_, by omega, by omega, ?_⟩
    · refine ev_loop numeraryref10_Number.l0_eq numeraryref10_Number.l0_step (ev_neg (by omega) ?_)
      rw [w, hD]
      exact ev_neg (by omega) (ev_now (by rw [show (((-q).toNat : Nat) : Int) = -q by omega]))
    · rw [show q.toNat = 0 by omega, Nat.pow_zero, Nat.mul_one]
theorem sci_text {N m : Nat} {e : Int} (hm : 1 ≤ m) (h1 : 10 ^ (m - 1) ≤ N) (h2 : N ≤ 10 ^ m) :
    ∃ (l : List Nat) (e' : Int), sciOf N m e = (S l, e') ∧ Lead l ∧ l.length = m ∧ (e' = e ∨ e' = e + 1) ∧ (N = 10 ^ m ∨ num l = N) ∧ num l * 10 ^ (e' - (m : Int) + 1).toNat * 10 ^ (-(e - (m : Int) + 1)).toNat = N * 10 ^ (e - (m : Int) + 1).toNat * 10 ^ (-(e' - (m : Int) + 1)).toNat := by
  have lead : ∀ {M : Nat}, 0 < M → Lead (decs0 M) := fun hM => ⟨decs0_isD _, by
    obtain ⟨c, t, h3, h4, h5⟩ := decs0_head hM
    exact ⟨c, t, h3, by omega⟩⟩
  by_cases c : N = 10 ^ m
  · refine ⟨decs0 (10 ^ (m - 1)), e + 1, by unfold sciOf; rw [if_pos c], lead (Nat.pow_pos (by decide)), by rw [decs0_len, dn_ten_pow]; omega, .inr rfl, .inl c, ?_⟩
    rw [num_decs0, c, ← Nat.pow_add, ← Nat.pow_add, ← Nat.pow_add, ← Nat.pow_add]
    congr 1
    omega
  · have hp : 0 < 10 ^ (m - 1) := Nat.pow_pos (by decide)
    refine ⟨decs0 N, e, by unfold sciOf; rw [if_neg c], lead (by omega), ?_, .inl rfl, .inr (num_decs0 N), ?_⟩
    · rw [decs0_len]
      have a1 : dn N ≤ m := (dg_len b10 _ _).mpr (by omega)
      have a2 : ¬ dn N ≤ m - 1 := fun h => by have := (dg_len b10 _ _).mp h; omega
      omega
    · rw [num_decs0]
/-- The bits nearest to so many decimals of a quotient. -/
def At (n d : Nat) (e : Int) (K m b : Nat) : Prop := Mid (sc n d ((m : Int) - 1 - e) * 10 ^ (e - (m : Int) + 1).toNat * 2 ^ K) (10 ^ (-(e - (m : Int) + 1)).toNat) b
theorem at_uniq {n d K m b c : Nat} {e : Int} (hb : b ≤ 9218868437227405312) (hc : c ≤ 9218868437227405312) (h : At n d e K m b) (k : At n d e K m c) : b = c := mid_uniq (Nat.pow_pos (by decide)) hb hc h k
theorem pair_back {n d m K : Nat} {e : Int} (hK : K = 1074) (hE : IsE n d e) (hd : 0 < d) (hm : 1 ≤ m) (hm2 : m ≤ 400) (he : -4000 ≤ e) (he2 : e ≤ 4000) :
    ∃ b : Nat, b ≤ 9218868437227405312 ∧ Ev (short_Back.f (sciOf (sc n d ((m : Int) - 1 - e)) m e)) ((b : Int), true) ∧ At n d e K m b := by
  obtain ⟨s1, s2⟩ := sc_bounds hE hd hm
  obtain ⟨l, e', h1, h2, h3, h4, _, h5⟩ := sci_text (e := e) hm s1 s2
  obtain ⟨b, hb, hev, hmid⟩ := back_ok (q := e' - (m : Int) + 1) hK h2 (by omega) (show -5000 ≤ e' by omega) (by omega) (by rw [h3])
  rw [h1]
  exact ⟨b, hb, hev, (mid_scale (Nat.pow_pos (by decide)) (Nat.pow_pos (by decide)) h5).mp hmid⟩
theorem pair_near {n d m K : Nat} {e : Int} (hK : K = 1074) (hE : IsE n d e) (hd : 0 < d) (hm : 1 ≤ m) (hm2 : m ≤ 400) (he : -4000 ≤ e) (he2 : e ≤ 4000) :
    ∃ v k : Nat, Ev (numeraryref10_Number.f (sciOf (sc n d ((m : Int) - 1 - e)) m e).1 (sciOf (sc n d ((m : Int) - 1 - e)) m e).2) (D v, (k : Int)) ∧ ∀ {b : Nat} {r : Bool}, 0 < b → b < 9218868437227405312 → (r = true ↔ At n d e K m b) → Ev (numeraryref10_Near.f (D v) (k : Int) (b : Int)) r := by
  obtain ⟨s1, s2⟩ := sc_bounds hE hd hm
  obtain ⟨l, e', h1, h2, h3, h4, _, h5⟩ := sci_text (e := e) hm s1 s2
  obtain ⟨v, k, hev, dv, hk, hv⟩ := number_ok (q := e' - (m : Int) + 1) h2 (by omega) (show -5001 ≤ e' by omega) (by omega) (by rw [h3])
  rw [h1]
  refine ⟨v, k, hev, fun {b r} h0 hb hr => ?_⟩
  haveI := Classical.propDecidable (Mid (num l * 10 ^ (e' - (m : Int) + 1).toNat * 2 ^ K) (10 ^ (-(e' - (m : Int) + 1)).toNat) b)
  have := near10 (b := b) hK (Nat.pow_pos (by decide)) hv dv hk h0 hb
  have e1 : r = decide (Mid (num l * 10 ^ (e' - (m : Int) + 1).toNat * 2 ^ K) (10 ^ (-(e' - (m : Int) + 1)).toNat) b) := by
    have h6 : r = true ↔ Mid (num l * 10 ^ (e' - (m : Int) + 1).toNat * 2 ^ K) (10 ^ (-(e' - (m : Int) + 1)).toNat) b := hr.trans (mid_scale (Nat.pow_pos (by decide)) (Nat.pow_pos (by decide)) h5).symm
    cases r with
    | true => exact (decide_eq_true (h6.mp rfl)).symm
    | false => exact (decide_eq_false (fun h => by have := h6.mpr h; cases this)).symm
  rw [e1]
  exact this
/-- Seventeen decimals tell the bits. -/
theorem seventeen {n d K b : Nat} {e : Int} (hE : IsE n d e) (hd : 0 < d) (hb : n * 2 ^ K = Nb b * d) : At n d e K 17 b := by
  unfold At
  obtain ⟨q, hq⟩ : ∃ q : Int, q = e - ((17 : Nat) : Int) + 1 := ⟨_, rfl⟩
  obtain ⟨c, hc⟩ : ∃ c, c = q.toNat := ⟨_, rfl⟩
  obtain ⟨a, ha⟩ : ∃ a, a = (-q).toNat := ⟨_, rfl⟩
  have hN := near_spec (x := n * 10 ^ a) (y := d * 10 ^ c) (Nat.mul_pos hd (Nat.pow_pos (by decide))) rfl
  have hsc : sc n d (((17 : Nat) : Int) - 1 - e) = near (n * 10 ^ a) (d * 10 ^ c) := by
    unfold sc
    rw [show (((17 : Nat) : Int) - 1 - e).toNat = a by omega, show (-(((17 : Nat) : Int) - 1 - e)).toNat = c by omega]
  rw [hsc, ← hq, ← hc, ← ha]
  generalize near (n * 10 ^ a) (d * 10 ^ c) = N at *
  obtain ⟨n1, n2⟩ := hN
  have big := (hE (16 + c) a (by omega)).1
  have p2 : 0 < 2 ^ K := Nat.pow_pos (by decide)
  have pa : 0 < 10 ^ a := Nat.pow_pos (by decide)
  -- over the denominator
  have g1 : 2 * (N * 10 ^ c * 2 ^ K) ≤ 10 ^ a * (2 * Nb b) + 10 ^ c * 2 ^ K := by
    refine Nat.le_of_mul_le_mul_right (c := d) ?_ hd
    calc 2 * (N * 10 ^ c * 2 ^ K) * d = 2 * N * (d * 10 ^ c) * 2 ^ K := by grind
      _ ≤ (2 * (n * 10 ^ a) + d * 10 ^ c) * 2 ^ K := Nat.mul_le_mul_right _ n1
      _ = 2 * 10 ^ a * (n * 2 ^ K) + d * 10 ^ c * 2 ^ K := by grind
      _ = (10 ^ a * (2 * Nb b) + 10 ^ c * 2 ^ K) * d := by rw [hb]; grind
  have g2 : 10 ^ a * (2 * Nb b) ≤ 2 * (N * 10 ^ c * 2 ^ K) + 10 ^ c * 2 ^ K := by
    refine Nat.le_of_mul_le_mul_right (c := d) ?_ hd
    have n3 : 2 * (n * 10 ^ a) ≤ (2 * N + 1) * (d * 10 ^ c) := by
      have : (2 * N + 2) * (d * 10 ^ c) = (2 * N + 1) * (d * 10 ^ c) + d * 10 ^ c := by grind
      omega
    calc 10 ^ a * (2 * Nb b) * d = 2 * 10 ^ a * (n * 2 ^ K) := by rw [hb]; grind
      _ = 2 * (n * 10 ^ a) * 2 ^ K := by grind
      _ ≤ (2 * N + 1) * (d * 10 ^ c) * 2 ^ K := Nat.mul_le_mul_right _ n3
      _ = (2 * (N * 10 ^ c * 2 ^ K) + 10 ^ c * 2 ^ K) * d := by grind
  have g3 : 10000000000000000 * (10 ^ c * 2 ^ K) ≤ 10 ^ a * Nb b := by
    refine Nat.le_of_mul_le_mul_right (c := d) ?_ hd
    calc 10000000000000000 * (10 ^ c * 2 ^ K) * d = d * 10 ^ (16 + c) * 2 ^ K := by rw [Nat.pow_add]; grind
      _ ≤ n * 10 ^ a * 2 ^ K := Nat.mul_le_mul_right _ big
      _ = 10 ^ a * (n * 2 ^ K) := by grind
      _ = 10 ^ a * Nb b * d := by rw [hb]; grind
  unfold Mid
  have pG : 0 < 10 ^ c * 2 ^ K := Nat.mul_pos (Nat.pow_pos (by decide)) p2
  generalize 10 ^ c * 2 ^ K = G at *
  generalize 2 * (N * 10 ^ c * 2 ^ K) = U at *
  generalize 10 ^ a = Y at *
  constructor
  · intro _
    obtain ⟨g, hg, h1, h2⟩ := Nb_fine b
    rw [h1] at h2 ⊢
    have k1 : Y * (Nb b + g) ≤ Y * (9007199254740992 * g) := Nat.mul_le_mul_left _ h2
    have k2 : Y * (9007199254740992 * g) = 9007199254740992 * (Y * g) := by grind
    have k3 : Y * (Nb b + (Nb b + g)) = Y * (2 * Nb b) + Y * g := by grind
    have k4 : Y * (Nb b + g) = Y * Nb b + Y * g := Nat.mul_add _ _ _
    have k5 : 0 < Y * g := Nat.mul_pos pa hg
    rw [k3]
    generalize Y * (2 * Nb b) = A at *
    generalize Y * g = B at *
    omega
  · intro h0
    obtain ⟨z, rfl⟩ : ∃ z, b = z + 1 := ⟨b - 1, by omega⟩
    obtain ⟨g, hg, h1, h2⟩ := Nb_fine z
    rw [Nat.add_sub_cancel]
    have k1 : Y * Nb (z + 1) ≤ Y * (9007199254740992 * g) := Nat.mul_le_mul_left _ h2
    have k2 : Y * (9007199254740992 * g) = 9007199254740992 * (Y * g) := by grind
    have k3 : Y * (Nb z + Nb (z + 1)) + Y * g = Y * (2 * Nb (z + 1)) := by rw [h1]; grind
    have k5 : 0 < Y * g := Nat.mul_pos pa hg
    generalize Y * (2 * Nb (z + 1)) = A at *
    generalize Y * (Nb z + Nb (z + 1)) = C at *
    generalize Y * g = B at *
    omega
end Go.Proofs.YtglepnebcidjmaaGreatDoor.F

/- The shortest decimals of 64 bits, and the document's. -/
namespace Go.Proofs.YtglepnebcidjmaaGreatDoor.F
open Go Go.Proofs.YtglepnebcidjmaaGreatDoor.E
set_option linter.unusedVariables false
set_option linter.unusedSimpArgs false
theorem mask_b {s e f : Nat} (hs : s ≤ 1) (he : e < 2048) (hf : f < 4503599627370496) : IntKind.u64.wrap ((BitVec.ofInt IntKind.u64.bits ((W s e f : Nat) : Int) &&& BitVec.ofInt IntKind.u64.bits 9223372036854775807).toNat) = ((e * 4503599627370496 + f : Nat) : Int) := by
  rw [b64_and (a := W s e f) (b := 9223372036854775807) (y := 9223372036854775807) (by unfold W; omega) (by decide) rfl rfl, and_mask63]
  congr 1
  unfold W; omega
theorem mask_n {s e f : Nat} (hs : s ≤ 1) (he : e < 2048) (hf : f < 4503599627370496) : IntKind.u64.wrap ((BitVec.ofInt IntKind.u64.bits ((W s e f : Nat) : Int) &&& ~~~ BitVec.ofInt IntKind.u64.bits 9223372036854775808).toNat) = ((e * 4503599627370496 + f : Nat) : Int) := by
  rw [show (~~~ BitVec.ofInt IntKind.u64.bits 9223372036854775808) = BitVec.ofInt IntKind.u64.bits 9223372036854775807 by decide]
  exact mask_b hs he hf
theorem Nb_W {e f : Nat} (hf : f < 4503599627370496) : Nb (e * 4503599627370496 + f) = if e = 0 then f else (f + 4503599627370496) * 2 ^ (e - 1) := by
  by_cases c : e = 0
  · subst c
    rw [if_pos rfl, Nb_at (E := 0) (M := f) rfl (by omega) (.inl rfl), Nat.pow_zero, Nat.mul_one]
  · obtain ⟨d, rfl⟩ : ∃ d, e = d + 1 := ⟨e - 1, by omega⟩
    rw [if_neg c]
    exact Nb_at (E := d) (M := f + 4503599627370496) (by omega) (by omega) (.inr (by omega))
theorem isE_bd {n d : Nat} {e : Int} (hn : 0 < n) (hd : 0 < d) (h : IsE n d e) (l1 : ln n ≤ 100) (l2 : ln d ≤ 100) : -2000 ≤ e ∧ e ≤ 2000 := by
  have d1 := dn_of_ln l1
  have d2 := dn_of_ln l2
  have b1 : n < 10 ^ dn n := dg_lt b10 n
  have b2 : d < 10 ^ dn d := dg_lt b10 d
  constructor
  · by_cases c : -2000 ≤ e
    · exact c
    · exfalso
      obtain ⟨v, hv⟩ : ∃ v : Nat, (v : Int) = -e := ⟨(-e).toNat, by omega⟩
      have h1 := (h 0 v (by omega)).2
      have h2 : 10 ^ v < 10 ^ (dn d + 1) := by
        calc 10 ^ v ≤ n * 10 ^ v := Nat.le_mul_of_pos_left _ hn
          _ < d * 10 ^ (0 + 1) := h1
          _ ≤ 10 ^ dn d * 10 ^ 1 := Nat.mul_le_mul_right _ (Nat.le_of_lt b2)
          _ = 10 ^ (dn d + 1) := (Nat.pow_add ..).symm
      have := (Nat.pow_lt_pow_iff_right (by decide)).mp h2
      omega
  · by_cases c : e ≤ 2000
    · exact c
    · exfalso
      obtain ⟨u, hu⟩ : ∃ u : Nat, (u : Int) = e := ⟨e.toNat, by omega⟩
      have h1 := (h u 0 (by omega)).1
      have h2 : 10 ^ u < 10 ^ dn n := by
        calc 10 ^ u ≤ d * 10 ^ u := Nat.le_mul_of_pos_left _ hd
          _ ≤ n * 10 ^ 0 := h1
          _ < 10 ^ dn n := by rw [Nat.pow_zero, Nat.mul_one]; exact b1
      have := (Nat.pow_lt_pow_iff_right (by decide)).mp h2
      omega
theorem value_nil {s e f : Nat} (hs : s ≤ 1) (he : e < 2048) (hf : f < 4503599627370496) (h : e = 2047 ∨ (e = 0 ∧ f = 0)) : Ev (short_value.f ((W s e f : Nat) : Int)) ((([] : List Int), ([] : List Int)), false) ∧ (V s e f).1 ≠ 1 := by
  have hv : (V s e f).1 ≠ 1 := by
    unfold V
    rcases h with h | ⟨h, h'⟩
    · rw [if_pos h]; split <;> simp
    · rw [if_neg (by omega), if_pos h, if_pos h']; simp
  exact ⟨ev_eq short_value.f_eq (Ev.bind (bits_of hs he hf) (ev_pos hv (ev_now rfl))), hv⟩
theorem short_ok {s e f K : Nat} (hK : K = 1074) (hs : s ≤ 1) (he : e < 2047) (hf : f < 4503599627370496) (h0 : ¬(e = 0 ∧ f = 0)) :
    ∃ (r : List Int × List Int) (n d p pk m : Nat) (x y e0 : Int), V s e f = (1, decide (s = 1), x, y) ∧ 0 < n ∧ 0 < d ∧ RQ r n d 100 ∧ IsE n d e0 ∧ (-2000 ≤ e0 ∧ e0 ≤ 2000) ∧ Ev (ratio_Value.f (V s e f)) (r, true) ∧ Ev (short_value.f ((W s e f : Nat) : Int)) (r, true) ∧
      Ev (numeraryref07_Decimals.f x y) (D p, (pk : Int)) ∧ pk ≤ 1074 ∧ dn p ≤ 4000 ∧ p * d = n * 10 ^ pk ∧ 1 ≤ m ∧ m ≤ 17 ∧ Ev (short_Digits.f ((W s e f : Nat) : Int)) (sciOf (sc n d ((m : Int) - 1 - e0)) m e0, true) ∧
      (∀ j : Nat, 1 ≤ j → j < m → ¬ At n d e0 K j (e * 4503599627370496 + f)) ∧ At n d e0 K m (e * 4503599627370496 + f) ∧ n * 2 ^ K = Nb (e * 4503599627370496 + f) * d := by
  obtain ⟨cl, x, y, r, n, d, p, pk, hV, hcl, hz, hz2, hd, hr, ln1, ln2, hv, hdec, hpk, hp, hpe, _, _, _, hN⟩ := val64N hs he hf
  have hn : 0 < n := by
    rcases Nat.eq_zero_or_pos n with h | h
    · exact absurd (hz2.mpr h) h0
    · exact h
  have hc1 : cl = 1 := by
    rcases hcl with h | h
    · have := hz.mp h; omega
    · exact h
  subst hc1
  have hNb : n * 2 ^ K = Nb (e * 4503599627370496 + f) * d := by rw [Nb_W hf]; exact hN K hK
  obtain ⟨e0, hE, _, _, _⟩ := exp_ok hr hd hn (by decide)
  obtain ⟨hb1, hb2⟩ := isE_bd hn hd hE ln1 ln2
  have hsv : Ev (short_value.f ((W s e f : Nat) : Int)) (r, true) := by
    refine ev_eq short_value.f_eq (Ev.bind (bits_of hs (by omega) hf) (ev_neg (by rw [hV]; simp) (Ev.bind hv (ev_now rfl))))
  have h17 := seventeen hE hd hNb
  have hto : ∀ m : Nat, 1 ≤ m → m ≤ 17 → Ev (round_To.f r (m : Int)) (sciOf (sc n d ((m : Int) - 1 - e0)) m e0, true) := by
    intro m h1 h2
    have := to_ok (m := m) hr hd hn (by decide) h1 (by omega) hE
    rwa [if_pos (by omega)] at this
  have hB : e * 4503599627370496 + f ≤ 9218868437227405312 := by omega
  have loop : ∀ k m : Nat, m + k = 17 → 1 ≤ m → (∀ j : Nat, 1 ≤ j → j < m → ¬ At n d e0 K j (e * 4503599627370496 + f)) → ∃ m' : Nat, m' ≤ 17 ∧ 1 ≤ m' ∧ Ev (short_Digits.l0 ((W s e f : Nat) : Int) ByteArray.empty 0 r.1 r.2 (m : Int)) (sciOf (sc n d ((m' : Int) - 1 - e0)) m' e0, true) ∧ (∀ j : Nat, 1 ≤ j → j < m' → ¬ At n d e0 K j (e * 4503599627370496 + f)) ∧ At n d e0 K m' (e * 4503599627370496 + f) := by
    intro k
    induction k with
    | zero =>
      intro m hm h1 hj
      obtain rfl : m = 17 := by omega
      exact ⟨17, Nat.le_refl _, by decide, ev_loop short_Digits.l0_eq short_Digits.l0_step (ev_neg (by decide) (Ev.bind (hto 17 (by decide) (by decide)) (ev_now rfl))), hj, h17⟩
    | succ k ih =>
      intro m hm h1 hj
      obtain ⟨b, hb, hev, hat⟩ := pair_back hK hE hd h1 (by omega) (by omega) (by omega)
      by_cases c : b = e * 4503599627370496 + f
      · subst c
        exact ⟨m, by omega, h1, ev_loop short_Digits.l0_eq short_Digits.l0_step (ev_pos (by omega) (Ev.bind (hto m h1 (by omega)) (Ev.bind hev (ev_pos rfl (ev_pos (mask_n hs (by omega) hf).symm (ev_now rfl)))))), hj, hat⟩
      · obtain ⟨m', q1, q2, q3, q4, q5⟩ := ih (m + 1) (by omega) (by omega) (fun j j1 j2 hA => by
          by_cases cj : j = m
          · subst cj; exact c (at_uniq hb hB hat hA)
          · exact hj j j1 (by omega) hA)
        refine ⟨m', q1, q2, ev_loop short_Digits.l0_eq short_Digits.l0_step (ev_pos (by omega) (Ev.bind (hto m h1 (by omega)) (Ev.bind hev (ev_pos rfl (ev_neg (fun h => ?_) ?_))))), q4, q5⟩
        · rw [mask_n hs (by omega) hf] at h
          have h' : (b : Int) = ((e * 4503599627370496 + f : Nat) : Int) := h
          omega
        · rw [show IntKind.i64.wrap ((m : Int) + 1) = ((m + 1 : Nat) : Int) by rw [wrap_id (by omega) (by omega)]; omega]
          exact q3
  obtain ⟨m, q1, q2, q3, q4, q5⟩ := loop 16 1 rfl (Nat.le_refl _) (fun j h1 h2 => by omega)
  exact ⟨r, n, d, p, pk, m, x, y, e0, hV, hn, hd, hr, hE, ⟨hb1, hb2⟩, hv, hsv, hdec, hpk, hp, hpe, q2, q1, ev_eq short_Digits.f_eq (Ev.bind hsv (ev_neg (by simp) q3)), q4, q5, hNb⟩
theorem short_nil {s e f : Nat} (hs : s ≤ 1) (he : e < 2048) (hf : f < 4503599627370496) (h : e = 2047 ∨ (e = 0 ∧ f = 0)) : Ev (short_Digits.f ((W s e f : Nat) : Int)) ((ByteArray.empty, 0), false) ∧ Ev (short_Fifteen.f ((W s e f : Nat) : Int)) ((ByteArray.empty, 0), false) := by
  obtain ⟨h1, _⟩ := value_nil hs he hf h
  exact ⟨ev_eq short_Digits.f_eq (Ev.bind h1 (ev_pos rfl (ev_now rfl))), ev_eq short_Fifteen.f_eq (Ev.bind h1 (ev_pos rfl (ev_now rfl)))⟩
/-- What the document rounds a quotient to. -/
theorem rto_at {n d P k m : Nat} {e : Int} (hE : IsE n d e) (hd : 0 < d) (hn : 0 < n) (hP : P * d = n * 10 ^ k) (dP : dn P ≤ 100000) (hk : k ≤ 100000) (hm : 1 ≤ m) (hm2 : m ≤ 400) :
    Ev (numeraryref09_To.f (D P) (k : Int) (m : Int)) (sciOf (sc n d ((m : Int) - 1 - e)) m e) := by
  have hP0 : 0 < P := by
    rcases Nat.eq_zero_or_pos P with h | h
    · rw [h, Nat.zero_mul] at hP
      have := Nat.mul_pos hn (Nat.pow_pos (a := 10) (n := k) (by decide))
      omega
    · exact h
  have h := rto_ok (m := m) hP0 dP hk hm hm2
  have e1 : (dn P : Int) - 1 - (k : Int) = e := ((rexp_is (k := k) hP0).scale (Nat.pow_pos (by decide)) hd hP.symm).uniq hE
  rw [e1, sc_scale (n := n) (d := d) hd (Nat.pow_pos (by decide)) hP] at h
  exact h
theorem ref_digits {n d P k K b m : Nat} {e x y : Int} {z : Int} (hK : K = 1074) (hE : IsE n d e) (hd : 0 < d) (hn : 0 < n) (he : -2000 ≤ e ∧ e ≤ 2000) (hP : P * d = n * 10 ^ k) (dP : dn P ≤ 4000) (hk : k ≤ 1074) (h0 : 0 < b) (hb : b < 9218868437227405312)
    (hm1 : 1 ≤ m) (hm2 : m ≤ 17) (hj : ∀ j, 1 ≤ j → j < m → ¬ At n d e K j b) (hat : At n d e K m b) :
    Ev (numeraryref10_Digits.l0 (b : Int) (D P) (k : Int) 1) (sciOf (sc n d ((m : Int) - 1 - e)) m e) := by
  have loop : ∀ c i : Nat, i + c = m → 1 ≤ i → Ev (numeraryref10_Digits.l0 (b : Int) (D P) (k : Int) (i : Int)) (sciOf (sc n d ((m : Int) - 1 - e)) m e) := by
    intro c
    induction c with
    | zero =>
      intro i hi h1
      obtain rfl : i = m := by omega
      by_cases c17 : i < 17
      · obtain ⟨v, q, hv, hnear⟩ := pair_near hK hE hd h1 (by omega) (by omega) (by omega)
        exact ev_loop numeraryref10_Digits.l0_eq numeraryref10_Digits.l0_step (ev_pos (by omega) (Ev.bind (rto_at hE hd hn hP (by omega) (by omega) h1 (by omega)) (Ev.bind hv (Ev.bind (hnear (r := true) h0 hb ⟨fun _ => hat, fun _ => rfl⟩) (ev_pos rfl (ev_now rfl))))))
      · obtain rfl : i = 17 := by omega
        exact ev_loop numeraryref10_Digits.l0_eq numeraryref10_Digits.l0_step (ev_neg (by decide) (Ev.bind (rto_at (m := 17) hE hd hn hP (by omega) (by omega) h1 (by omega)) (ev_now rfl)))
    | succ c ih =>
      intro i hi h1
      obtain ⟨v, q, hv, hnear⟩ := pair_near hK hE hd h1 (by omega) (by omega) (by omega)
      refine ev_loop numeraryref10_Digits.l0_eq numeraryref10_Digits.l0_step (ev_pos (by omega) (Ev.bind (rto_at hE hd hn hP (by omega) (by omega) h1 (by omega)) (Ev.bind hv (Ev.bind (hnear (r := false) h0 hb ⟨fun h => (by cases h), fun h => absurd h (hj i h1 (by omega))⟩) (ev_neg (by simp) ?_)))))
      rw [show IntKind.i64.wrap ((i : Int) + 1) = ((i + 1 : Nat) : Int) by rw [wrap_id (by omega) (by omega)]; omega]
      exact ih (i + 1) (by omega) (by omega)
  exact loop (m - 1) 1 (by omega) (Nat.le_refl _)
end Go.Proofs.YtglepnebcidjmaaGreatDoor.F

/- Plain texts of decimals with an exponent. -/
namespace Go.Proofs.YtglepnebcidjmaaGreatDoor.F
open Go Go.Proofs.YtglepnebcidjmaaGreatDoor.E
set_option linter.unusedVariables false
set_option linter.unusedSimpArgs false
def joinedL (i fr : List Nat) : List Nat := if trimR fr = [] then i else (i ++ [46]) ++ trimR fr
def plainOf (l : List Nat) (e : Int) : List Nat :=
  if e < 0 then joinedL [48] (List.replicate (-1 - e).toNat 48 ++ l) else joinedL (l.take (e + 1).toNat ++ List.replicate ((e + 1).toNat - l.length) 48) (l.drop (e + 1).toNat)
theorem S_eq0 {l : List Nat} : S l = (⟨#[]⟩ : ByteArray) ↔ l = [] := ⟨fun h => by
  by_cases c : l = []
  · exact c
  · exact absurd h (S_ne c), fun h => by rw [h]; rfl⟩
theorem S_dot : (⟨#[46]⟩ : ByteArray) = S [46] := rfl
theorem trim_tail {i fr : List Nat} (hD : Dg 256 fr) (hi : i.length ≤ 100000) (hf : fr.length ≤ 100000) :
    Ev (M.bind (digits_Trim.f (S fr)) fun t5 => (if t5 = (⟨#[]⟩ : ByteArray) then (M.ret (S i, true)) else (if (S i).size + (⟨#[46]⟩ : ByteArray).size ≤ 9223372036854775807 then (if ((S i) ++ (⟨#[46]⟩ : ByteArray)).size + t5.size ≤ 9223372036854775807 then (M.ret (((S i) ++ (⟨#[46]⟩ : ByteArray)) ++ t5, true)) else M.none) else M.none))) (S (joinedL i fr), true) := by
  have hle := trimR_le fr
  refine Ev.bind (trim_S hD (by omega)) ?_
  unfold joinedL
  by_cases c : trimR fr = []
  · rw [if_pos c]
    exact ev_pos (S_eq0.mpr c) (ev_now rfl)
  · rw [if_neg c]
    refine ev_neg (fun h => c (S_eq0.mp h)) ?_
    rw [S_dot, S_app, S_app]
    exact ev_pos (by rw [S_size, S_size]; simp; omega) (ev_pos (by rw [S_size, S_size]; simp; omega) (ev_now rfl))
theorem plain_ten {l : List Nat} {e : Int} (h : Lead l) (hl : l.length ≤ 400) (h1 : -5000 ≤ e) (h2 : e ≤ 5000) : Ev (short_Plain.f (S l, e)) (S (plainOf l e), true) := by
  have hlen : 0 < l.length := by
    obtain ⟨_, c, t, hc, _⟩ := h
    rw [hc]; simp
  have w : IntKind.i64.wrap (e + 1) = e + 1 := wrap_id (by omega) (by omega)
  have hd := h.1.dg
  refine ev_eq short_Plain.f_eq (Ev.bind (may_ok h hl h1 h2) (ev_neg (by simp) ?_))
  dsimp only
  rw [w, S_size]
  unfold plainOf
  by_cases c : e < 0
  · rw [if_pos c]
    obtain ⟨k, hk⟩ : ∃ k : Nat, (k : Int) = -1 - e := ⟨(-1 - e).toNat, by omega⟩
    rw [show (-1 - e).toNat = k by omega]
    have e1 : S (List.replicate (k + 1) 48) ++ S l = S (48 :: (List.replicate k 48 ++ l)) := by rw [S_app, List.replicate_succ]; rfl
    refine ev_pos (by omega) (Ev.bind (repeat_S (k := k + 1) (by rw [wrap_id (by omega) (by omega)]; omega) (by omega)) ?_)
    rw [e1]
    have e2 : (S (48 :: (List.replicate k 48 ++ l))).extract 1 (S (48 :: (List.replicate k 48 ++ l))).size = S (List.replicate k 48 ++ l) := by
      rw [S_ext, S_size, List.take_length]; rfl
    have e3 : (S (48 :: (List.replicate k 48 ++ l))).extract 0 1 = S [48] := by rw [S_ext]; rfl
    rw [e2, e3]
    have hz : (S (48 :: (List.replicate k 48 ++ l))).size = k + 1 + l.length := by rw [S_size]; simp; omega
    rw [hz]
    refine ev_pos (by rw [S_size, List.length_replicate]; omega) (ev_neg (by omega) (ev_pos (by decide) (ev_pos (by omega) (ev_pos (by decide) (ev_pos (by omega) ?_)))))
    exact trim_tail ((isD.rep k).app h.1).dg (by decide) (by simp; omega)
  · rw [if_neg c]
    obtain ⟨p, hp⟩ : ∃ p : Nat, (p : Int) = e + 1 := ⟨(e + 1).toNat, by omega⟩
    rw [← hp, Int.toNat_natCast]
    refine ev_neg (by omega) ?_
    by_cases c2 : l.length < p
    · obtain ⟨r, hr⟩ : ∃ r, p = l.length + r := ⟨p - l.length, by omega⟩
      rw [List.take_of_length_le (by omega), List.drop_of_length_le (by omega), show p - l.length = r by omega]
      refine ev_pos (by omega) (Ev.bind (repeat_S (k := r) (by rw [wrap_id (by omega) (by omega)]; omega) (by omega)) ?_)
      rw [S_app]
      have hz : (l ++ List.replicate r 48).length = p := by simp; omega
      have e2 : (S (l ++ List.replicate r 48)).extract p (S (l ++ List.replicate r 48)).size = S [] := by
        rw [S_ext, S_size, List.take_length, List.drop_of_length_le (by omega)]
      have e3 : (S (l ++ List.replicate r 48)).extract 0 p = S (l ++ List.replicate r 48) := by rw [S_ext, List.take_of_length_le (by omega)]; rfl
      rw [e2, e3]
      refine ev_pos (by rw [S_size, List.length_replicate]; omega) (ev_pos (by omega) (ev_pos (by rw [S_size]; omega) (ev_pos (by omega) (ev_pos (by rw [S_size]; omega) ?_))))
      exact trim_tail (Dg.nil _) (by omega) (by simp)
    · rw [show p - l.length = 0 by omega, List.replicate_zero, List.append_nil]
      have e2 : (S l).extract p (S l).size = S (l.drop p) := by rw [S_ext, S_size, List.take_length]
      have e3 : (S l).extract 0 p = S (l.take p) := by rw [S_ext]; rfl
      rw [S_size] at e2
      rw [e2, e3]
      refine ev_neg (by omega) (ev_pos (by omega) (ev_pos (by omega) (ev_pos (by omega) (ev_pos (by omega) ?_))))
      exact trim_tail (hd.drop p) (by rw [List.length_take]; omega) (by rw [List.length_drop]; omega)
theorem take_snoc {l : List Nat} {j : Nat} (h : j < l.length) : l.take (j + 1) = l.take j ++ [gd l j] := by
  rw [List.take_add_one, List.getElem?_eq_getElem h]
  unfold gd
  rw [List.getD_eq_getElem?_getD, List.getElem?_eq_getElem h]
  rfl
theorem rplain2 {i fr : List Nat} (hD : Dg 256 fr) (hi : i.length ≤ 100000) (hf : fr.length ≤ 100000) : ∀ j, j ≤ fr.length → trimR fr = trimR (fr.take j) → Ev (numeraryref10_Plain.l2 (S i) (S fr) (j : Int)) (S (joinedL i fr)) := by
  intro j
  induction j with
  | zero =>
    intro _ h
    rw [List.take_zero, trimR_nil] at h
    refine ev_loop numeraryref10_Plain.l2_eq numeraryref10_Plain.l2_step (ev_neg (by omega) (ev_pos (by rfl) (ev_now ?_)))
    unfold joinedL
    rw [if_pos h]
  | succ j ih =>
    intro hj h
    have hb := byteAt_S hD j
    rw [take_snoc (by omega), trimR_snoc] at h
    have w : IntKind.i64.wrap (((j + 1 : Nat) : Int) - 1) = (j : Int) := by rw [wrap_id (by omega) (by omega)]; omega
    refine ev_loop numeraryref10_Plain.l2_eq numeraryref10_Plain.l2_step (ev_pos (by omega) ?_)
    rw [w, hb]
    refine ev_pos (by omega) (ev_pos (by rw [S_size]; omega) ?_)
    by_cases c : gd fr j = 48
    · rw [if_pos c] at h
      exact ev_pos (by omega) (ih (by omega) h)
    · rw [if_neg c, ← take_snoc (by omega)] at h
      have ne : trimR fr ≠ [] := by
        rw [h]; intro h'
        have := congrArg List.length h'
        rw [List.length_take] at this
        have h2 : min (j + 1) fr.length = 0 := this
        omega
      refine ev_neg (by omega) (ev_neg (by omega) ?_)
      rw [S_ext, List.drop_zero, Int.toNat_natCast, S_dot, S_app, S_app]
      refine ev_pos (by rw [S_size, S_size]; simp; omega) (ev_pos (by omega) (ev_pos (by rw [S_size]; omega) (ev_pos (by rw [S_size, S_size, List.length_take]; simp; omega) (ev_now ?_))))
      unfold joinedL
      rw [if_neg ne, h]
theorem rplain {l : List Nat} {e : Int} (h : isD l) (hl : l.length ≤ 400) (h1 : -5000 ≤ e) (h2 : e ≤ 5000) : Ev (numeraryref10_Plain.f (S l) e) (S (plainOf l e)) := by
  have hd := h.dg
  have start : ∀ {i fr : List Nat}, Dg 256 fr → i.length ≤ 100000 → fr.length ≤ 100000 → Ev (numeraryref10_Plain.l2 (S i) (S fr) ((S fr).size : Int)) (S (joinedL i fr)) := by
    intro i fr hD hi hf
    rw [S_size]
    exact rplain2 hD hi hf fr.length (Nat.le_refl _) (by rw [List.take_length])
  unfold plainOf
  by_cases c : e < 0
  · rw [if_pos c]
    refine ev_eq numeraryref10_Plain.f_eq ?_
    obtain ⟨K, hK⟩ : ∃ k : Nat, (k : Int) = -1 - e := ⟨(-1 - e).toNat, by omega⟩
    rw [show (-1 - e).toNat = K by omega]
    refine ev_pos c (ev_loop numeraryref10_Plain.l0_eq numeraryref10_Plain.l0_step (ev_neg (by omega) ?_))
    have loop : ∀ r k, k + r = K → Ev (numeraryref10_Plain.l1 (S l) e (S [48]) (S (List.replicate k 48)) (-1 - (k : Int))) (S (joinedL [48] (List.replicate K 48 ++ l))) := by
      intro r
      induction r with
      | zero =>
        intro k hk
        obtain rfl : k = K := by omega
        refine ev_loop numeraryref10_Plain.l1_eq numeraryref10_Plain.l1_step (ev_neg (by omega) (ev_pos c (ev_pos (by rw [S_size, S_size, List.length_replicate]; omega) (ev_neg (by omega) ?_))))
        rw [S_app]
        exact start ((isD.rep k).app h).dg (by decide) (by simp; omega)
      | succ r ih =>
        intro k hk
        refine ev_loop numeraryref10_Plain.l1_eq numeraryref10_Plain.l1_step (ev_pos (by omega) (ev_pos (by rw [S_size, List.length_replicate, show (⟨#[48]⟩ : ByteArray).size = 1 from rfl]; omega) ?_))
        have := ih (k + 1) (by omega)
        rw [List.replicate_succ', ← S_app, show (-1 - ((k + 1 : Nat) : Int)) = -1 - (k : Int) - 1 by omega] at this
        rw [wrap_id (x := -1 - (k : Int) - 1) (by omega) (by omega)]
        exact this
    exact loop K 0 (by omega)
  · rw [if_neg c]
    refine ev_eq numeraryref10_Plain.f_eq ?_
    obtain ⟨p, hp⟩ : ∃ p : Nat, (p : Int) = e + 1 := ⟨(e + 1).toNat, by omega⟩
    rw [← hp, Int.toNat_natCast]
    refine ev_neg c ?_
    have loop : ∀ r i, i + r = p → Ev (numeraryref10_Plain.l0 (S l) e (S (l.take i ++ List.replicate (i - l.length) 48)) (i : Int)) (S (joinedL (l.take p ++ List.replicate (p - l.length) 48) (l.drop p))) := by
      intro r
      induction r with
      | zero =>
        intro i hi
        obtain rfl : i = p := by omega
        have hil : (l.take i ++ List.replicate (i - l.length) 48).length ≤ 100000 := by simp; omega
        refine ev_loop numeraryref10_Plain.l0_eq numeraryref10_Plain.l0_step (ev_neg (by omega) ?_)
        refine ev_loop numeraryref10_Plain.l1_eq numeraryref10_Plain.l1_step (ev_neg (by omega) (ev_neg c (ev_pos (by omega) ?_)))
        rw [wrap_id (x := e + 1) (by omega) (by omega), ← hp, Int.toNat_natCast]
        by_cases c2 : i < l.length
        · have e2 : (S l).extract i (S l).size = S (l.drop i) := by rw [S_ext, S_size, List.take_length]
          rw [e2]
          exact ev_pos (by rw [S_size]; omega) (ev_pos (by omega) (ev_pos (by rw [S_size]; omega) (start (hd.drop i) hil (by rw [List.length_drop]; omega))))
        · refine ev_neg (by rw [S_size]; omega) ?_
          have := start (i := l.take i ++ List.replicate (i - l.length) 48) (fr := []) (Dg.nil _) hil (by simp)
          rw [List.drop_of_length_le (by omega)]
          exact this
      | succ r ih =>
        intro i hi
        have w : IntKind.i64.wrap ((i : Int) + 1) = ((i + 1 : Nat) : Int) := by rw [wrap_id (by omega) (by omega)]; omega
        refine ev_loop numeraryref10_Plain.l0_eq numeraryref10_Plain.l0_step (ev_pos (by omega) ?_)
        rw [w]
        have := ih (i + 1) (by omega)
        by_cases c2 : i < l.length
        · rw [take_snoc c2, show i + 1 - l.length = 0 by omega, List.replicate_zero, List.append_nil] at this
          rw [show i - l.length = 0 by omega, List.replicate_zero, List.append_nil, S_ext, Int.toNat_natCast, Int.toNat_natCast]
          have e2 : (l.take (i + 1)).drop i = [gd l i] := by
            rw [take_snoc c2, List.drop_left' (by rw [List.length_take]; omega)]
          rw [e2, S_app]
          exact ev_pos (by rw [S_size]; omega) (ev_pos (by omega) (ev_pos (by rw [S_size]; omega) (ev_pos (by omega) (ev_pos (by omega) (ev_pos (by rw [S_size, S_size, List.length_take]; simp; omega) this)))))
        · rw [List.take_of_length_le (by omega), show i + 1 - l.length = (i - l.length) + 1 by omega, List.replicate_succ', ← List.append_assoc] at this
          rw [List.take_of_length_le (by omega), show (⟨#[48]⟩ : ByteArray) = S [48] from rfl, S_app]
          exact ev_neg (by rw [S_size]; omega) (ev_pos (by rw [S_size, S_size]; simp; omega) this)
    have := loop p 0 (by omega)
    rw [List.take_zero, Nat.zero_sub, List.replicate_zero, List.append_nil] at this
    exact this
/-- Fifteen decimals without the noughts at their end. -/
theorem fifteen_ok {x : Int} {r : List Int × List Int} {n d : Nat} {e : Int} {l : List Nat} {e' : Int} (hv : Ev (short_value.f x) (r, true)) (hr : RQ r n d 100) (hn : 0 < n) (hd : 0 < d) (hE : IsE n d e) (he : -2000 ≤ e ∧ e ≤ 2000) (hs : sciOf (sc n d (((15 : Nat) : Int) - 1 - e)) 15 e = (S l, e')) (hl : Lead l) (hll : l.length = 15) :
    Ev (short_Fifteen.f x) ((S (trimR l), e'), true) := by
  have ht := to_ok (m := 15) hr hd hn (by decide) (by decide) (by decide) hE
  rw [if_pos (by omega), hs] at ht
  exact ev_eq short_Fifteen.f_eq (Ev.bind hv (ev_neg (by simp) (Ev.bind ht (Ev.bind (trim_S hl.1.dg (by omega)) (ev_now rfl)))))
theorem rtrim10 {l : List Nat} (h : Lead l) (hl : l.length ≤ 100000) : Ev (numeraryref10_Trim.f (S l)) (S (trimR l)) := by
  obtain ⟨hD, c, t, hc, hn⟩ := h
  have h0 : gd l 0 = c := by rw [hc, gd_cons_zero]
  have hlen : 0 < l.length := by rw [hc]; simp
  have loop : ∀ j, 1 ≤ j → j ≤ l.length → trimR l = trimR (l.take j) → Ev (numeraryref10_Trim.l0 (S l) (j : Int)) (S (trimR l)) := by
    intro j
    induction j with
    | zero => intro h; omega
    | succ j ih =>
      intro _ hj h
      have hb := byteAt_S hD.dg j
      have keep : gd l j ≠ 48 → S ((l.take (j + 1)).drop 0) = S (trimR l) := fun hg => by
        rw [h, take_snoc (by omega), trimR_snoc, if_neg hg]; rfl
      have w : IntKind.i64.wrap (((j + 1 : Nat) : Int) - 1) = (j : Int) := by rw [wrap_id (by omega) (by omega)]; omega
      refine ev_loop numeraryref10_Trim.l0_eq numeraryref10_Trim.l0_step ?_
      rw [w, hb, S_ext, Int.toNat_natCast]
      by_cases c1 : 1 ≤ j
      · refine ev_pos (by omega) (ev_pos (by omega) (ev_pos (by rw [S_size]; omega) ?_))
        by_cases c2 : gd l j = 48
        · rw [take_snoc (by omega), trimR_snoc, if_pos c2] at h
          exact ev_pos (by omega) (ih c1 (by omega) h)
        · exact ev_neg (by omega) (ev_pos (by omega) (ev_pos (by rw [S_size]; omega) (ev_now (keep c2))))
      · obtain rfl : j = 0 := by omega
        exact ev_neg (by omega) (ev_pos (by omega) (ev_pos (by rw [S_size]; omega) (ev_now (keep (by rw [h0]; exact hn)))))
  refine ev_eq numeraryref10_Trim.f_eq ?_
  rw [S_size]
  exact loop l.length hlen (Nat.le_refl _) (by rw [List.take_length])
end Go.Proofs.YtglepnebcidjmaaGreatDoor.F

/- Signs of life of the shortest decimals; texts that are none. -/
namespace Go.Proofs.YtglepnebcidjmaaGreatDoor.F
open Go Go.Proofs.YtglepnebcidjmaaGreatDoor.E
set_option linter.unusedVariables false
set_option linter.unusedSimpArgs false
theorem conc {n d K b M E k : Nat} {e0 e : Int} (hN : n * 2 ^ K = Nb b * d) (hb : Nb b = M * 2 ^ E) (hEk : K = E + k) (hd : 0 < d) (hE : IsE n d e0) (hI : IsE M (2 ^ k) e) : e0 = e ∧ ∀ t, sc n d t = sc M (2 ^ k) t := by
  have hx : n * 2 ^ k = M * d := by
    refine Nat.eq_of_mul_eq_mul_right (Nat.pow_pos (a := 2) (n := E) (by decide)) ?_
    calc n * 2 ^ k * 2 ^ E = n * 2 ^ K := by rw [hEk, Nat.pow_add]; grind
      _ = M * d * 2 ^ E := by rw [hN, hb]; grind
  have p2 : 0 < 2 ^ k := Nat.pow_pos (by decide)
  exact ⟨hE.uniq (hI.scale p2 hd hx), fun t => sc_scale p2 hd hx⟩
theorem mid_num {E M b Y u0 : Nat} (hb : b = E * 4503599627370496 + M) (h1 : 4503599627370496 < M) (h2 : M < 9007199254740992) (c1 : 2 * u0 < Y * (2 * M + 1)) (c2 : Y * (2 * M - 1) < 2 * u0) : Mid (u0 * 2 ^ E) Y b := by
  have p : 0 < 2 ^ E := Nat.pow_pos (by decide)
  have n0 := Nb_at hb (by omega) (.inr (by omega))
  have n1 := Nb_at (b := b + 1) (E := E) (M := M + 1) (by omega) (by omega) (.inr (by omega))
  have n2 := Nb_at (b := b - 1) (E := E) (M := M - 1) (by omega) (by omega) (.inr (by omega))
  unfold Mid
  rw [n0, n1, n2]
  have e1 : Y * (M * 2 ^ E + (M + 1) * 2 ^ E) = Y * (2 * M + 1) * 2 ^ E := by grind
  have e2 : Y * ((M - 1) * 2 ^ E + M * 2 ^ E) = Y * (2 * M - 1) * 2 ^ E := by
    rw [← Nat.add_mul, show M - 1 + M = 2 * M - 1 by omega, Nat.mul_assoc]
  have e3 : 2 * (u0 * 2 ^ E) = 2 * u0 * 2 ^ E := by grind
  have k1 : 2 * u0 * 2 ^ E < Y * (2 * M + 1) * 2 ^ E := Nat.mul_lt_mul_of_pos_right c1 p
  have k2 : Y * (2 * M - 1) * 2 ^ E < 2 * u0 * 2 ^ E := Nat.mul_lt_mul_of_pos_right c2 p
  rw [e1, e2, e3]
  exact ⟨fun _ => ⟨by omega, fun h => by omega⟩, fun _ => ⟨by omega, fun h => by omega⟩⟩
theorem wakes10 : Ev (numerarylaw10_wakes.f ()) true := by
  obtain ⟨K, hK⟩ : ∃ K, K = 1074 := ⟨_, rfl⟩
  obtain ⟨r, n, d, p, pk, m, x, y, e0, hV, hn, hd, hr, hE, hb, hv, hsv, hdec, hpk, hp, hpe, m1, m2, hdig, hno, hat, hNb⟩ := short_ok (s := 0) (e := 1019) (f := 2702159776422298) hK (by decide) (by decide) (by decide) (by decide)
  obtain ⟨E, hEv⟩ : ∃ E, E = 1018 := ⟨_, rfl⟩
  have n0 := Nb_at (b := 1019 * 4503599627370496 + 2702159776422298) (E := E) (M := 7205759403792794) (by omega) (by decide) (.inr (by decide))
  have hI : IsE 7205759403792794 (2 ^ 56) (-1) := IsE.of (u := 0) (v := 1) (by decide) (by decide) (by decide)
  obtain ⟨rfl, hsc⟩ := conc (k := 56) hNb n0 (by omega) hd hE hI
  have one : Mid (1 * 2 ^ K) 10 (1019 * 4503599627370496 + 2702159776422298) := by
    have := mid_num (E := E) (M := 7205759403792794) (b := 1019 * 4503599627370496 + 2702159776422298) (Y := 10) (u0 := 2 ^ 56) (by omega) (by decide) (by decide) (by decide) (by decide)
    rwa [← Nat.pow_add, show 56 + E = K by omega, ← Nat.one_mul (2 ^ K)] at this
  have hsc1 : sc n d (((1 : Nat) : Int) - 1 - -1) = 1 := by rw [hsc]; decide
  have at1 : At n d (-1) K 1 (1019 * 4503599627370496 + 2702159776422298) := by
    unfold At
    rw [hsc1]
    exact one
  have hm : m = 1 := by
    by_cases c : m = 1
    · exact c
    · exact absurd at1 (hno 1 (Nat.le_refl _) (by omega))
  subst hm
  rw [hsc1, show sciOf 1 1 (-1) = (S [49], -1) by unfold sciOf; rw [if_neg (by decide), decs0_lit (l := [49]) (n := 1) (by unfold isD; decide) (.inr ⟨_, _, rfl, by decide⟩) (by decide)], show ((W 0 1019 2702159776422298 : Nat) : Int) = 4591870180066957722 by decide] at hdig
  have l1 : Lead [49] := ⟨by unfold isD; decide, _, _, rfl, by decide⟩
  have hpl := plain_ten (e := -1) l1 (by decide) (by decide) (by decide)
  rw [show plainOf [49] (-1) = [48, 46, 49] by decide] at hpl
  obtain ⟨b', hb', hbk, hmid⟩ := back_ok (e := -1) (q := -1) hK l1 (by decide) (by decide) (by decide) (by decide)
  have hbb := mid_uniq (by decide) hb' (by decide) hmid one
  subst hbb
  obtain ⟨r3, n3, d3, p3, pk3, m3, x3, y3, e3, _, hn3, hd3, hr3, hE3, hb3, _, hsv3, _, _, _, _, _, _, _, _, _, hNb3⟩ := short_ok (s := 0) (e := 1021) (f := 1501199875790165) hK (by decide) (by decide) (by decide) (by decide)
  obtain ⟨E3, hEv3⟩ : ∃ E, E = 1020 := ⟨_, rfl⟩
  have n03 := Nb_at (b := 1021 * 4503599627370496 + 1501199875790165) (E := E3) (M := 6004799503160661) (by omega) (by decide) (.inr (by decide))
  have hI3 : IsE 6004799503160661 (2 ^ 54) (-1) := IsE.of (u := 0) (v := 1) (by decide) (by decide) (by decide)
  obtain ⟨rfl, hsc3⟩ := conc (k := 54) hNb3 n03 (by omega) hd3 hE3 hI3
  have hs15 : sciOf (sc n3 d3 (((15 : Nat) : Int) - 1 - -1)) 15 (-1) = (S (List.replicate 15 51), -1) := by
    rw [hsc3, show sc 6004799503160661 (2 ^ 54) (((15 : Nat) : Int) - 1 - -1) = 333333333333333 by decide]
    unfold sciOf
    rw [if_neg (by decide), decs0_lit (l := List.replicate 15 51) (n := 333333333333333) (by unfold isD; decide) (.inr ⟨_, _, rfl, by decide⟩) (by decide)]
  have hff := fifteen_ok hsv3 hr3 hn3 hd3 hE3 hb3 hs15 ⟨by unfold isD; decide, _, _, rfl, by decide⟩ (by decide)
  rw [show trimR (List.replicate 15 51) = List.replicate 15 51 by decide, show ((W 0 1021 1501199875790165 : Nat) : Int) = 4599676419421066581 by decide] at hff
  refine ev_eq numerarylaw10_wakes.f_eq (Ev.bind hdig (Ev.bind hpl (Ev.bind hbk (Ev.bind hff (ev_pos rfl (ev_pos ⟨rfl, rfl⟩ (ev_pos rfl (ev_pos rfl (ev_pos rfl (ev_pos rfl (ev_pos rfl (ev_now (decide_eq_true ⟨rfl, rfl⟩)))))))))))))
/-- What may be read. -/
def May (l : List Nat) (e : Int) : Prop := Lead l ∧ l.length ≤ 400 ∧ -5000 ≤ e ∧ e ≤ 5000
theorem may_no {l : List Nat} {e : Int} (hd : Dg 256 l) (hl : l.length ≤ 900000) (h : ¬ May l e) : Ev (short_may.f (S l, e)) (([] : List Int), false) := by
  refine ev_eq short_may.f_eq ?_
  by_cases c0 : l = []
  · subst c0
    exact Ev.bind parse_none (ev_pos rfl (ev_now rfl))
  by_cases c1 : isD l
  · refine Ev.bind (parse_ok c1 c0 hl) (ev_neg (by simp) ?_)
    dsimp only
    rw [S_size]
    by_cases c2 : l.length ≤ 400
    · have hb := byteAt_S c1.dg 0
      rw [show (((0 : Nat) : Nat) : Int) = 0 from rfl] at hb
      have hlen : 0 < l.length := List.length_pos_iff.mpr c0
      refine ev_neg (by omega) (ev_pos (by decide) (ev_pos (by omega) ?_))
      by_cases c3 : gd l 0 = 48
      · exact ev_pos (by rw [hb]; omega) (ev_now rfl)
      · refine ev_neg (by rw [hb]; omega) ?_
        have hL : Lead l := by
          refine ⟨c1, ?_⟩
          cases l with
          | nil => exact absurd rfl c0
          | cons a t => exact ⟨a, t, rfl, by rw [gd_cons_zero] at c3; exact c3⟩
        by_cases c4 : e < -5000
        · exact ev_pos c4 (ev_now rfl)
        · by_cases c5 : e > 5000
          · exact ev_neg c4 (ev_pos c5 (ev_now rfl))
          · exact absurd ⟨hL, c2, by omega, by omega⟩ h
    · exact ev_pos (by omega) (ev_now rfl)
  · exact Ev.bind (parse_bad hd c1 hl) (ev_pos rfl (ev_now rfl))
theorem law_may {l : List Nat} {e : Int} (hd : Dg 256 l) (hl : l.length ≤ 900000) {r : Bool} (hr : r = true ↔ May l e) : Ev (numerarylaw10_may.f (S l, e)) r := by
  have no : ¬ May l e → r = false := fun h => by
    cases r with
    | false => rfl
    | true => exact absurd (hr.mp rfl) h
  refine ev_eq numerarylaw10_may.f_eq ?_
  dsimp only
  rw [S_size]
  by_cases c0 : l.length < 1
  · exact ev_pos (by omega) (ev_now (no (fun h => by obtain ⟨⟨_, c, t, hc, _⟩, _⟩ := h; rw [hc] at c0; simp at c0)).symm)
  refine ev_neg (by omega) ?_
  by_cases c1 : l.length ≤ 400
  · have hb := byteAt_S hd 0
    rw [show (((0 : Nat) : Nat) : Int) = 0 from rfl] at hb
    refine ev_neg (by omega) (ev_pos (by decide) (ev_pos (by omega) ?_))
    rw [hb]
    by_cases c2 : gd l 0 = 48
    · exact ev_pos (by omega) (ev_now (no (fun h => by obtain ⟨⟨_, c, t, hc, hn⟩, _⟩ := h; rw [hc, gd_cons_zero] at c2; exact hn c2)).symm)
    · refine ev_neg (by omega) ?_
      by_cases c3 : e < -5000
      · exact ev_pos c3 (ev_now (no (fun h => by have := h.2.2.1; omega)).symm)
      · refine ev_neg c3 ?_
        by_cases c4 : e > 5000
        · exact ev_pos c4 (ev_now (no (fun h => by have := h.2.2.2; omega)).symm)
        · refine ev_neg c4 ?_
          have loop : ∀ k i, i + k = l.length → isD (l.take i) → Ev (numerarylaw10_may.l0 (S l) e (l.length : Int) (i : Int)) r := by
            intro k
            induction k with
            | zero =>
              intro i hi hp
              rw [show i = l.length by omega, List.take_length] at hp
              have hL : Lead l := by
                refine ⟨hp, ?_⟩
                cases l with
                | nil => simp at c0
                | cons a t => exact ⟨a, t, rfl, by rw [gd_cons_zero] at c2; exact c2⟩
              exact ev_loop numerarylaw10_may.l0_eq numerarylaw10_may.l0_step (ev_neg (by omega) (ev_now (hr.mpr ⟨hL, c1, by omega, by omega⟩).symm))
            | succ k ih =>
              intro i hi hp
              have hbi := byteAt_S hd i
              have hmem : gd l i ∈ l := by
                unfold gd; rw [List.getD_eq_getElem?_getD, List.getElem?_eq_getElem (by omega)]
                exact List.getElem_mem _
              refine ev_loop numerarylaw10_may.l0_eq numerarylaw10_may.l0_step (ev_pos (by omega) (ev_pos (by omega) (ev_pos (by rw [S_size]; omega) ?_)))
              rw [hbi]
              by_cases d1 : gd l i < 48
              · exact ev_pos (by omega) (ev_now (no (fun h => by have := h.1.1 _ hmem; omega)).symm)
              · refine ev_neg (by omega) (ev_pos (by omega) (ev_pos (by rw [S_size]; omega) ?_))
                by_cases d2 : gd l i > 57
                · exact ev_pos (by omega) (ev_now (no (fun h => by have := h.1.1 _ hmem; omega)).symm)
                · refine ev_neg (by omega) ?_
                  rw [show IntKind.i64.wrap ((i : Int) + 1) = ((i + 1 : Nat) : Int) by rw [wrap_id (by omega) (by omega)]; omega]
                  exact ih (i + 1) (by omega) (by rw [take_snoc (by omega)]; exact hp.app (isD.cons (by omega) isD.nil))
          exact loop l.length 0 (by omega) (by rw [List.take_zero]; exact isD.nil)
  · exact ev_pos (by omega) (ev_now (no (fun h => c1 h.2.1)).symm)
end Go.Proofs.YtglepnebcidjmaaGreatDoor.F

/- Decimals as bits are the nearest, by the document's Near; never negative nor Nothing. -/
namespace Go.Proofs.YtglepnebcidjmaaGreatDoor.Pure
open Go Go.Proofs.YtglepnebcidjmaaGreatDoor.E Go.Proofs.YtglepnebcidjmaaGreatDoor.F
set_option linter.unusedVariables false
set_option linter.unusedSimpArgs false
theorem bytes_in {l : List Int} (h : ∀ x ∈ l, (Lit.int .u8 x).wf = true) : ∃ t : List Nat, l = nl t ∧ Dg 256 t := by
  refine ⟨l.map Int.toNat, toNl fun x hx => (wf_u8 (h x hx)).1, fun y hy => ?_⟩
  obtain ⟨x, hx, rfl⟩ := List.mem_map.mp hy
  have := wf_u8 (h x hx)
  omega
theorem digs_isD (m : List Nat) : isD (m.map fun c => 48 + c % 10) := fun c hc => by
  obtain ⟨x, _, rfl⟩ := List.mem_map.mp hc
  omega
theorem dig_wrap (g : Nat) : IntKind.u8.wrap (48 + ((g : Nat) : Int).tmod 10) = ((48 + g % 10 : Nat) : Int) := by
  rw [show ((g : Nat) : Int).tmod 10 = ((g % 10 : Nat) : Int) from rfl, u8_id (by omega) (by omega)]; omega
theorem map_snoc {u : List Nat} {i : Nat} (h : i < u.length) : (u.take i).map (fun c => 48 + c % 10) ++ [48 + gd u i % 10] = (u.take (i + 1)).map (fun c => 48 + c % 10) := by
  rw [take_snoc h, List.map_append]; rfl
theorem ShortNear (a0 : List Int) (h0 : ∀ n ∈ a0, (Lit.int .u8 n).wf = true) (s0 : a0.length * 1 ≤ 140737488351232) (a1 : Int) (h1 : (Lit.int .i64 a1).wf = true) : Ev (numerarylaw10_ShortNear.f a0 a1) true := by
  obtain ⟨t, rfl, ht⟩ := bytes_in h0
  obtain ⟨f1, f2, f3⟩ := few_of (l := t) 20 (N := 20) rfl
  refine ev_eq numerarylaw10_ShortNear.f_eq (ev_pos f2 (ev_pos f3 ?_))
  rw [f1]
  obtain ⟨u, hu⟩ : ∃ u, u = t.take 20 := ⟨_, rfl⟩
  have hul : u.length ≤ 20 := by rw [hu, List.length_take]; omega
  rw [← hu, nl_length]
  clear hu f1 f2 f3
  obtain ⟨K, hK⟩ : ∃ K, K = 1074 := ⟨_, rfl⟩
  obtain ⟨e, he, e1, e2⟩ : ∃ e : Int, mxI (-330) (mnI a1 300) = e ∧ -330 ≤ e ∧ e ≤ 300 := ⟨_, rfl, by unfold mxI mnI; split <;> (try split) <;> omega, by unfold mxI mnI; split <;> (try split) <;> omega⟩
  have loop : ∀ k i, i + k = u.length → Ev (numerarylaw10_ShortNear.l0 a1 (S (53 :: (u.take i).map fun c => 48 + c % 10)) (nl u) (u.length : Int) (i : Int)) true := by
    intro k
    induction k with
    | zero =>
      intro i hi
      refine ev_loop numerarylaw10_ShortNear.l0_eq numerarylaw10_ShortNear.l0_step (ev_neg (by omega) ?_)
      rw [he]
      obtain ⟨l, hl⟩ : ∃ l, l = 53 :: (u.take i).map fun c => 48 + c % 10 := ⟨_, rfl⟩
      have hL : Lead l := by rw [hl]; exact ⟨isD.cons (by decide) (digs_isD _), _, _, rfl, by decide⟩
      have hll : l.length ≤ 400 := by rw [hl]; simp; omega
      rw [← hl]
      obtain ⟨b, hb, hbk, hmid⟩ := back_ok (e := e) hK hL hll (by omega) (by omega) rfl
      obtain ⟨v, q, hnum, dv, hq, hv⟩ := number_ok (e := e) hL hll (by omega) (by omega) rfl
      obtain ⟨s, x, f, hs, hx, hf, hW⟩ := W_split (b := b) (by omega)
      have hs0 : s = 0 := by unfold W at hW; omega
      subst hs0
      have ho := ref_of (s := 0) (e := x) (f := f) (by decide) hx hf
      rw [← hW] at ho
      refine Ev.bind hbk (Ev.bind hnum (Ev.bind ho (Ev.bind wakes10 (ev_neg (by simp) (ev_neg (by simp) ?_)))))
      by_cases c1 : x = 2047
      · have hf0 : f = 0 := by unfold W at hW; omega
        rw [show V 0 x f = (2, false, 0, 0) by unfold V; rw [if_pos c1, if_pos hf0]; rfl]
        exact ev_neg (by decide) (ev_neg (by decide) (ev_pos (by decide) (ev_now rfl)))
      · by_cases c2 : x = 0 ∧ f = 0
        · rw [show V 0 x f = (0, false, 0, 0) by unfold V; rw [if_neg c1, if_pos c2.1, if_pos c2.2]; rfl]
          exact ev_neg (by decide) (ev_neg (by decide) (ev_pos (by decide) (ev_now rfl)))
        · obtain ⟨y, z, hV⟩ : ∃ y z, V 0 x f = (1, false, y, z) := by
            unfold V
            rw [if_neg c1]
            by_cases c3 : x = 0
            · rw [if_pos c3, if_neg (fun h => c2 ⟨c3, h⟩)]; exact ⟨_, _, rfl⟩
            · rw [if_neg c3]; exact ⟨_, _, rfl⟩
          rw [hV]
          haveI := Classical.propDecidable (Mid (num l * 10 ^ (e - (l.length : Int) + 1).toNat * 2 ^ K) (10 ^ (-(e - (l.length : Int) + 1)).toNat) b)
          have hn := near10 (b := b) hK (Nat.pow_pos (by decide)) hv dv hq (by unfold W at hW; omega) (by unfold W at hW; omega)
          rw [decide_eq_true hmid] at hn
          exact ev_neg (by simp) (ev_neg (by simp) (ev_neg (by simp) (Ev.bind hn (ev_now rfl))))
    | succ k ih =>
      intro i hi
      refine ev_loop numerarylaw10_ShortNear.l0_eq numerarylaw10_ShortNear.l0_step (ev_pos (by omega) (ev_pos (by omega) (ev_pos (by rw [nl_length]; omega) ?_)))
      rw [rd_nl, dig_wrap, show ([((48 + gd u i % 10 : Nat) : Int)] : List Int) = nl [48 + gd u i % 10] from rfl, strOf_nl, S_app]
      refine ev_pos (by rw [S_size, S_size]; simp; omega) ?_
      rw [show IntKind.i64.wrap ((i : Int) + 1) = ((i + 1 : Nat) : Int) by rw [wrap_id (by omega) (by omega)]; omega, List.cons_append, map_snoc (by omega)]
      exact ih (i + 1) (by omega)
  exact loop u.length 0 (by omega)
end Go.Proofs.YtglepnebcidjmaaGreatDoor.Pure

/- One decimal fewer isn't the bits, and the last one is no nought. -/
namespace Go.Proofs.YtglepnebcidjmaaGreatDoor.Pure
open Go Go.Proofs.YtglepnebcidjmaaGreatDoor.E Go.Proofs.YtglepnebcidjmaaGreatDoor.F
set_option linter.unusedVariables false
set_option linter.unusedSimpArgs false
theorem near_tenth {A B N : Nat} (hB : 0 < B) (h : near (10 * A) B = 10 * N) : near A B = N := by
  obtain ⟨n1, n2⟩ := near_spec (x := 10 * A) hB h.symm
  have e1 : 2 * (10 * N) * B = 20 * (N * B) := by grind
  have e2 : (2 * (10 * N) + 2) * B = 20 * (N * B) + 2 * B := by grind
  rw [e1] at n1
  rw [e2] at n2
  unfold near
  have e3 : N * (2 * B) = 2 * (N * B) := by grind
  have e4 : (N + 1) * (2 * B) = 2 * (N * B) + 2 * B := by grind
  generalize N * B = C at *
  exact Nat.div_eq_of_lt_le (by omega) (by omega)
theorem ShortLess (a0 : Int) (h0 : (Lit.int .u64 a0).wf = true) : Ev (numerarylaw10_ShortLess.f a0) true := by
  obtain ⟨h0a, h0b⟩ := wf_u64 h0
  obtain ⟨x, rfl⟩ : ∃ n : Nat, a0 = (n : Int) := ⟨a0.toNat, by omega⟩
  obtain ⟨s, e, f, hs, he, hf, rfl⟩ := W_split (b := x) (by omega)
  obtain ⟨K, hK⟩ : ∃ K, K = 1074 := ⟨_, rfl⟩
  have hbo := bits_of hs he hf
  refine ev_eq numerarylaw10_ShortLess.f_eq ?_
  by_cases c : e = 2047 ∨ (e = 0 ∧ f = 0)
  · refine Ev.bind (short_nil hs he hf c).1 (Ev.bind hbo ?_)
    by_cases c1 : e = 2047
    · subst c1
      exact Ev.bind (value_no (s := s) (f := f)).1 (ev_pos rfl (Ev.bind wakes10 (ev_now rfl)))
    · obtain ⟨cl, x, y, r, n, d, p, pk, hV, hcl, hz, hz2, hd, hr, ln1, ln2, hv, _⟩ := val64 hs (show e < 2047 by omega) hf
      exact Ev.bind hv (ev_pos rfl (Ev.bind wakes10 (ev_now rfl)))
  · obtain ⟨r, n, d, p, pk, m, y, z, e0, hV, hn, hd, hr, hE, hb, hv, hsv, hdec, hpk, hp, hpe, m1, m2, hdig, hno, hat, hNb⟩ := short_ok hK hs (show e < 2047 by omega) hf (fun h => c (.inr h))
    obtain ⟨s1, s2⟩ := sc_bounds hE hd m1
    obtain ⟨l, e', q1, q2, q3, q4, q6, q5⟩ := sci_text (e := e0) m1 s1 s2
    rw [q1] at hdig
    refine Ev.bind hdig (Ev.bind hbo (Ev.bind hv (ev_neg (by simp) ?_)))
    dsimp only
    rw [S_size]
    by_cases c2 : m < 2
    · exact ev_pos (by omega) (Ev.bind wakes10 (ev_now rfl))
    · obtain ⟨j, rfl⟩ : ∃ j, m = j + 1 := ⟨m - 1, by omega⟩
      have w : IntKind.i64.wrap ((l.length : Int) - 1) = (j : Int) := by rw [wrap_id (by omega) (by omega)]; omega
      have hto := to_ok (m := j) hr hd hn (by decide) (by omega) (by omega) hE
      rw [if_pos (by omega)] at hto
      obtain ⟨b, hb1, hbk, hat2⟩ := pair_back (m := j) hK hE hd (by omega) (by omega) (by omega) (by omega)
      have hnb : b ≠ e * 4503599627370496 + f := fun h => hno j (by omega) (by omega) (h ▸ hat2)
      have hbt := byteAt_S q2.1.dg j
      have hlast : gd l j ≠ 48 := by
        intro h48
        have hN10 : sc n d (((j + 1 : Nat) : Int) - 1 - e0) % 10 = 0 := by
          rcases q6 with h | h
          · rw [h, Nat.pow_succ, Nat.mul_mod_left]
          · rw [← h]
            have : l = l.take j ++ [gd l j] := by
              rw [← take_snoc (by omega), List.take_of_length_le (by omega)]
            rw [this, num_snoc, h48]
            omega
        obtain ⟨N, hN⟩ : ∃ N, sc n d (((j + 1 : Nat) : Int) - 1 - e0) = 10 * N := ⟨sc n d (((j + 1 : Nat) : Int) - 1 - e0) / 10, by omega⟩
        obtain ⟨T, hT⟩ : ∃ T : Int, T = (j : Int) - 1 - e0 := ⟨_, rfl⟩
        have hB : 0 < d * 10 ^ (-T).toNat := Nat.mul_pos hd (Nat.pow_pos (by decide))
        have h1 : near (10 * (n * 10 ^ T.toNat)) (d * 10 ^ (-T).toNat) = 10 * N := by
          rw [← hN]
          unfold sc
          rw [show ((j + 1 : Nat) : Int) - 1 - e0 = T + 1 by omega]
          by_cases c3 : 0 ≤ T
          · rw [show (T + 1).toNat = T.toNat + 1 by omega, show (-(T + 1)).toNat = 0 by omega, show (-T).toNat = 0 by omega, Nat.pow_succ]
            congr 1
            grind
          · obtain ⟨g, hg⟩ : ∃ g : Nat, T = -((g + 1 : Nat) : Int) := ⟨(-T - 1).toNat, by omega⟩
            rw [show (T + 1).toNat = 0 by omega, show T.toNat = 0 by omega, show (-(T + 1)).toNat = g by omega, show (-T).toNat = g + 1 by omega, Nat.pow_zero, Nat.mul_one, Nat.pow_succ]
            have e9 : d * (10 ^ g * 10) = 10 * (d * 10 ^ g) := by grind
            rw [e9]
            unfold near
            have e10 : 2 * (10 * n) + 10 * (d * 10 ^ g) = 10 * (2 * n + d * 10 ^ g) := by grind
            have e11 : 2 * (10 * (d * 10 ^ g)) = 10 * (2 * (d * 10 ^ g)) := by grind
            rw [e10, e11, Nat.mul_div_mul_left _ _ (by decide)]
        have h2 : sc n d ((j : Int) - 1 - e0) = N := by
          unfold sc
          rw [← hT]
          exact near_tenth hB h1
        refine hno j (by omega) (by omega) ?_
        have hat3 := hat
        unfold At at hat3 ⊢
        rw [hN] at hat3
        rw [h2]
        refine (mid_scale (Nat.pow_pos (by decide)) (Nat.pow_pos (by decide)) ?_).mpr hat3
        obtain ⟨Q, hQ⟩ : ∃ Q : Int, Q = e0 - (j : Int) + 1 := ⟨_, rfl⟩
        rw [show e0 - ((j + 1 : Nat) : Int) + 1 = Q - 1 by omega, ← hQ]
        have key : Q.toNat + (-(Q - 1)).toNat = 1 + (Q - 1).toNat + (-Q).toNat := by omega
        have := congrArg (fun z => 10 ^ z) key
        simp only [Nat.pow_add, Nat.pow_one] at this
        calc N * 10 ^ Q.toNat * 10 ^ (-(Q - 1)).toNat = N * (10 ^ Q.toNat * 10 ^ (-(Q - 1)).toNat) := Nat.mul_assoc _ _ _
          _ = _ := by rw [this]; grind
      refine ev_neg (by omega) ?_
      rw [w, hbt]
      refine Ev.bind hto (Ev.bind hbk (Ev.bind wakes10 (ev_pos rfl (ev_pos rfl (ev_pos rfl (ev_pos rfl (ev_pos ?_ (ev_pos (by omega) (ev_pos (by omega) (ev_now (decide_eq_true (by omega))))))))))))
      rw [mask_b hs he hf]
      intro h
      have h' : (b : Int) = ((e * 4503599627370496 + f : Nat) : Int) := h
      omega
end Go.Proofs.YtglepnebcidjmaaGreatDoor.Pure
