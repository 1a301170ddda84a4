/- The value of 64 bits, as a quotient and as the document's decimals; decimals that are cut off. -/
import Derived.Test.YtbapeilokmphdaaGreatDoorQRoundTwiceZP1
namespace Go.Proofs.YtbapeilokmphdaaGreatDoor.F
open Go Go.Proofs.YtbapeilokmphdaaGreatDoor.E
set_option linter.unusedVariables false
set_option linter.unusedSimpArgs false
theorem mnI_min (a b : Nat) : mnI (a : Int) (b : Int) = ((min a b : Nat) : Int) := by unfold mnI; split <;> omega
theorem value_tail {cl : Int} {sg : Bool} {mu : Nat} {x b : Int} {R : (List Int × List Int) × Bool} (hb : Ev (bits_Value_Bits.f (cl, sg, (mu : Int), x)) (b, true)) (hcl : cl = 0 ∨ cl = 1) (hM : mu < 18446744073709551616)
    (h : Ev (if x ≥ 0 then (M.bind (tens_Up.f (L mu) x) fun t3 => (M.bind (nat_Of.f 1) fun t4 => (M.ret ((t3, t4), true)))) else (M.bind (tens_Noughts.f (L mu)) fun t5 => (M.bind (tens_Down.f (L mu) (mnI t5 (IntKind.i64.wrap (0 - x)))) fun t6 => (M.bind (nat_Nat_Bits.f (L mu)) fun t7 => (if t7 = 0 then (M.ret ((([] : List Int), ([] : List Int)), true)) else (M.bind (nat_Of.f 1) fun t8 => (M.bind (tens_Up.f t8 (IntKind.i64.wrap ((IntKind.i64.wrap (0 - x)) - (mnI t5 (IntKind.i64.wrap (0 - x)))))) fun t9 => (M.ret ((t6.1, t9), true))))))))) R) :
    Ev (ratio_Value.f (cl, sg, (mu : Int), x)) R := by
  refine ev_eq ratio_Value.f_eq ?_
  rcases hcl with rfl | rfl
  · exact ev_neg (by simp) (Ev.bind hb (ev_neg (by simp) (Ev.bind (of_val hM) h)))
  · exact ev_pos (by simp) (ev_neg (by simp) (Ev.bind hb (ev_neg (by simp) (Ev.bind (of_val hM) h))))
theorem gcd_odd_pow {m c : Nat} (h : m % 2 = 1) : Nat.gcd m (2 ^ c) = 1 := by
  have h2 : Nat.Coprime m 2 := by
    rw [Nat.coprime_comm]
    unfold Nat.Coprime
    rw [← Nat.mod_add_div m 2, h, Nat.gcd_add_mul_left_right]
    rfl
  exact Nat.Coprime.pow_right c h2
theorem two_pow_ln {c : Nat} (hc : c ≤ 2000) : ln (2 ^ c) ≤ 70 := by
  have h1 := ln_pow2 1 c
  have h2 := ln_small (n := 1) (by decide)
  rw [Nat.one_mul] at h1
  omega
theorem value_up {cl : Int} {sg : Bool} {mu c : Nat} {x b : Int} (hb : Ev (bits_Value_Bits.f (cl, sg, (mu : Int), x)) (b, true)) (hcl : cl = 0 ∨ cl = 1) (hM : mu < 18446744073709551616) (hx : x = (c : Int)) (hc : c ≤ 2000) :
    ∃ r, RQ r (mu * 2 ^ c) 1 100 ∧ Ev (ratio_Value.f (cl, sg, (mu : Int), x)) (r, true) := by
  have l1 := ln_small hM
  have l2 := ln_pow2 mu c
  have l3 : ln 1 = 1 := by decide
  subst hx
  exact ⟨_, ⟨mu * 2 ^ c, 1, rfl, by decide, Nat.gcd_one_right _, rfl, by omega, by omega⟩, value_tail hb hcl hM (ev_pos (by omega) (Ev.bind (up (by omega) (by omega)) (Ev.bind (of_val (n := 1) (by decide)) (ev_now rfl))))⟩
theorem value_down {cl : Int} {sg : Bool} {mu c : Nat} {x b : Int} (hb : Ev (bits_Value_Bits.f (cl, sg, (mu : Int), x)) (b, true)) (hcl : cl = 0 ∨ cl = 1) (hM : mu < 18446744073709551616) (h0 : 0 < mu) (hx : x = -(c : Int)) (hc : c ≤ 2000) (hc0 : 0 < c) :
    ∃ r, RQ r mu (2 ^ c) 100 ∧ Ev (ratio_Value.f (cl, sg, (mu : Int), x)) (r, true) := by
  have l1 := ln_small hM
  obtain ⟨k, hk⟩ := tz_ex mu h0
  have hb0 := bl_pos h0
  have l4 := two_pow_ln (c := c - min k c) (by omega)
  have l5 := ln_mono (Nat.div_le_self mu (2 ^ min k c))
  have l6 : ln 1 = 1 := by decide
  have hw : IntKind.i64.wrap (0 - -(c : Int)) = (c : Int) := by rw [wrap_id (by omega) (by omega)]; omega
  have hw2 : IntKind.i64.wrap ((c : Int) - ((min k c : Nat) : Int)) = ((c - min k c : Nat) : Int) := by rw [wrap_id (by omega) (by omega)]; omega
  have hdv : 2 ^ min k c ∣ mu := Nat.dvd_of_mod_eq_zero ((hk.mod _).mpr (Nat.min_le_left _ _))
  have hu := up (n := 1) (c := c - min k c) (by omega) (by omega)
  rw [Nat.one_mul] at hu
  subst hx
  refine ⟨_, ⟨mu / 2 ^ min k c, 2 ^ (c - min k c), rfl, Nat.pow_pos (by decide), ?_, ?_, by omega, by omega⟩, value_tail hb hcl hM (ev_neg (by omega) (Ev.bind (noughts (by omega) hk) ?_))⟩
  · rcases Nat.le_total k c with h | h
    · rw [Nat.min_eq_left h]
      exact gcd_odd_pow hk.div
    · rw [Nat.min_eq_right h, Nat.sub_self, Nat.pow_zero, Nat.gcd_one_right]
  · obtain ⟨z, hz⟩ := hdv
    rw [hz, Nat.mul_div_cancel_left _ (Nat.pow_pos (by decide)), Nat.mul_right_comm, ← Nat.pow_add, show min k c + (c - min k c) = c by omega, Nat.mul_comm]
  · rw [hw, mnI_min, hw2]
    exact Ev.bind (down (by omega) (by omega)) (Ev.bind (nbits (by omega)) (ev_neg (by omega) (Ev.bind (of_val (n := 1) (by decide)) (Ev.bind hu (ev_now rfl)))))
/-- The value of bits that are finite or nought: n over d of the program, p with pk places of the document. -/
theorem val64N {s e f : Nat} (hs : s ≤ 1) (he : e < 2047) (hf : f < 4503599627370496) : ∃ (cl m x : Int) (r : List Int × List Int) (n d p pk : Nat), V s e f = (cl, decide (s = 1), m, x) ∧ (cl = 0 ∨ cl = 1) ∧ (cl = 0 ↔ n = 0) ∧ (e = 0 ∧ f = 0 ↔ n = 0) ∧ 0 < d ∧ RQ r n d 100 ∧ ln n ≤ 100 ∧ ln d ≤ 100 ∧
    Ev (ratio_Value.f (V s e f)) (r, true) ∧ Ev (numeraryref07_Decimals.f m x) (D p, (pk : Int)) ∧ pk ≤ 1074 ∧ dn p ≤ 4000 ∧ p * d = n * 10 ^ pk ∧ (pk = 0 ∨ d = 2 ^ pk) ∧ (d = 1 ∨ d = 2 ^ pk) ∧ (pk = 0 → d = 1) ∧ ∀ J : Nat, J = 1074 → n * 2 ^ J = (if e = 0 then f else (f + 4503599627370496) * 2 ^ (e - 1)) * d := by
  have hb := value_bits hs (show e < 2048 by omega) hf (.inl (by omega))
  have ten : ∀ j : Nat, (10 : Nat) ^ j = 5 ^ j * 2 ^ j := fun j => by rw [← Nat.mul_pow]
  have hl1 : ln 1 = 1 := by decide
  by_cases e0 : e = 0
  · by_cases f0 : f = 0
    · have hV : V s e f = (0, decide (s = 1), ((0 : Nat) : Int), ((0 : Nat) : Int)) := by unfold V; rw [if_neg (by omega), if_pos e0, if_pos f0]; rfl
      rw [hV] at hb ⊢
      obtain ⟨r, hr, hv⟩ := value_up (c := 0) hb (.inl rfl) (by decide) rfl (by decide)
      have hd := rdec_up (m := 0) (c := 0) (by decide) (by decide)
      rw [Nat.zero_mul] at hd hr
      exact ⟨_, _, _, r, 0, 1, 0, 0, rfl, .inl rfl, by simp, by simp [e0, f0], by decide, hr, by decide, by decide, hv, hd, by decide, Nat.le_trans (dn_small (n := 0) (by decide)) (by decide), by decide, .inl rfl, .inl rfl, fun _ => rfl, fun J _ => by rw [if_pos e0, f0, Nat.zero_mul, Nat.zero_mul]⟩
    · obtain ⟨K, hK⟩ : ∃ K : Nat, K = 1074 := ⟨_, rfl⟩
      have hV : V s e f = (1, decide (s = 1), (f : Int), -(K : Int)) := by unfold V; rw [if_neg (by omega), if_pos e0, if_neg f0, hK]; rfl
      rw [hV] at hb ⊢
      obtain ⟨r, hr, hv⟩ := value_down (c := K) hb (.inr rfl) (by omega) (by omega) rfl (by omega) (by omega)
      have hd := rdec_down (m := f) (c := K) (by omega) (by omega)
      have l1 := dn_small (n := f) (by omega)
      have l2 := dn_five f K
      have l3 := ln_small (n := f) (by omega)
      have l4 := two_pow_ln (c := K) (by omega)
      refine ⟨_, _, _, r, f, 2 ^ K, f * 5 ^ K, K, rfl, .inr rfl, ⟨fun h => absurd h (by decide), fun h => absurd h f0⟩, ⟨fun h => h.2, fun h => ⟨e0, h⟩⟩, Nat.pow_pos (by decide), hr, by omega, by omega, hv, hd, by omega, by omega, ?_, .inr rfl, .inr rfl, fun h => by omega, fun J hJ => by rw [if_pos e0, show J = K by omega]⟩
      rw [ten, Nat.mul_assoc]
  · have hV : V s e f = (1, decide (s = 1), ((f + 4503599627370496 : Nat) : Int), (e : Int) - 1075) := by unfold V; rw [if_neg (by omega), if_neg e0]
    rw [hV] at hb ⊢
    have hm : f + 4503599627370496 < 18446744073709551616 := by omega
    have hm0 : 0 < f + 4503599627370496 := by omega
    clear hV
    generalize f + 4503599627370496 = mu at *
    have l1 := dn_small hm
    have l3 := ln_small hm
    by_cases hx : 1075 ≤ e
    · obtain ⟨d, hd⟩ : ∃ d, e = 1075 + d := ⟨e - 1075, by omega⟩
      have h := rdec_up (m := mu) (c := d) hm (by omega)
      have l2 := dn_two mu d
      have l4 := ln_pow2 mu d
      obtain ⟨r, hr, hv⟩ := value_up (c := d) hb (.inr rfl) hm (by omega) (by omega)
      have hpos : 0 < mu * 2 ^ d := Nat.mul_pos hm0 (Nat.pow_pos (by decide))
      refine ⟨_, _, _, r, mu * 2 ^ d, 1, mu * 2 ^ d, 0, rfl, .inr rfl, ⟨fun h => absurd h (by decide), fun h => by omega⟩, ⟨fun h => absurd h.1 e0, fun h => by omega⟩, by decide, hr, by omega, by omega, hv, ?_, by decide, by omega, by rw [Nat.pow_zero], .inl rfl, .inl rfl, fun _ => rfl, fun J hJ => by rw [if_neg e0, Nat.mul_one, Nat.mul_assoc, ← Nat.pow_add, show d + J = e - 1 by omega]⟩
      rw [show (e : Int) - 1075 = (d : Int) by omega]; exact h
    · obtain ⟨d, hd⟩ : ∃ d, d + e = 1075 := ⟨1075 - e, by omega⟩
      have h := rdec_down (m := mu) (c := d) hm (by omega)
      have l2 := dn_five mu d
      have l4 := two_pow_ln (c := d) (by omega)
      obtain ⟨r, hr, hv⟩ := value_down (c := d) hb (.inr rfl) hm hm0 (by omega) (by omega) (by omega)
      refine ⟨_, _, _, r, mu, 2 ^ d, mu * 5 ^ d, d, rfl, .inr rfl, ⟨fun h => absurd h (by decide), fun h => by omega⟩, ⟨fun h => absurd h.1 e0, fun h => by omega⟩, Nat.pow_pos (by decide), hr, by omega, by omega, hv, ?_, by omega, by omega, ?_, .inr rfl, .inr rfl, fun h => by omega, fun J hJ => by rw [if_neg e0, Nat.mul_assoc, ← Nat.pow_add, show e - 1 + d = J by omega]⟩
      · rw [show (e : Int) - 1075 = -(d : Int) by omega]; exact h
      · rw [ten, Nat.mul_assoc]
theorem val64 {s e f : Nat} (hs : s ≤ 1) (he : e < 2047) (hf : f < 4503599627370496) : ∃ (cl m x : Int) (r : List Int × List Int) (n d p pk : Nat), V s e f = (cl, decide (s = 1), m, x) ∧ (cl = 0 ∨ cl = 1) ∧ (cl = 0 ↔ n = 0) ∧ (e = 0 ∧ f = 0 ↔ n = 0) ∧ 0 < d ∧ RQ r n d 100 ∧ ln n ≤ 100 ∧ ln d ≤ 100 ∧
    Ev (ratio_Value.f (V s e f)) (r, true) ∧ Ev (numeraryref07_Decimals.f m x) (D p, (pk : Int)) ∧ pk ≤ 1074 ∧ dn p ≤ 4000 ∧ p * d = n * 10 ^ pk ∧ (pk = 0 ∨ d = 2 ^ pk) ∧ (d = 1 ∨ d = 2 ^ pk) ∧ (pk = 0 → d = 1) := by
  obtain ⟨cl, m, x, r, n, d, p, pk, h1, h2, h3, h4, h5, h6, h7, h8, h9, h10, h11, h12, h13, h14, h15, h16, _⟩ := val64N hs he hf
  exact ⟨cl, m, x, r, n, d, p, pk, h1, h2, h3, h4, h5, h6, h7, h8, h9, h10, h11, h12, h13, h14, h15, h16⟩
theorem value_no {s f : Nat} : Ev (ratio_Value.f (V s 2047 f)) (([], []), false) ∧ (V s 2047 f).1 > 1 ∧ ((V s 2047 f).1 = 2 ∨ (V s 2047 f).1 = 3) := by
  unfold V
  rw [if_pos rfl]
  by_cases c : f = 0
  · rw [if_pos c]; exact ⟨ev_eq ratio_Value.f_eq (ev_pos (by simp) (ev_pos (by simp) (ev_now rfl))), by simp, .inl rfl⟩
  · rw [if_neg c]; exact ⟨ev_eq ratio_Value.f_eq (ev_pos (by simp) (ev_pos (by simp) (ev_now rfl))), by simp, .inr rfl⟩
/-! ### decimals that are cut off -/
theorem dg_drop {B : Nat} (hB : 2 ≤ B) (n m : Nat) : (dg B n).drop m = dg B (n / B ^ m) := by
  induction m generalizing n with
  | zero => simp
  | succ m ih =>
    rcases Nat.eq_zero_or_pos n with rfl | hn
    · simp [dg_zero]
    · rw [dg_pos hB hn, List.drop_succ_cons, ih, Nat.div_div_eq_div_mul, Nat.pow_succ, Nat.mul_comm]
theorem D_drop (n m : Nat) : (D n).drop m = D (n / 10 ^ m) := by
  unfold D; rw [nl_drop, dg_drop (by decide)]
theorem gd_dg {B : Nat} (hB : 2 ≤ B) (n i : Nat) : gd (dg B n) i = n / B ^ i % B := by
  have h : gd (dg B n) i = gd ((dg B n).drop i) 0 := by rw [gd_drop, Nat.add_zero]
  rw [h, dg_drop hB]
  rcases Nat.eq_zero_or_pos (n / B ^ i) with h0 | h0
  · rw [h0, Nat.zero_mod]; rfl
  · rw [dg_pos hB h0]; rfl
/-- Rounded off by so many digits. -/
theorem near_pow {n m : Nat} (hm : 0 < m) : near n (10 ^ m) = n / 10 ^ m + (if 5 ≤ n / 10 ^ (m - 1) % 10 then 1 else 0) := by
  obtain ⟨k, rfl⟩ : ∃ k, m = k + 1 := ⟨m - 1, by omega⟩
  have h := near_half (x := n) (y := 10 ^ (k + 1)) (Nat.pow_pos (by decide))
  rw [← h, Nat.add_sub_cancel]
  have e : n / 10 ^ (k + 1) = n / 10 ^ k / 10 := by rw [Nat.pow_succ, Nat.div_div_eq_div_mul]
  have e2 : n % 10 ^ (k + 1) = n % 10 ^ k + 10 ^ k * (n / 10 ^ k % 10) := by rw [Nat.pow_succ, Nat.mod_mul]
  have hp : 0 < 10 ^ k := Nat.pow_pos (by decide)
  have hlt := Nat.mod_lt n hp
  congr 1
  rw [e2, Nat.pow_succ]
  generalize n / 10 ^ k % 10 = q at *
  generalize n % 10 ^ k = t at *
  generalize 10 ^ k = T at *
  by_cases c : 5 ≤ q
  · rw [if_pos c, if_pos]
    have : T * 5 ≤ T * q := Nat.mul_le_mul_left _ c
    omega
  · rw [if_neg c, if_neg]
    have : T * q ≤ T * 4 := Nat.mul_le_mul_left _ (by omega)
    omega
theorem rcut {n k p : Nat} (hn : dn n ≤ 1000000) (hk : k ≤ 1000000) (hp : p ≤ 1000000) : Ev (numeraryref09_Cut.f (D n) (k : Int) (p : Int)) (D (near (n * 10 ^ p) (10 ^ k))) := by
  refine ev_eq numeraryref09_Cut.f_eq ?_
  by_cases c : k ≤ p
  · obtain ⟨m, rfl⟩ : ∃ m, p = k + m := ⟨p - k, by omega⟩
    have h : near (n * 10 ^ (k + m)) (10 ^ k) = n * 10 ^ m := by
      refine near_uniq (Nat.pow_pos (by decide)) ?_ ?_
      · have : 2 * (n * 10 ^ m) * 10 ^ k = 2 * (n * 10 ^ (k + m)) := by rw [Nat.pow_add]; grind
        rw [this]; exact Nat.le_add_right _ _
      · have : (2 * (n * 10 ^ m) + 2) * 10 ^ k = 2 * (n * 10 ^ (k + m)) + 2 * 10 ^ k := by rw [Nat.pow_add]; grind
        have hp : 0 < 10 ^ k := Nat.pow_pos (by decide)
        rw [this]
        generalize 10 ^ k = T at *
        omega
    rw [h]
    refine ev_pos (by omega) ?_
    rw [show IntKind.i64.wrap (((k + m : Nat) : Int) - (k : Int)) = (m : Int) by rw [wrap_id (by omega) (by omega)]; omega]
    exact Ev.bind (rtens_up (by omega) (by omega)) (ev_now rfl)
  · obtain ⟨m, rfl⟩ : ∃ m, k = p + (m + 1) := ⟨k - p - 1, by omega⟩
    have h : near (n * 10 ^ p) (10 ^ (p + (m + 1))) = near n (10 ^ (m + 1)) := by
      rw [Nat.pow_add]
      refine near_scale (Nat.mul_pos (Nat.pow_pos (by decide)) (Nat.pow_pos (by decide))) (Nat.pow_pos (by decide)) ?_
      grind
    rw [h, near_pow (by omega), Nat.add_sub_cancel]
    have w1 : IntKind.i64.wrap (((p + (m + 1) : Nat) : Int) - (p : Int)) = ((m + 1 : Nat) : Int) := by rw [wrap_id (by omega) (by omega)]; omega
    have w2 : IntKind.i64.wrap (((m + 1 : Nat) : Int) - 1) = (m : Int) := by rw [wrap_id (by omega) (by omega)]; omega
    rw [w1, w2, Int.toNat_natCast, D_drop, show rdI (D n) (m : Int) = ((n / 10 ^ m % 10 : Nat) : Int) by unfold D; rw [rd_nl, gd_dg (by decide)], D_length]
    have ha : dn (n / 10 ^ (m + 1)) ≤ 1000000 := Nat.le_trans (dn_mono (Nat.div_le_self _ _)) hn
    have h1 : dn 1 = 1 := by decide
    have add : Ev (numeraryref02_Add.f (D (n / 10 ^ (m + 1))) ([1] : List Int)) (D (n / 10 ^ (m + 1) + 1)) := radd_D (n := 1) (by omega) (by omega)
    refine ev_neg (by omega) ?_
    have nil : ∀ {j}, dn n ≤ j → n / 10 ^ j = 0 := fun {j} h => Nat.div_eq_of_lt (dg_len_le b10 h)
    by_cases c1 : m + 1 ≤ dn n
    · refine ev_pos (by omega) (ev_pos (by omega) (ev_pos (by omega) ?_))
      by_cases c2 : m + 1 < dn n
      · refine ev_pos (by omega) (ev_pos (by omega) (ev_pos (by omega) ?_))
        by_cases c5 : 5 ≤ n / 10 ^ m % 10
        · rw [if_pos c5]; exact ev_pos (by omega) (Ev.bind add (ev_now rfl))
        · rw [if_neg c5]; exact ev_neg (by omega) (ev_now rfl)
      · refine ev_neg (by omega) ?_
        rw [nil (show dn n ≤ m + 1 by omega)] at add ⊢
        by_cases c5 : 5 ≤ n / 10 ^ m % 10
        · rw [if_pos c5]; exact ev_pos (by omega) (Ev.bind add (ev_now rfl))
        · rw [if_neg c5]; exact ev_neg (by omega) (ev_now rfl)
    · refine ev_neg (by omega) (ev_neg (by omega) ?_)
      rw [nil (show dn n ≤ m + 1 by omega), nil (show dn n ≤ m by omega), Nat.zero_mod, if_neg (by decide)]
      exact ev_now rfl
end Go.Proofs.YtbapeilokmphdaaGreatDoor.F

/- Texts as lists of numbers; decimals. -/
namespace Go.Proofs.YtbapeilokmphdaaGreatDoor.F
open Go Go.Proofs.YtbapeilokmphdaaGreatDoor.E
set_option linter.unusedVariables false
set_option linter.unusedSimpArgs false
/-! ### texts -/
theorem S_nil : S [] = (⟨#[]⟩ : ByteArray) := rfl
theorem S_empty : ByteArray.empty = S [] := rfl
theorem S_size (l : List Nat) : (S l).size = l.length := by unfold S; show (l.map UInt8.ofNat).toArray.size = _; simp
theorem S_app (a b : List Nat) : S a ++ S b = S (a ++ b) := by
  apply ByteArray.ext
  rw [ByteArray.data_append]
  unfold S
  simp
theorem S_ext (l : List Nat) (i j : Nat) : (S l).extract i j = S ((l.take j).drop i) := by
  apply ByteArray.ext
  rw [ByteArray.data_extract]
  unfold S
  simp [List.extract_eq_take_drop, List.map_drop, List.map_take, List.take_drop]
  rw [List.drop_take, List.drop_take, show i + (j - i) - i = j - i by omega]
theorem S_ne {l : List Nat} (h : l ≠ []) : S l ≠ (⟨#[]⟩ : ByteArray) := fun e => h (by
  have : l.length = 0 := by rw [← S_size, e]; rfl
  exact List.length_eq_zero_iff.mp this)
theorem S_inj {a b : List Nat} (ha : Dg 256 a) (hb : Dg 256 b) : S a = S b ↔ a = b := ⟨fun h => by rw [← toN_S ha, ← toN_S hb, h], fun h => by rw [h]⟩
theorem S_of (s : ByteArray) : ∃ l, Dg 256 l ∧ s = S l := ⟨toN s, toN_dg s, (S_toN s).symm⟩
theorem byteAt_S {l : List Nat} (h : Dg 256 l) (i : Nat) : byteAt (S l) (i : Int) = ((gd l i : Nat) : Int) := by
  unfold byteAt S gd
  rw [Int.toNat_natCast]
  simp only [List.getD_eq_getElem?_getD, List.getElem?_map]
  cases hi : l[i]? with
  | none => rfl
  | some x =>
    have hx := h x (List.mem_of_getElem? hi)
    simp only [Option.map_some, Option.getD_some]
    rw [UInt8.toNat_ofNat', Nat.mod_eq_of_lt (by simpa using hx)]
theorem bytesOf_S {l : List Nat} (h : Dg 256 l) : bytesOf (S l) = nl l := by
  unfold bytesOf S nl
  simp only [List.map_map]
  refine List.map_congr_left fun x hx => ?_
  have := h x hx
  simp only [Function.comp, UInt8.toNat_ofNat']
  rw [Nat.mod_eq_of_lt (by simpa using this)]
  rfl
theorem strOf_nl (l : List Nat) : strOf (nl l) = S l := by
  unfold strOf S nl
  simp only [List.map_map]
  congr 2
/-! ### decimals -/
def isD (l : List Nat) : Prop := ∀ c ∈ l, 48 ≤ c ∧ c ≤ 57
def num (l : List Nat) : Nat := val 10 (l.reverse.map (· - 48))
theorem isD.dg {l : List Nat} (h : isD l) : Dg 256 l := fun x hx => by have := h x hx; omega
theorem isD.nil : isD [] := fun c h => nomatch h
theorem isD.cons {x : Nat} {l : List Nat} (h1 : 48 ≤ x ∧ x ≤ 57) (h : isD l) : isD (x :: l) := fun c hc => by
  rcases List.mem_cons.mp hc with rfl | hc
  · exact h1
  · exact h c hc
theorem isD.app {a b : List Nat} (ha : isD a) (hb : isD b) : isD (a ++ b) := fun c hc => (List.mem_append.mp hc).elim (ha c) (hb c)
theorem isD.take {l : List Nat} (h : isD l) (n : Nat) : isD (l.take n) := fun c hc => h c (List.mem_of_mem_take hc)
theorem isD.drop {l : List Nat} (h : isD l) (n : Nat) : isD (l.drop n) := fun c hc => h c (List.mem_of_mem_drop hc)
theorem isD.rep (n : Nat) : isD (List.replicate n 48) := fun c hc => by rw [List.eq_of_mem_replicate hc]; omega
theorem decs0_zero : decs0 0 = [] := rfl
theorem decs0_len (n : Nat) : (decs0 n).length = dn n := by unfold decs0 dn; simp
theorem decs0_isD (n : Nat) : isD (decs0 n) := fun c hc => by
  unfold decs0 at hc
  obtain ⟨x, hx, rfl⟩ := List.mem_map.mp hc
  have := Dg_dg (B := 10) (by decide) n x (List.mem_reverse.mp hx)
  omega
theorem decs_isD (n : Nat) : isD (decs n) := by
  unfold decs; split
  · exact isD.cons (by decide) isD.nil
  · exact decs0_isD n
theorem num_app (a b : List Nat) : num (a ++ b) = num a * 10 ^ b.length + num b := by
  unfold num
  rw [List.reverse_append, List.map_append, val_append, List.length_map, List.length_reverse]
  rw [Nat.mul_comm, Nat.add_comm]
theorem num_nil : num [] = 0 := rfl
theorem num_one (c : Nat) : num [c] = c - 48 := by simp [num, val]
theorem num_snoc (l : List Nat) (c : Nat) : num (l ++ [c]) = num l * 10 + (c - 48) := by rw [num_app, num_one]; rfl
theorem num_cons (c : Nat) (l : List Nat) : num (c :: l) = (c - 48) * 10 ^ l.length + num l := by
  have := num_app [c] l
  rwa [num_one] at this
theorem num_rep (n : Nat) : num (List.replicate n 48) = 0 := by
  induction n with
  | zero => rfl
  | succ n ih => rw [List.replicate_succ, num_cons, ih]; simp
theorem num_decs0 (n : Nat) : num (decs0 n) = n := by
  unfold num decs0
  rw [← List.map_reverse, List.reverse_reverse, List.map_map]
  have : (dg 10 n).map ((· - 48) ∘ (48 + ·)) = dg 10 n := by
    refine (List.map_congr_left fun x _ => ?_).trans (List.map_id _)
    simp
  rw [this, val_dg (by decide)]
theorem num_decs (n : Nat) : num (decs n) = n := by
  unfold decs; split
  · rename_i h; subst h; rfl
  · exact num_decs0 n
theorem num_lt {l : List Nat} (h : isD l) : num l < 10 ^ l.length := by
  have := val_lt (B := 10) (l := l.reverse.map (· - 48)) (by decide) (fun x hx => by
    obtain ⟨y, hy, rfl⟩ := List.mem_map.mp hx
    have := h y (List.mem_reverse.mp hy)
    omega)
  rw [List.length_map, List.length_reverse] at this
  exact this
/-- Decimals, with noughts ahead, of a number of at most so many. -/
def pad (k : Nat) (l : List Nat) : List Nat := List.replicate (k - l.length) 48 ++ l
theorem dg_split {q r k : Nat} (hq : 0 < q) (hr : r < 10 ^ k) : dg 10 (q * 10 ^ k + r) = dg 10 r ++ List.replicate (k - dn r) 0 ++ dg 10 q := by
  have hd : dn r ≤ k := (dg_len b10 r k).mpr hr
  have hv : val 10 (dg 10 r ++ List.replicate (k - dn r) 0 ++ dg 10 q) = q * 10 ^ k + r := by
    rw [val_append, val_append, val_replicate, val_dg b10, val_dg b10, List.length_append, List.length_replicate, show (dg 10 r).length + (k - dn r) = k by unfold dn at *; omega]
    rw [Nat.mul_zero, Nat.add_zero, Nat.mul_comm, Nat.add_comm]
  have hD : Dg 10 (dg 10 r ++ List.replicate (k - dn r) 0 ++ dg 10 q) := ((Dg_dg b10 r).append (Dg.replicate (by decide) _)).append (Dg_dg b10 q)
  have := dg_val b10 hD
  rw [hv] at this
  rw [this]
  have hlast := dg_last b10 hq
  have hl : 0 < (dg 10 q).length := by rw [dg_pos b10 hq]; simp
  generalize dg 10 r ++ List.replicate (k - dn r) 0 = u at *
  have hlen : (u ++ dg 10 q).length = u.length + ((dg 10 q).length - 1) + 1 := by rw [List.length_append]; omega
  have h2 := trim_take (l := u ++ dg 10 q) (n := (u ++ dg 10 q).length) (Nat.le_refl _) (.inr (by
    rw [hlen, Nat.add_sub_cancel, gd_append_right]
    omega)) (fun i hi => gd_ge hi)
  rw [h2, List.take_length]
theorem decs0_split {q r k : Nat} (hq : 0 < q) (hr : r < 10 ^ k) : decs0 (q * 10 ^ k + r) = decs0 q ++ (List.replicate (k - dn r) 48 ++ decs0 r) := by
  unfold decs0
  rw [dg_split hq hr]
  simp
theorem pad_decs {r k : Nat} (hk : 0 < k) : pad k (decs r) = List.replicate (k - dn r) 48 ++ decs0 r := by
  unfold pad decs
  split
  · rename_i h; subst h
    rw [decs0_zero, List.append_nil, show dn 0 = 0 from rfl]
    show List.replicate (k - 1) 48 ++ List.replicate 1 48 = _
    rw [List.replicate_append_replicate]
    congr 1
    omega
  · rw [decs0_len]
theorem dn_div {n k : Nat} (h : 10 ^ k ≤ n) : dn (n / 10 ^ k) + k = dn n := by
  have e : n = n / 10 ^ k * 10 ^ k + n % 10 ^ k := by rw [Nat.mul_comm]; exact (Nat.div_add_mod n (10 ^ k)).symm
  have hp : 0 < 10 ^ k := Nat.pow_pos (by decide)
  have hq : 0 < n / 10 ^ k := Nat.div_pos h hp
  have hs := dg_split hq (Nat.mod_lt n hp)
  rw [← e] at hs
  have hd : dn (n % 10 ^ k) ≤ k := (dg_len b10 _ k).mpr (Nat.mod_lt n hp)
  have h2 : dn n = (dg 10 n).length := rfl
  rw [h2, hs, List.length_append, List.length_append, List.length_replicate]
  unfold dn at *
  omega
theorem decs0_head {n : Nat} (h : 0 < n) : ∃ c l, decs0 n = c :: l ∧ 49 ≤ c ∧ c ≤ 57 := by
  have hl := dg_last b10 h
  have hlen : 0 < (dg 10 n).length := by rw [dg_pos b10 h]; simp
  have hd := (Dg_dg b10 n).gd (by decide) ((dg 10 n).length - 1)
  refine ⟨48 + gd (dg 10 n) ((dg 10 n).length - 1), (decs0 n).drop 1, ?_, by omega, by omega⟩
  have h0 : 0 < (decs0 n).length := by rw [decs0_len]; exact dn_pos h
  have e := List.drop_eq_getElem_cons (l := decs0 n) (i := 0) h0
  rw [List.drop_zero] at e
  refine e.trans ?_
  congr 1
  simp only [decs0, List.getElem_map, List.getElem_reverse, gd, List.getD_eq_getElem?_getD]
  rw [List.getElem?_eq_getElem (by omega)]
  rfl
theorem decs_of_pos {n : Nat} (h : 0 < n) : decs n = decs0 n := by unfold decs; rw [if_neg (by omega)]
theorem decs_len_pos (n : Nat) : 0 < (decs n).length := by
  unfold decs; split
  · decide
  · rw [decs0_len]; exact dn_pos (by omega)
theorem decs_len (n : Nat) : (decs n).length = max 1 (dn n) := by
  unfold decs; split
  · rename_i h; subst h; rfl
  · rw [decs0_len]; have := dn_pos (b := n) (by omega); omega
/-- Decimals without noughts ahead are those of their number. -/
theorem decs0_num {l : List Nat} (h : isD l) (h0 : l = [] ∨ ∃ c t, l = c :: t ∧ c ≠ 48) : decs0 (num l) = l := by
  rcases h0 with rfl | ⟨c, t, rfl, hc⟩
  · rfl
  · have hct := h c List.mem_cons_self
    have ht : isD t := fun x hx => h x (List.mem_cons_of_mem _ hx)
    have key : ∀ (t : List Nat), isD t → ∀ q, 0 < q → decs0 (q * 10 ^ t.length + num t) = decs0 q ++ t := by
      intro t ht q hq
      rw [decs0_split hq (num_lt ht)]
      congr 1
      clear hq
      induction t with
      | nil => rfl
      | cons x t ih =>
        have hx := ht x List.mem_cons_self
        have ht2 : isD t := fun y hy => ht y (List.mem_cons_of_mem _ hy)
        have ih := ih ht2
        have hlt := num_lt ht2
        rw [num_cons]
        have hdl : dn (num t) ≤ t.length := (dg_len b10 _ _).mpr hlt
        by_cases hx0 : x = 48
        · subst hx0
          rw [Nat.sub_self, Nat.zero_mul, Nat.zero_add, List.length_cons, show t.length + 1 - dn (num t) = (t.length - dn (num t)) + 1 by omega, List.replicate_succ, List.cons_append, ih]
        · have hq : 0 < x - 48 := by omega
          have hd := dg_split hq hlt
          have hdn : dn ((x - 48) * 10 ^ t.length + num t) = t.length + 1 := by
            have h2 : dn ((x - 48) * 10 ^ t.length + num t) = (dg 10 ((x - 48) * 10 ^ t.length + num t)).length := rfl
            have h3 : (dg 10 (x - 48)).length = 1 := by
              rw [dg_pos b10 hq, show (x - 48) / 10 = 0 by omega]; rfl
            rw [h2, hd, List.length_append, List.length_append, List.length_replicate, h3]
            unfold dn at *
            omega
          rw [hdn, List.length_cons, Nat.sub_self, List.replicate_zero, List.nil_append, decs0_split hq hlt, ih]
          have : decs0 (x - 48) = [x] := by
            unfold decs0
            rw [dg_pos b10 hq, show (x - 48) / 10 = 0 by omega, dg_zero]
            simp; omega
          rw [this]; rfl
    have hq : 0 < c - 48 := by omega
    have h1 : decs0 (c - 48) = [c] := by
      unfold decs0
      rw [dg_pos b10 hq, show (c - 48) / 10 = 0 by omega, dg_zero]
      simp; omega
    rw [num_cons, key t ht _ hq, h1]; rfl
/-! ### the library's -/
theorem trimLeft_S {l : List Nat} (h : Dg 256 l) : Ev (strings_TrimLeft.f (S l) (⟨#[48]⟩ : ByteArray)) (S (l.dropWhile (· == 48))) := by
  unfold strings_TrimLeft.f
  rw [toN_S h]
  exact ev_pos rfl (ev_now rfl)
theorem trimRight_S {l : List Nat} (h : Dg 256 l) (hs : l.length ≤ 9223372036854775807) : Ev (strings_TrimRight.f (S l) (⟨#[48]⟩ : ByteArray)) (S (l.reverse.dropWhile (· == 48)).reverse) := by
  unfold strings_TrimRight.f
  rw [toN_S h]
  exact ev_pos ⟨rfl, by rw [S_size]; exact hs⟩ (ev_now rfl)
theorem repeat_S {k : Nat} {K : Int} (hK : K = (k : Int)) (h : k ≤ 140737488355328) : Ev (strings_Repeat.f (⟨#[48]⟩ : ByteArray) K) (S (List.replicate k 48)) := by
  subst hK
  unfold strings_Repeat.f
  exact ev_pos ⟨rfl, by omega, by omega⟩ (ev_now (by rw [Int.toNat_natCast]))
theorem formatUint_S {n : Nat} (h : n < 18446744073709551616) : Ev (strconv_FormatUint.f (n : Int) 10) (S (decs n)) := by
  unfold strconv_FormatUint.f
  exact ev_pos ⟨rfl, by omega, by omega⟩ (ev_now (by rw [Int.toNat_natCast]))
theorem parseUint_S {l : List Nat} (h : isD l) (h1 : l.length ≤ 18) (h2 : l ≠ []) : Ev (strconv_ParseUint.f (S l) 10 64) (((num l : Nat) : Int), ()) := by
  unfold strconv_ParseUint.f
  rw [toN_S h.dg]
  exact ev_pos ⟨rfl, rfl, List.all_eq_true.mpr (fun x hx => by have := h x hx; simp; omega), h1, h2⟩ (ev_now rfl)
/-! ### digits -/
/-- Without noughts at the end. -/
def trimR (l : List Nat) : List Nat := (l.reverse.dropWhile (· == 48)).reverse
def trimL (l : List Nat) : List Nat := l.dropWhile (· == 48)
theorem trim_S {l : List Nat} (h : Dg 256 l) (hs : l.length ≤ 9223372036854775807) : Ev (digits_Trim.f (S l)) (S (trimR l)) := ev_eq digits_Trim.f_eq (Ev.bind (trimRight_S h hs) (ev_now rfl))
theorem pad_S {l : List Nat} {k : Nat} {K : Int} (hK : K = (k : Int)) (hk : k ≤ 65536) : Ev (digits_Pad.f (S l) K) (S (pad k l)) := by
  subst hK
  refine ev_eq digits_Pad.f_eq (ev_neg (by omega) ?_)
  rw [S_size]
  unfold pad
  by_cases c : k ≤ l.length
  · refine ev_pos (by omega) (ev_now ?_)
    rw [show k - l.length = 0 by omega]; rfl
  · refine ev_neg (by omega) (Ev.bind (repeat_S (k := k - l.length) (by rw [wrap_id (by omega) (by omega)]; omega) (by omega)) (ev_pos (by rw [S_size, List.length_replicate]; omega) (ev_now (S_app _ _))))
theorem pad_big {s : ByteArray} {K : Int} (hK : 65536 < K) : Ev (digits_Pad.f s K) s := ev_eq digits_Pad.f_eq (ev_pos (by omega) (ev_now rfl))
theorem pad_low {s : ByteArray} {K : Int} (hK : K ≤ (s.size : Int)) : Ev (digits_Pad.f s K) s := by
  refine ev_eq digits_Pad.f_eq ?_
  by_cases c : K > 65536
  · exact ev_pos c (ev_now rfl)
  · exact ev_neg c (ev_pos hK (ev_now rfl))
theorem plain_loop : ∀ (n : Nat) (ps : List ByteArray), ln n ≤ 1048576 → ps.length + dn n ≤ 1099511627776 →
    ∃ qs : List (List Nat), Ev (digits_plain.l0 (L n) ps) (ps ++ qs.map S) ∧ qs.reverse.flatten = decs0 n := by
  intro n
  induction n using Nat.strongRecOn with
  | _ n ih =>
    intro ps hl hp
    rcases Nat.eq_zero_or_pos n with rfl | hn
    · exact ⟨[], ev_loop digits_plain.l0_eq digits_plain.l0_step (Ev.bind (nbits (n := 0) (by omega)) (ev_neg (by decide) (ev_now (by simp)))), rfl⟩
    · have hb := bl_pos hn
      have hlt : n / 10 ^ 9 < n := Nat.div_lt_self hn (by decide)
      have hr : n % 10 ^ 9 < 10 ^ 9 := Nat.mod_lt _ (by decide)
      have h9 : ln (10 ^ 9) ≤ 2 := ln_small (by decide)
      have hlq := ln_mono (Nat.le_of_lt hlt)
      have hdq := dn_mono (Nat.le_of_lt hlt)
      have hdn := dn_pos hn
      have hdv := qdiv (a := n) (b := 10 ^ 9) (by decide) (by omega) (by omega)
      have hsm := nsmall (n := n % 10 ^ 9) (by omega)
      have hfm := formatUint_S (n := n % 10 ^ 9) (by omega)
      have hbq := nbits (n := n / 10 ^ 9) (by omega)
      have go : ∀ {R}, Ev (if ((bl (n / 10 ^ 9) : Nat) : Int) > 0 then (M.bind (digits_Pad.f (S (decs (n % 10 ^ 9))) 9) fun t7 => (if ps.length + ([t7] : List ByteArray).length ≤ 1099511627776 then (digits_plain.l0 (L (n / 10 ^ 9)) (ps ++ ([t7] : List ByteArray))) else M.none)) else (if ps.length + ([S (decs (n % 10 ^ 9))] : List ByteArray).length ≤ 1099511627776 then (digits_plain.l0 (L (n / 10 ^ 9)) (ps ++ ([S (decs (n % 10 ^ 9))] : List ByteArray))) else M.none)) R → Ev (digits_plain.l0 (L n) ps) R := fun h =>
        ev_loop digits_plain.l0_eq digits_plain.l0_step (Ev.bind (nbits (by omega)) (ev_pos (by omega) (Ev.bind (ten (c := 9) (by decide)) (Ev.bind hdv (Ev.bind hsm (Ev.bind hfm (Ev.bind hbq h)))))))
      by_cases hq : n / 10 ^ 9 = 0
      · have hn9 : n < 10 ^ 9 := by
          rcases Nat.lt_or_ge n (10 ^ 9) with h | h
          · exact h
          · have := Nat.div_pos h (show 0 < 10 ^ 9 by decide); omega
        rw [hq] at go
        have hm : n % 10 ^ 9 = n := Nat.mod_eq_of_lt hn9
        rw [hm] at go
        refine ⟨[decs0 n], go (ev_neg (by decide) (ev_pos (by simp; omega) ?_)), by simp⟩
        have : Ev (digits_plain.l0 (L 0) (ps ++ [S (decs n)])) (ps ++ [S (decs n)]) := ev_loop digits_plain.l0_eq digits_plain.l0_step (Ev.bind (nbits (n := 0) (by decide)) (ev_neg (by decide) (ev_now rfl)))
        rw [decs_of_pos hn] at this ⊢
        exact this
      · have hq0 : 0 < n / 10 ^ 9 := by omega
        have hbq0 := bl_pos hq0
        have h10 : 10 ^ 9 ≤ n := by
          rcases Nat.lt_or_ge n (10 ^ 9) with h | h
          · have := Nat.div_eq_of_lt h; omega
          · exact h
        have hdd := dn_div h10
        obtain ⟨qs, hqs, hfl⟩ := ih (n / 10 ^ 9) hlt (ps ++ [S (pad 9 (decs (n % 10 ^ 9)))]) (by omega) (by rw [List.length_append]; show ps.length + 1 + _ ≤ _; omega)
        refine ⟨pad 9 (decs (n % 10 ^ 9)) :: qs, go (ev_pos (by omega) (Ev.bind (pad_S (k := 9) rfl (by decide)) (ev_pos (by simp; omega) ?_))), ?_⟩
        · simpa using hqs
        · rw [List.reverse_cons, List.flatten_append, hfl, pad_decs (by decide)]
          have e : n = n / 10 ^ 9 * 10 ^ 9 + n % 10 ^ 9 := by rw [Nat.mul_comm]; exact (Nat.div_add_mod n (10 ^ 9)).symm
          have := decs0_split hq0 hr
          rw [← e] at this
          rw [this]; simp
theorem joinL_S (qs : List (List Nat)) : joinL (qs.map S) = qs.reverse.flatten.map UInt8.ofNat := by
  unfold joinL S
  rw [← List.map_reverse, List.map_map, List.map_flatten]
  congr 1
theorem plain_ok {n : Nat} (hl : ln n ≤ 1048576) (hd : dn n ≤ 1000000000) : Ev (digits_plain.f (L n)) (S (decs0 n)) := by
  obtain ⟨qs, h1, h2⟩ := plain_loop n [] hl (by simp; omega)
  have h3 : Ev (digits_plain.parts (L n)) (qs.map S) := ev_eq digits_plain.parts_eq (by simpa using h1)
  refine Ev.bind h3 ?_
  unfold joined
  rw [joinL_S, h2]
  exact ev_pos (by rw [List.length_map, decs0_len]; omega) (ev_now rfl)
theorem halves_fuel : ∀ (k n : Nat), dn n < k → ln n ≤ 1048576 → dn n ≤ 1000000000 → Ev (digits_halves.fuel k (L n)) (S (decs0 n)) := by
  intro k
  induction k with
  | zero => intro n h; omega
  | succ k ih =>
    intro n hk hl hd
    have hL := limbs_L (n := n) (by omega)
    show Ev (digits_halves.step (digits_halves.fuel k) (L n)) _
    refine ev_eq digits_halves.step_eq (Ev.bind hL ?_)
    rw [L_length]
    by_cases c : ln n ≤ 40
    · exact ev_pos (by omega) (Ev.bind (plain_ok hl hd) (ev_now rfl))
    · have hw : IntKind.i64.wrap ((IntKind.i64.wrap (((ln n : Nat) : Int) * 9)).tdiv 2) = ((ln n * 9 / 2 : Nat) : Int) := by
        rw [wrap_id (x := ((ln n : Nat) : Int) * 9) (by omega) (by omega), show ((ln n : Nat) : Int) * 9 = ((ln n * 9 : Nat) : Int) by omega, Int.tdiv_eq_ediv_of_nonneg (by omega), wrap_id (by omega) (by omega)]
        omega
      rw [hw]
      refine ev_neg (by omega) ?_
      obtain ⟨j, hj⟩ : ∃ j, ln n * 9 / 2 = j := ⟨_, rfl⟩
      rw [hj]
      have hj2 : j ≤ 4718592 := by omega
      have hp : 0 < 10 ^ j := Nat.pow_pos (by decide)
      have hlt := ln_pow10 j
      have hlq := ln_mono (Nat.div_le_self n (10 ^ j))
      have hlr := ln_mono (Nat.mod_le n (10 ^ j))
      have hdq := dn_mono (Nat.div_le_self n (10 ^ j))
      have hdr := dn_mono (Nat.mod_le n (10 ^ j))
      have hdv := qdiv (a := n) (b := 10 ^ j) hp (by omega) (by omega)
      refine Ev.bind (ten (by omega)) (Ev.bind hdv (Ev.bind (nbits (by omega)) ?_))
      by_cases hq : n / 10 ^ j = 0
      · rw [hq]
        exact ev_pos (by decide) (Ev.bind (plain_ok hl hd) (ev_now rfl))
      · have hq0 : 0 < n / 10 ^ j := Nat.pos_of_ne_zero hq
        have hbq := bl_pos hq0
        have h10 : 10 ^ j ≤ n := by
          rcases Nat.lt_or_ge n (10 ^ j) with h | h
          · have := Nat.div_eq_of_lt h; omega
          · exact h
        have hdd := dn_div h10
        have hrl : dn (n % 10 ^ j) ≤ j := (dg_len b10 _ j).mpr (Nat.mod_lt n hp)
        have hq1 := dn_pos hq0
        refine ev_neg (by omega) (Ev.bind (ih (n % 10 ^ j) (by omega) (by omega) (by omega)) (Ev.bind (ih (n / 10 ^ j) (by omega) (by omega) (by omega)) ?_))
        rw [S_size, decs0_len]
        refine Ev.bind (repeat_S (k := j - dn (n % 10 ^ j)) (by rw [wrap_id (by omega) (by omega)]; omega) (by omega)) ?_
        have e : n = n / 10 ^ j * 10 ^ j + n % 10 ^ j := by rw [Nat.mul_comm]; exact (Nat.div_add_mod n (10 ^ j)).symm
        have hs := decs0_split hq0 (Nat.mod_lt n hp)
        rw [← e] at hs
        refine ev_pos (by rw [S_size, S_size, decs0_len, List.length_replicate]; omega) (ev_pos (by rw [S_app, S_size, List.length_append, decs0_len, List.length_replicate]; omega) (ev_now ?_))
        rw [S_app, S_app, hs, List.append_assoc]
theorem text_ok {n : Nat} (hl : ln n ≤ 1048576) (hd : dn n ≤ 1000000000) : Ev (digits_Text.f (L n)) (S (decs n)) := by
  refine ev_eq digits_Text.f_eq (Ev.bind (nbits (by omega)) ?_)
  rcases Nat.eq_zero_or_pos n with rfl | hn
  · exact ev_pos (by decide) (ev_now rfl)
  · have := bl_pos hn
    refine ev_neg (by omega) (Ev.bind ?_ (ev_now rfl))
    rw [decs_of_pos hn]
    exact ⟨⟨dn n + 1, (halves_fuel (dn n + 1) n (by omega) hl hd).out⟩⟩
theorem count_ok {n : Nat} (hl : ln n ≤ 1048576) (hd : dn n ≤ 1000000000) : Ev (digits_Count.f (L n)) ((max 1 (dn n) : Nat) : Int) :=
  ev_eq digits_Count.f_eq (Ev.bind (text_ok hl hd) (ev_now (by rw [S_size, decs_len])))
theorem digit_ok (c : Nat) : Ev (digits_digit.f (c : Int)) (decide (48 ≤ c ∧ c ≤ 57)) := by
  refine ev_eq digits_digit.f_eq ?_
  by_cases h : 48 ≤ c
  · exact ev_pos (by omega) (ev_now (decide_eq_decide.mpr (by omega)))
  · exact ev_neg (by omega) (ev_now (decide_eq_false (by omega)).symm)
theorem parse_chunks : ∀ (l : List Nat) (m : Nat) (x2 : List Int), isD l → ln m + l.length ≤ 1000000 → Ev (digits_Parse.l1 (S l) x2 (L m)) (L (m * 10 ^ l.length + num l), true) := by
  intro l
  induction hk : l.length using Nat.strongRecOn generalizing l with
  | _ k ih =>
    intro m x2 hD hb
    subst hk
    cases l with
    | nil => exact ev_loop digits_Parse.l1_eq digits_Parse.l1_step (ev_neg (by rw [S_nil]; simp) (ev_now (by simp [num_nil])))
    | cons c t =>
      generalize hl : c :: t = l at *
      have hlen : 0 < l.length := by rw [← hl]; simp
      have hmn : mnI ((l.length : Nat) : Int) 9 = ((min l.length 9 : Nat) : Int) := mnI_min l.length 9
      refine ev_loop digits_Parse.l1_eq digits_Parse.l1_step ?_
      rw [S_size, hmn, Int.toNat_natCast, S_ext, S_ext, List.drop_zero, List.take_length]
      have hn1 : S l ≠ (⟨#[]⟩ : ByteArray) := S_ne (fun h => by rw [h] at hlen; simp at hlen)
      have e9 : (10 : Nat) ^ 9 = 1000000000 := by decide
      have hk9 : min l.length 9 ≤ 9 := Nat.min_le_right _ _
      have htk : (l.take (min l.length 9)).length = min l.length 9 := by rw [List.length_take]; omega
      have hdt := hD.take (min l.length 9)
      have hnl := num_lt hdt
      rw [htk] at hnl
      have hp9 : 10 ^ min l.length 9 ≤ 10 ^ 9 := Nat.pow_le_pow_right (by decide) hk9
      have hsm : num (l.take (min l.length 9)) < 18446744073709551616 := by omega
      have l1 := ln_small hsm
      have l2 : ln (10 ^ min l.length 9) ≤ 2 := ln_small (by omega)
      have l3 := ln_mul m (10 ^ min l.length 9)
      have l4 := ln_add (m * 10 ^ min l.length 9) (num (l.take (min l.length 9)))
      have e : l = l.take (min l.length 9) ++ l.drop (min l.length 9) := (List.take_append_drop _ _).symm
      have hdl : (l.drop (min l.length 9)).length = l.length - min l.length 9 := List.length_drop
      have h10 : m * 10 ^ min l.length 9 + num (l.take (min l.length 9)) = m * 10 ^ min l.length 9 + num (l.take (min l.length 9)) := rfl
      have lb : ln (m * 10 ^ min l.length 9 + num (l.take (min l.length 9))) ≤ ln m + 1 := by
        have h1 : m < 4294967296 ^ ln m := dg_lt b32 m
        have h2 : m * 10 ^ min l.length 9 + num (l.take (min l.length 9)) < 4294967296 ^ (ln m + 1) := by
          have h3 : (m + 1) * 10 ^ min l.length 9 ≤ 4294967296 ^ ln m * 10 ^ min l.length 9 := Nat.mul_le_mul_right _ h1
          have h4 : 4294967296 ^ ln m * 10 ^ min l.length 9 ≤ 4294967296 ^ ln m * 4294967296 := Nat.mul_le_mul_left _ (by omega)
          rw [Nat.pow_succ]
          rw [Nat.add_mul, Nat.one_mul] at h3
          omega
        exact (dg_len b32 _ _).mpr h2
      have hih := ih (l.drop (min l.length 9)).length (by omega) (l.drop (min l.length 9)) rfl (m * 10 ^ min l.length 9 + num (l.take (min l.length 9))) x2 (hD.drop _) (by omega)
      refine ev_pos hn1 (ev_pos (by omega) (ev_pos (by omega) (Ev.bind (parseUint_S hdt (by omega) (fun h => by rw [h] at htk; simp at htk; omega)) (Ev.bind (ten (by omega)) (Ev.bind (nmul (by omega) (by omega)) (Ev.bind (of_val hsm) (Ev.bind (nadd (by omega) (by omega)) (ev_pos (by omega) (ev_pos (by omega) ?_)))))))))
      have fin : (m * 10 ^ min l.length 9 + num (l.take (min l.length 9))) * 10 ^ (l.drop (min l.length 9)).length + num (l.drop (min l.length 9)) = m * 10 ^ l.length + num l := by
        have e1 : num l = num (l.take (min l.length 9)) * 10 ^ (l.drop (min l.length 9)).length + num (l.drop (min l.length 9)) := by
          rw [← num_app, List.take_append_drop]
        have e2 : 10 ^ l.length = 10 ^ min l.length 9 * 10 ^ (l.drop (min l.length 9)).length := by rw [← Nat.pow_add, hdl]; congr 1; omega
        rw [e1, e2, Nat.add_mul, Nat.mul_assoc]; omega
      rw [fin] at hih
      exact hih
theorem parse_ok {l : List Nat} (h : isD l) (h0 : l ≠ []) (hb : l.length ≤ 900000) : Ev (digits_Parse.f (S l)) (L (num l), true) := by
  refine ev_eq digits_Parse.f_eq (ev_neg (S_ne h0) ?_)
  rw [bytesOf_S h.dg, nl_length]
  have loop : ∀ k i, i + k = l.length → Ev (digits_Parse.l0 (S l) ([] : List Int) (nl l) (l.length : Int) (i : Int)) (L (num l), true) := by
    intro k
    induction k with
    | zero =>
      intro i hi
      refine ev_loop digits_Parse.l0_eq digits_Parse.l0_step (ev_neg (by omega) ?_)
      have := parse_chunks l 0 [] h (by rw [show ln 0 = 0 from rfl]; omega)
      rw [Nat.zero_mul, Nat.zero_add] at this
      exact this
    | succ k ih =>
      intro i hi
      have hc : 48 ≤ gd l i ∧ gd l i ≤ 57 := h _ (by
        unfold gd; rw [List.getD_eq_getElem?_getD, List.getElem?_eq_getElem (by omega)]
        exact List.getElem_mem _)
      refine ev_loop digits_Parse.l0_eq digits_Parse.l0_step (ev_pos (by omega) (ev_pos (by omega) (ev_pos (by rw [nl_length]; omega) ?_)))
      rw [rd_nl]
      refine Ev.bind (digit_ok _) (ev_neg (by simp [hc]) ?_)
      rw [show IntKind.i64.wrap ((i : Int) + 1) = ((i + 1 : Nat) : Int) by rw [wrap_id (by omega) (by omega)]; omega]
      exact ih (i + 1) (by omega)
  exact loop l.length 0 (by omega)
theorem parse_bad {l : List Nat} (hd : Dg 256 l) (h : ¬ isD l) (hb : l.length ≤ 900000) : Ev (digits_Parse.f (S l)) ([], false) := by
  have h0 : l ≠ [] := fun e => h (by subst e; exact isD.nil)
  obtain ⟨i, hi, hbad, hpre⟩ : ∃ i, i < l.length ∧ ¬(48 ≤ gd l i ∧ gd l i ≤ 57) ∧ ∀ j, j < i → 48 ≤ gd l j ∧ gd l j ≤ 57 := by
    clear hd hb h0
    induction l with
    | nil => exact absurd isD.nil h
    | cons c t ih =>
      by_cases hc : 48 ≤ c ∧ c ≤ 57
      · obtain ⟨i, h1, h2, h3⟩ := ih (fun ht => h (isD.cons hc ht))
        refine ⟨i + 1, by simp; omega, h2, fun j hj => ?_⟩
        cases j with
        | zero => exact hc
        | succ j => exact h3 j (by omega)
      · exact ⟨0, by simp, hc, fun j hj => by omega⟩
  refine ev_eq digits_Parse.f_eq (ev_neg (S_ne h0) ?_)
  rw [bytesOf_S hd, nl_length]
  have loop : ∀ k j, j + k = i → Ev (digits_Parse.l0 (S l) ([] : List Int) (nl l) (l.length : Int) (j : Int)) ([], false) := by
    intro k
    induction k with
    | zero =>
      intro j hj
      obtain rfl : j = i := by omega
      refine ev_loop digits_Parse.l0_eq digits_Parse.l0_step (ev_pos (by omega) (ev_pos (by omega) (ev_pos (by rw [nl_length]; omega) ?_)))
      rw [rd_nl]
      exact Ev.bind (digit_ok _) (ev_pos (by simp; omega) (ev_now rfl))
    | succ k ih =>
      intro j hj
      have hc := hpre j (by omega)
      refine ev_loop digits_Parse.l0_eq digits_Parse.l0_step (ev_pos (by omega) (ev_pos (by omega) (ev_pos (by rw [nl_length]; omega) ?_)))
      rw [rd_nl]
      refine Ev.bind (digit_ok _) (ev_neg (by simp [hc]) ?_)
      rw [show IntKind.i64.wrap ((j : Int) + 1) = ((j + 1 : Nat) : Int) by rw [wrap_id (by omega) (by omega)]; omega]
      exact ih (j + 1) (by omega)
  exact loop i 0 (by omega)
theorem parse_none : Ev (digits_Parse.f (S [])) ([], false) := ev_eq digits_Parse.f_eq (ev_pos rfl (ev_now rfl))
end Go.Proofs.YtbapeilokmphdaaGreatDoor.F

/- Layer 6: what the laws' own helpers come to. -/
namespace Go.Proofs.YtbapeilokmphdaaGreatDoor.F
open Go Go.Proofs.YtbapeilokmphdaaGreatDoor.E
set_option linter.unusedVariables false
set_option linter.unusedSimpArgs false
theorem decs0_lit {l : List Nat} {n : Nat} (h : isD l) (h0 : l = [] ∨ ∃ c t, l = c :: t ∧ c ≠ 48) (hn : num l = n) : decs0 n = l := by subst hn; exact decs0_num h h0
theorem decs_lit {l : List Nat} {n : Nat} (h : isD l) (h0 : ∃ c t, l = c :: t ∧ c ≠ 48) (hn : num l = n) (hp : n ≠ 0) : decs n = l := by
  rw [decs_of_pos (by omega)]; exact decs0_lit h (.inr h0) hn
theorem trimR_snoc (l : List Nat) (c : Nat) : trimR (l ++ [c]) = if c = 48 then trimR l else l ++ [c] := by
  unfold trimR
  rw [List.reverse_append]
  show (List.dropWhile _ (c :: l.reverse)).reverse = _
  rw [List.dropWhile_cons]
  by_cases h : c = 48
  · subst h; simp
  · simp [h]
theorem trimR_nil : trimR [] = [] := rfl
theorem trimR_rep (l : List Nat) (k : Nat) : trimR (l ++ List.replicate k 48) = trimR l := by
  induction k with
  | zero => simp
  | succ k ih => rw [List.replicate_succ', ← List.append_assoc, trimR_snoc, if_pos rfl, ih]
theorem snocRec {P : List Nat → Prop} (h0 : P []) (h1 : ∀ l c, P l → P (l ++ [c])) (l : List Nat) : P l := by
  have : ∀ m : List Nat, P m.reverse := by
    intro m
    induction m with
    | nil => exact h0
    | cons x m ih => rw [List.reverse_cons]; exact h1 _ _ ih
  have := this l.reverse
  rwa [List.reverse_reverse] at this
theorem trimR_spec (l : List Nat) : ∃ k, l = trimR l ++ List.replicate k 48 ∧ (trimR l = [] ∨ ∃ t c, trimR l = t ++ [c] ∧ c ≠ 48) := by
  refine snocRec (P := fun l => ∃ k, l = trimR l ++ List.replicate k 48 ∧ (trimR l = [] ∨ ∃ t c, trimR l = t ++ [c] ∧ c ≠ 48)) ?_ (fun l c ih => ?_) l
  · exact ⟨0, rfl, .inl rfl⟩
  · rw [trimR_snoc]
    by_cases h : c = 48
    · subst h
      obtain ⟨k, h1, h2⟩ := ih
      rw [if_pos rfl]
      refine ⟨k + 1, ?_, h2⟩
      rw [List.replicate_succ', ← List.append_assoc, ← h1]
    · rw [if_neg h]
      exact ⟨0, by simp, .inr ⟨l, c, rfl, h⟩⟩
theorem trimR_le (l : List Nat) : (trimR l).length ≤ l.length := by
  obtain ⟨k, h, _⟩ := trimR_spec l
  have := congrArg List.length h
  rw [List.length_append] at this
  omega
theorem trimR_dg {B : Nat} {l : List Nat} (h : Dg B l) : Dg B (trimR l) := fun x hx => by
  obtain ⟨k, h1, _⟩ := trimR_spec l
  exact h x (by rw [h1]; exact List.mem_append_left _ hx)
theorem trimR_take (l : List Nat) : l.take (trimR l).length = trimR l := by
  obtain ⟨k, h1, _⟩ := trimR_spec l
  calc l.take (trimR l).length = (trimR l ++ List.replicate k 48).take (trimR l).length := by rw [← h1]
    _ = trimR l := List.take_left
theorem trimR_idem (l : List Nat) : trimR (trimR l) = trimR l := by
  obtain ⟨k, h1, h2⟩ := trimR_spec l
  rcases h2 with h2 | ⟨t, c, h2, hc⟩
  · rw [h2]; rfl
  · rw [h2, trimR_snoc, if_neg hc]
theorem wakes06 : Ev (numerarylaw06_wakes.f ()) true := by
  have p1 := parse_ok (l := [48, 48, 49, 50, 48]) (by unfold isD; decide) (by decide) (by decide)
  have p2 := parse_bad (l := [49, 97]) (by unfold Dg; decide) (by unfold isD; decide) (by decide)
  have t1 := text_ok (n := 18446744073709551615) (Nat.le_trans (ln_small (by decide)) (by decide)) (Nat.le_trans (dn_small (by decide)) (by decide))
  rw [decs_lit (l := [49, 56, 52, 52, 54, 55, 52, 52, 48, 55, 51, 55, 48, 57, 53, 53, 49, 54, 49, 53]) (n := 18446744073709551615) (by unfold isD; decide) ⟨_, _, rfl, by decide⟩ (by decide) (by decide)] at t1
  have pd := pad_S (l := [55]) (k := 3) (K := 3) rfl (by decide)
  have tr := trim_S (l := [49, 50, 48, 48]) (by unfold Dg; decide) (by decide)
  have ct := count_ok (n := 0) (by decide) (by decide)
  rw [show num [48, 48, 49, 50, 48] = 120 by decide] at p1
  refine ev_eq numerarylaw06_wakes.f_eq (Ev.bind p1 (Ev.bind (nsmall (n := 120) (by decide)) (Ev.bind p2 (Ev.bind (of_val (n := 18446744073709551615) (by decide)) (Ev.bind t1 ?_)))))
  exact ev_pos rfl (ev_pos rfl (ev_pos rfl (ev_pos rfl (ev_pos rfl (Ev.bind pd (ev_pos rfl (Ev.bind tr (ev_pos rfl (Ev.bind ct (ev_now rfl))))))))))
end Go.Proofs.YtbapeilokmphdaaGreatDoor.F

/- Rounding to places, and to digits: the program's and the document's. -/
namespace Go.Proofs.YtbapeilokmphdaaGreatDoor.F
open Go Go.Proofs.YtbapeilokmphdaaGreatDoor.E
set_option linter.unusedVariables false
set_option linter.unusedSimpArgs false
theorem decs0_step {m : Nat} (h : 0 < m) : decs0 m = decs0 (m / 10) ++ [48 + m % 10] := by
  unfold decs0
  rw [dg_pos b10 h]; simp
/-- The document's decimals. -/
theorem rtext {n : Nat} (hd : dn n ≤ 1000000000) : Ev (numeraryref02_Text.f (D n)) (S (decs n)) := by
  refine ev_eq numeraryref02_Text.f_eq ?_
  rw [D_length]
  rcases Nat.eq_zero_or_pos n with rfl | hn
  · exact ev_pos (by decide) (ev_now rfl)
  · have hdn := dn_pos hn
    refine ev_neg (by omega) ?_
    rw [decs_of_pos hn]
    have loop : ∀ i, i ≤ dn n → Ev (numeraryref02_Text.l0 (D n) (S (decs0 (n / 10 ^ i))) ((i : Int) - 1)) (S (decs0 n)) := by
      intro i
      induction i with
      | zero =>
        intro _
        rw [Nat.pow_zero, Nat.div_one]
        exact ev_loop numeraryref02_Text.l0_eq numeraryref02_Text.l0_step (ev_neg (by omega) (ev_now rfl))
      | succ i ih =>
        intro hi
        have hp : 0 < n / 10 ^ i := by
          refine Nat.div_pos ?_ (Nat.pow_pos (by decide))
          rcases Nat.lt_or_ge n (10 ^ i) with h | h
          · have := (dg_len b10 n i).mpr h
            unfold dn at hi; omega
          · exact h
        have hd : rdI (D n) (((i + 1 : Nat) : Int) - 1) = ((n / 10 ^ i % 10 : Nat) : Int) := by
          rw [show ((i + 1 : Nat) : Int) - 1 = (i : Int) by omega]; unfold D; rw [rd_nl, gd_dg (by decide)]
        refine ev_loop numeraryref02_Text.l0_eq numeraryref02_Text.l0_step (ev_pos (by omega) (ev_pos (by omega) (ev_pos (by rw [D_length]; omega) ?_)))
        have hw : IntKind.u8.wrap (IntKind.i64.wrap (48 + ((n / 10 ^ i % 10 : Nat) : Int))) = ((48 + n / 10 ^ i % 10 : Nat) : Int) := by
          rw [wrap_id (by omega) (by omega), u8_id (by omega) (by omega)]; omega
        have hs := decs0_step hp
        rw [Nat.div_div_eq_div_mul, ← Nat.pow_succ] at hs
        have hlen : (decs0 (n / 10 ^ (i + 1))).length ≤ dn n := by rw [decs0_len]; exact dn_mono (Nat.div_le_self _ _)
        rw [hd, hw, show ([((48 + n / 10 ^ i % 10 : Nat) : Int)] : List Int) = nl [48 + n / 10 ^ i % 10] from rfl, strOf_nl, S_app, ← hs, show IntKind.i64.wrap (((i + 1 : Nat) : Int) - 1 - 1) = (i : Int) - 1 by rw [wrap_id (by omega) (by omega)]; omega]
        exact ev_pos (by rw [S_size, S_size]; show _ + 1 ≤ _; omega) (ih (by omega))
    have h := loop (dn n) (Nat.le_refl _)
    rw [show n / 10 ^ dn n = 0 from Nat.div_eq_of_lt (dg_len_le b10 (Nat.le_refl _)), decs0_zero] at h
    rw [wrap_id (by omega) (by omega)]
    exact h
/-! ### to places -/
/-- So many decimals of a number below a power of ten. -/
def tail (p r : Nat) : List Nat := List.replicate (p - dn r) 48 ++ decs0 r
theorem tail_len {p r : Nat} (h : r < 10 ^ p) : (tail p r).length = p := by
  have : dn r ≤ p := (dg_len b10 r p).mpr h
  unfold tail
  rw [List.length_append, List.length_replicate, decs0_len]; omega
theorem tail_isD (p r : Nat) : isD (tail p r) := (isD.rep _).app (decs0_isD r)
theorem num_tail (p r : Nat) : num (tail p r) = r := by unfold tail; rw [num_app, num_rep, num_decs0]; simp
theorem split10 (N p : Nat) : N / 10 ^ p * 10 ^ p + N % 10 ^ p = N := by rw [Nat.mul_comm]; exact Nat.div_add_mod N (10 ^ p)
theorem mod10_lt (N p : Nat) : N % 10 ^ p < 10 ^ p := Nat.mod_lt _ (Nat.pow_pos (by decide))
theorem pad_split (N p : Nat) : pad (p + 1) (decs N) = decs (N / 10 ^ p) ++ tail p (N % 10 ^ p) := by
  have hm := mod10_lt N p
  rcases Nat.eq_zero_or_pos (N / 10 ^ p) with hq | hq
  · have hN : N % 10 ^ p = N := by have := split10 N p; rw [hq] at this; omega
    rw [hq, hN, pad_decs (by omega)]
    rw [hN] at hm
    have hd : dn N ≤ p := (dg_len b10 N p).mpr hm
    unfold tail
    rw [show p + 1 - dn N = (p - dn N) + 1 by omega, List.replicate_succ]; rfl
  · have hs := decs0_split hq hm
    rw [split10] at hs
    have hN : 0 < N := Nat.lt_of_lt_of_le hq (Nat.div_le_self _ _)
    have hl : (decs N).length = (decs0 (N / 10 ^ p)).length + p := by
      rw [decs_of_pos hN, hs, List.length_append]
      congr 1
      exact tail_len hm
    have h0 : 0 < (decs0 (N / 10 ^ p)).length := by rw [decs0_len]; exact dn_pos hq
    unfold pad
    rw [show p + 1 - (decs N).length = 0 by omega, decs_of_pos hN, decs_of_pos hq, hs]
    rfl
theorem pad0_split (N p : Nat) : pad p (decs0 N) = decs0 (N / 10 ^ p) ++ tail p (N % 10 ^ p) := by
  have hm := mod10_lt N p
  rcases Nat.eq_zero_or_pos (N / 10 ^ p) with hq | hq
  · have hN : N % 10 ^ p = N := by have := split10 N p; rw [hq] at this; omega
    rw [hq, hN, decs0_zero]
    unfold pad tail
    rw [decs0_len]; rfl
  · have hs := decs0_split hq hm
    rw [split10] at hs
    have hl : (decs0 N).length = (decs0 (N / 10 ^ p)).length + p := by
      rw [hs, List.length_append]
      congr 1
      exact tail_len hm
    unfold pad
    rw [show p - (decs0 N).length = 0 by omega, hs]
    rfl
theorem trimL_decs (q : Nat) : trimL (decs q) = decs0 q := by
  rcases Nat.eq_zero_or_pos q with rfl | hq
  · rfl
  · rw [decs_of_pos hq]
    obtain ⟨c, t, h, h1, h2⟩ := decs0_head hq
    unfold trimL
    rw [h, List.dropWhile_cons, if_neg (by simp; omega)]
theorem near_le_of {a K d : Nat} (hd : 0 < d) (h : a ≤ K * d) : near a d ≤ K := by
  unfold near
  refine Nat.lt_succ_iff.mp (Nat.div_lt_of_lt_mul ?_)
  have : 2 * d * K.succ = 2 * (K * d) + 2 * d := by rw [Nat.succ_eq_add_one]; grind
  omega
theorem ten_ln {k : Nat} (hk : k ≤ 10000) : ln (10 ^ k) ≤ 1252 := by have := ln_pow10 k; omega
theorem dn_of_ln {n c : Nat} (h : ln n ≤ c) : dn n ≤ 10 * c := by
  refine (dg_len b10 _ _).mpr ?_
  have h1 := dg_len_le b32 h
  have h2 : 4294967296 ^ c ≤ 10 ^ (10 * c) := by
    rw [Nat.pow_mul]
    exact Nat.pow_le_pow_left (by decide) c
  omega
theorem at_ok {r : List Int × List Int} {n d c p : Nat} (hr : RQ r n d c) (hd : 0 < d) (hc : c ≤ 10000) (hp : p ≤ 400) :
    Ev (round_At.f r (p : Int)) ((S (decs0 (near (n * 10 ^ p) d / 10 ^ p)), S (tail p (near (n * 10 ^ p) d % 10 ^ p))), true) := by
  obtain ⟨t, ht, vt⟩ := ratio_scale (k := p) hr hd (by omega) (by omega)
  obtain ⟨w1, w2⟩ := whole ht hd (by omega)
  obtain ⟨N, hN⟩ : ∃ N, near (n * 10 ^ p) d = N := ⟨_, rfl⟩
  rw [hN] at w1 w2 ⊢
  clear hN
  have hl0 : ln N ≤ 11001 := by omega
  have hl1 : ln N ≤ 1048576 := Nat.le_trans hl0 (by decide)
  have hd1 : dn N ≤ 200000 := Nat.le_trans (dn_of_ln hl0) (by decide)
  clear w2
  have hm := mod10_lt N p
  have hdg : Dg 256 (decs (N / 10 ^ p)) := (decs_isD _).dg
  have htx := text_ok (n := N) hl1 (Nat.le_trans hd1 (by decide))
  have hpad := pad_S (l := decs N) (k := p + 1) (K := IntKind.i64.wrap ((p : Int) + 1)) (by rw [wrap_id (by omega) (by omega)]; omega) (by omega)
  rw [pad_split] at hpad
  refine ev_eq round_At.f_eq (ev_neg (by omega) (ev_neg (by omega) (Ev.bind vt (Ev.bind w1 (Ev.bind htx (Ev.bind hpad ?_))))))
  have hsz : ((S (decs (N / 10 ^ p) ++ tail p (N % 10 ^ p))).size : Int) = ((decs (N / 10 ^ p)).length : Int) + (p : Int) := by
    rw [S_size, List.length_append, tail_len hm]; omega
  have hdl : (decs (N / 10 ^ p)).length ≤ 200000 := by
    rw [decs_len]
    have := dn_mono (Nat.div_le_self N (10 ^ p))
    omega
  rw [hsz, wrap_id (x := ((decs (N / 10 ^ p)).length : Int) + (p : Int) - (p : Int)) (by omega) (by omega), show ((decs (N / 10 ^ p)).length : Int) + (p : Int) - (p : Int) = (((decs (N / 10 ^ p)).length : Nat) : Int) by omega, Int.toNat_natCast, S_ext, List.drop_zero, List.take_left, S_ext, S_size, List.take_length, List.drop_left]
  have htl := trimLeft_S hdg
  rw [show (decs (N / 10 ^ p)).dropWhile (· == 48) = decs0 (N / 10 ^ p) from trimL_decs _] at htl
  exact ev_pos (by omega) (ev_pos (by omega) (Ev.bind htl (ev_pos (by omega) (ev_pos (by omega) (ev_now rfl)))))
theorem at_bad {r : List Int × List Int} {p : Int} (h : p < 0 ∨ 400 < p) : Ev (round_At.f r p) ((ByteArray.empty, ByteArray.empty), false) := by
  refine ev_eq round_At.f_eq ?_
  by_cases c : p < 0
  · exact ev_pos c (ev_now rfl)
  · exact ev_neg c (ev_pos (by omega) (ev_now rfl))
theorem rat_ok {P k p : Nat} (hP : dn P ≤ 100000) (hk : k ≤ 100000) (hp : p ≤ 100000) {N : Nat} (hN : near (P * 10 ^ p) (10 ^ k) = N) :
    Ev (numeraryref09_At.f (D P) (k : Int) (p : Int)) (S (decs0 (N / 10 ^ p)), S (tail p (N % 10 ^ p))) := by
  have hcut := rcut (n := P) (k := k) (p := p) (by omega) (by omega) (by omega)
  rw [hN] at hcut
  have hdN : dn N ≤ 300000 := by
    have h1 := near_le (x := P * 10 ^ p) (y := 10 ^ k) (Nat.pow_pos (by decide))
    rw [hN] at h1
    have h2 := dn_mono h1
    have h3 := dn_ten P p
    have h4 : dn (P * 10 ^ p + 1) ≤ dn (P * 10 ^ p) + 1 := by
      have hh := dg_lt b10 (P * 10 ^ p)
      refine (dg_len b10 _ _).mpr ?_
      have hh : P * 10 ^ p < 10 ^ dn (P * 10 ^ p) := hh
      rw [Nat.pow_succ]
      omega
    omega
  have hm := mod10_lt N p
  refine ev_eq numeraryref09_At.f_eq (Ev.bind hcut ?_)
  -- noughts are set ahead
  have loop : ∀ j (l : List Nat), l.length + j = max p l.length → Ev (numeraryref09_At.l0 (p : Int) (S (List.replicate j 48 ++ l))) (S (decs0 (N / 10 ^ p)), S (tail p (N % 10 ^ p))) → Ev (numeraryref09_At.l0 (p : Int) (S l)) (S (decs0 (N / 10 ^ p)), S (tail p (N % 10 ^ p))) := by
    intro j
    induction j with
    | zero => intro l _ h; simpa using h
    | succ j ih =>
      intro l hl h
      refine ev_loop numeraryref09_At.l0_eq numeraryref09_At.l0_step (ev_pos (by rw [S_size]; omega) ?_)
      rw [show (⟨#[48]⟩ : ByteArray) = S [48] from rfl, S_app]
      refine ev_pos (by rw [S_size, S_size]; show 1 + _ ≤ _; omega) (ih (48 :: l) (by simp; omega) ?_)
      rw [List.replicate_succ', List.append_assoc] at h
      exact h
  have fin : Ev (numeraryref09_At.l0 (p : Int) (S (pad p (decs0 N)))) (S (decs0 (N / 10 ^ p)), S (tail p (N % 10 ^ p))) := by
    rw [pad0_split]
    refine ev_loop numeraryref09_At.l0_eq numeraryref09_At.l0_step ?_
    have hsz : ((S (decs0 (N / 10 ^ p) ++ tail p (N % 10 ^ p))).size : Int) = ((decs0 (N / 10 ^ p)).length : Int) + (p : Int) := by
      rw [S_size, List.length_append, tail_len hm]; omega
    have hdl : (decs0 (N / 10 ^ p)).length ≤ 300000 := by
      rw [decs0_len]
      have := dn_mono (Nat.div_le_self N (10 ^ p))
      omega
    rw [hsz, wrap_id (x := ((decs0 (N / 10 ^ p)).length : Int) + (p : Int) - (p : Int)) (by omega) (by omega), show ((decs0 (N / 10 ^ p)).length : Int) + (p : Int) - (p : Int) = (((decs0 (N / 10 ^ p)).length : Nat) : Int) by omega, Int.toNat_natCast, S_ext, List.drop_zero, List.take_left, S_ext, S_size, List.take_length, List.drop_left]
    exact ev_neg (by omega) (ev_pos (by omega) (ev_pos (by omega) (ev_pos (by omega) (ev_pos (by omega) (ev_now rfl)))))
  have start : Ev (numeraryref09_At.l0 (p : Int) (S (decs0 N))) (S (decs0 (N / 10 ^ p)), S (tail p (N % 10 ^ p))) :=
    loop (p - (decs0 N).length) (decs0 N) (by omega) fin
  rw [D_length]
  rcases Nat.eq_zero_or_pos N with h0 | h0
  · have : dn N = 0 := by rw [h0]; rfl
    refine ev_neg (by omega) ?_
    have e : S (decs0 N) = (⟨#[]⟩ : ByteArray) := by rw [h0]; rfl
    rw [e] at start
    exact start
  · have := dn_pos h0
    refine ev_pos (by omega) (Ev.bind (rtext (by omega)) ?_)
    rw [decs_of_pos h0]
    exact start
/-! ### the power of ten of the first digit -/
/-- 10 ^ e is the greatest power that isn't above n over d. -/
def IsE (n d : Nat) (e : Int) : Prop := ∀ u v : Nat, (u : Int) - (v : Int) = e → d * 10 ^ u ≤ n * 10 ^ v ∧ n * 10 ^ v < d * 10 ^ (u + 1)
theorem IsE.of {n d u v : Nat} {e : Int} (he : (u : Int) - (v : Int) = e) (h1 : d * 10 ^ u ≤ n * 10 ^ v) (h2 : n * 10 ^ v < d * 10 ^ (u + 1)) : IsE n d e := by
  intro x y hxy
  have key : d * 10 ^ x * 10 ^ v = d * 10 ^ u * 10 ^ y ∧ d * 10 ^ (x + 1) * 10 ^ v = d * 10 ^ (u + 1) * 10 ^ y ∧ n * 10 ^ y * 10 ^ v = n * 10 ^ v * 10 ^ y := by
    refine ⟨?_, ?_, Nat.mul_right_comm _ _ _⟩
    · rw [Nat.mul_assoc, Nat.mul_assoc, ← Nat.pow_add, ← Nat.pow_add, show x + v = u + y by omega]
    · rw [Nat.mul_assoc, Nat.mul_assoc, ← Nat.pow_add, ← Nat.pow_add, show x + 1 + v = u + 1 + y by omega]
  obtain ⟨k1, k2, k3⟩ := key
  have hv : 0 < 10 ^ v := Nat.pow_pos (by decide)
  have hy : 0 < 10 ^ y := Nat.pow_pos (by decide)
  constructor
  · refine Nat.le_of_mul_le_mul_right (c := 10 ^ v) ?_ hv
    rw [k1, k3]
    exact Nat.mul_le_mul_right _ h1
  · refine Nat.lt_of_mul_lt_mul_right (a := 10 ^ v) ?_
    rw [k2, k3]
    exact Nat.mul_lt_mul_of_pos_right h2 hy
theorem IsE.scale {n d N D' : Nat} {e : Int} (h : IsE n d e) (hd : 0 < d) (hD : 0 < D') (hx : N * d = n * D') : IsE N D' e := by
  intro u v huv
  obtain ⟨h1, h2⟩ := h u v huv
  constructor
  · refine Nat.le_of_mul_le_mul_right (c := d) ?_ hd
    calc D' * 10 ^ u * d = d * 10 ^ u * D' := by grind
      _ ≤ n * 10 ^ v * D' := Nat.mul_le_mul_right _ h1
      _ = N * 10 ^ v * d := by rw [Nat.mul_right_comm, ← hx]; grind
  · refine Nat.lt_of_mul_lt_mul_right (a := d) ?_
    calc N * 10 ^ v * d = n * 10 ^ v * D' := by rw [Nat.mul_right_comm N, hx]; grind
      _ < d * 10 ^ (u + 1) * D' := Nat.mul_lt_mul_of_pos_right h2 hD
      _ = D' * 10 ^ (u + 1) * d := by grind
theorem IsE.uniq {n d : Nat} {e f : Int} (h : IsE n d e) (k : IsE n d f) : e = f := by
  have key : ∀ {e f : Int}, IsE n d e → IsE n d f → ¬ e < f := by
    intro e f h k hlt
    obtain ⟨u, v, huv⟩ : ∃ u v : Nat, (u : Int) - (v : Int) = e := ⟨e.toNat, (-e).toNat, by omega⟩
    obtain ⟨w, hw⟩ : ∃ w : Nat, ((u + 1 + w : Nat) : Int) - (v : Int) = f := ⟨(f - e - 1).toNat, by omega⟩
    have h1 := (h u v huv).2
    have h2 := (k _ _ hw).1
    have h3 : d * 10 ^ (u + 1) ≤ d * 10 ^ (u + 1 + w) := Nat.mul_le_mul_left _ (Nat.pow_le_pow_right (by decide) (by omega))
    omega
  have h1 := key h k
  have h2 := key k h
  omega
theorem rexp_is {P k : Nat} (hP : 0 < P) : IsE P (10 ^ k) ((dn P : Int) - 1 - (k : Int)) := by
  have h0 := dn_pos hP
  refine IsE.of (u := dn P - 1) (v := k) (by omega) ?_ ?_
  · rw [Nat.mul_comm]; exact Nat.mul_le_mul_right _ (dg_ge b10 hP)
  · rw [Nat.mul_comm, show dn P - 1 + 1 = dn P by omega]; exact Nat.mul_lt_mul_of_pos_left (dg_lt b10 P) (Nat.pow_pos (by decide))
theorem rexp_ok {P k : Nat} (hP : dn P ≤ 1000000) (hk : k ≤ 1000000) : Ev (numeraryref09_Exp.f (D P) (k : Int)) ((dn P : Int) - 1 - (k : Int)) := by
  refine ev_eq numeraryref09_Exp.f_eq (ev_now ?_)
  rw [D_length, wrap_id (x := ((dn P : Nat) : Int) - 1) (by omega) (by omega), wrap_id (by omega) (by omega)]
theorem ten_or {k : Int} (h1 : -10000 ≤ k) (h2 : k ≤ 10000) : Ev (tens_Ten.f k) (L (10 ^ k.toNat)) := by
  by_cases c : 0 ≤ k
  · have := ten (c := k.toNat) (by omega)
    rwa [Int.toNat_of_nonneg c] at this
  · have h : k.toNat = 0 := by omega
    rw [h, Nat.pow_zero]
    exact ten_neg (by omega)
theorem power_ok {k : Int} (h1 : -9000 ≤ k) (h2 : k ≤ 9000) : ∃ r, RQ r (10 ^ k.toNat) (10 ^ (-k).toNat) 1252 ∧ Ev (round_power.f k) r := by
  have l1 := ten_ln (k := k.toNat) (by omega)
  have l2 := ten_ln (k := (-k).toNat) (by omega)
  obtain ⟨r, hr, hv⟩ := ratio_of (a := 10 ^ k.toNat) (b := 10 ^ (-k).toNat) (c := 1252) (Nat.pow_pos (by decide)) (by decide) l1 l2
  refine ⟨r, hr, ev_eq round_power.f_eq (Ev.bind (ten_or (by omega) (by omega)) ?_)⟩
  rw [wrap_id (x := 0 - k) (by omega) (by omega), show 0 - k = -k by omega]
  exact Ev.bind (ten_or (by omega) (by omega)) (Ev.bind hv (ev_now rfl))
theorem exp_zero {r : List Int × List Int} {d c : Nat} (hr : RQ r 0 d c) (hd : 0 < d) (hc : c ≤ 10000) : Ev (round_Exp.f r) (0, false) := by
  obtain ⟨n', d', rfl, p1, g, e1, la, lb⟩ := hr
  have hn : n' = 0 := by
    rw [Nat.zero_mul] at e1
    rcases Nat.mul_eq_zero.mp e1 with h | h
    · exact h
    · omega
  subst hn
  exact ev_eq round_Exp.f_eq (Ev.bind (terms_pos p1 (by omega)) (Ev.bind (nbits (n := 0) (by decide)) (ev_pos (by decide) (ev_now rfl))))
theorem exp_ok {r : List Int × List Int} {n d c : Nat} (hr : RQ r n d c) (hd : 0 < d) (hn : 0 < n) (hc : c ≤ 800) : ∃ e : Int, IsE n d e ∧ -8001 ≤ e ∧ e ≤ 8000 ∧
    Ev (round_Exp.f r) (if -5000 ≤ e ∧ e ≤ 5000 then (e, true) else (0, false)) := by
  have hr0 := hr
  obtain ⟨n', d', rfl, p1, g, e1, la, lb⟩ := hr
  have hn' : 0 < n' := by
    rcases Nat.eq_zero_or_pos n' with h | h
    · exfalso; rw [h, Nat.zero_mul] at e1
      have := Nat.mul_pos hn p1
      omega
    · exact h
  have dn1 := dn_of_ln la
  have dn2 := dn_of_ln lb
  have q1 := dn_pos hn'
  have q2 := dn_pos p1
  have hb := bl_pos hn'
  obtain ⟨k, hk⟩ : ∃ k : Int, k = (dn n' : Int) - (dn d' : Int) := ⟨_, rfl⟩
  obtain ⟨s, hs, vs⟩ := power_ok (k := k) (by omega) (by omega)
  have hcmp := ratio_cmp hr0 hs hd (Nat.pow_pos (by decide)) (by omega) (by decide)
  have c1 := count_ok (n := n') (by omega) (by omega)
  have c2 := count_ok (n := d') (by omega) (by omega)
  rw [show max 1 (dn n') = dn n' by omega] at c1
  rw [show max 1 (dn d') = dn d' by omega] at c2
  have hkw : IntKind.i64.wrap (((dn n' : Nat) : Int) - ((dn d' : Nat) : Int)) = k := by rw [wrap_id (by omega) (by omega)]; exact hk.symm
  -- n' over d' lies between 10 ^ (k - 1) and 10 ^ (k + 1)
  have goUp : n' * 10 ^ (dn d') < d' * 10 ^ (dn n' + 1) := by
    have h1 := dg_lt b10 n'
    have h2 := dg_ge b10 p1
    have h1 : n' < 10 ^ dn n' := h1
    have h2 : 10 ^ (dn d' - 1) ≤ d' := h2
    have h3 : n' * 10 ^ dn d' < 10 ^ dn n' * 10 ^ dn d' := Nat.mul_lt_mul_of_pos_right h1 (Nat.pow_pos (by decide))
    have h4 : 10 ^ dn n' * 10 ^ dn d' = 10 ^ (dn d' - 1) * 10 ^ (dn n' + 1) := by rw [← Nat.pow_add, ← Nat.pow_add]; congr 1; omega
    have h5 : 10 ^ (dn d' - 1) * 10 ^ (dn n' + 1) ≤ d' * 10 ^ (dn n' + 1) := Nat.mul_le_mul_right _ h2
    omega
  have low : d' * 10 ^ (dn n' - 1) ≤ n' * 10 ^ (dn d') := by
    have h1 := dg_ge b10 hn'
    have h2 := dg_lt b10 d'
    have h1 : 10 ^ (dn n' - 1) ≤ n' := h1
    have h2 : d' < 10 ^ dn d' := h2
    have h3 : d' * 10 ^ (dn n' - 1) ≤ 10 ^ dn d' * 10 ^ (dn n' - 1) := Nat.mul_le_mul_right _ (Nat.le_of_lt h2)
    have h5 : 10 ^ dn d' * 10 ^ (dn n' - 1) ≤ n' * 10 ^ dn d' := by rw [Nat.mul_comm n']; exact Nat.mul_le_mul_left _ h1
    omega
  have scale : ∀ e : Int, IsE n' d' e → IsE n d e := fun e h => h.scale p1 hd e1.symm
  have go : ∀ {R}, Ev (if (cmpI (n * 10 ^ (-k).toNat) (10 ^ k.toNat * d)) < 0 then (if (IntKind.i64.wrap (k - 1)) < (-5000) then (M.ret ((0 : Int), false)) else (if (IntKind.i64.wrap (k - 1)) > 5000 then (M.ret (0, false)) else (M.ret (IntKind.i64.wrap (k - 1), true)))) else (if k < (-5000) then (M.ret (0, false)) else (if k > 5000 then (M.ret (0, false)) else (M.ret (k, true))))) R → Ev (round_Exp.f (L n', L d')) R := by
    intro R h
    refine ev_eq round_Exp.f_eq (Ev.bind (terms_pos p1 (by omega)) (Ev.bind (nbits (by omega)) (ev_neg (by omega) (Ev.bind c1 (Ev.bind c2 ?_)))))
    rw [hkw]
    exact Ev.bind vs (Ev.bind hcmp h)
  have cmp_iff : n * 10 ^ (-k).toNat < 10 ^ k.toNat * d ↔ n' * 10 ^ dn d' < d' * 10 ^ dn n' := by
    have e3 : n * 10 ^ (-k).toNat * (d' * 10 ^ dn d') = n' * 10 ^ dn d' * (d * 10 ^ (-k).toNat) := by
      calc n * 10 ^ (-k).toNat * (d' * 10 ^ dn d') = n * d' * (10 ^ (-k).toNat * 10 ^ dn d') := by grind
        _ = _ := by rw [← e1]; grind
    have e4 : 10 ^ k.toNat * d * (d' * 10 ^ dn d') = d' * 10 ^ dn n' * (d * 10 ^ (-k).toNat) := by
      have : 10 ^ k.toNat * 10 ^ dn d' = 10 ^ dn n' * 10 ^ (-k).toNat := by rw [← Nat.pow_add, ← Nat.pow_add]; congr 1; omega
      calc 10 ^ k.toNat * d * (d' * 10 ^ dn d') = d * d' * (10 ^ k.toNat * 10 ^ dn d') := by grind
        _ = _ := by rw [this]; grind
    have hA : 0 < d' * 10 ^ dn d' := Nat.mul_pos p1 (Nat.pow_pos (by decide))
    have hB : 0 < d * 10 ^ (-k).toNat := Nat.mul_pos hd (Nat.pow_pos (by decide))
    rw [← Nat.mul_lt_mul_right hA, e3, e4, Nat.mul_lt_mul_right hB]
  by_cases hlt : n' * 10 ^ dn d' < d' * 10 ^ dn n'
  · have hE : IsE n' d' (k - 1) := IsE.of (u := dn n' - 1) (v := dn d') (by omega) low (by rw [show dn n' - 1 + 1 = dn n' by omega]; exact hlt)
    refine ⟨k - 1, scale _ hE, by omega, by omega, go (ev_pos (cmpI_lt.mpr (cmp_iff.mpr hlt)) ?_)⟩
    rw [wrap_id (by omega) (by omega)]
    by_cases b : -5000 ≤ k - 1 ∧ k - 1 ≤ 5000
    · rw [if_pos b]; exact ev_neg (by omega) (ev_neg (by omega) (ev_now rfl))
    · rw [if_neg b]
      by_cases b2 : k - 1 < -5000
      · exact ev_pos b2 (ev_now rfl)
      · exact ev_neg b2 (ev_pos (by omega) (ev_now rfl))
  · have hE : IsE n' d' k := IsE.of (u := dn n') (v := dn d') (by omega) (by omega) goUp
    refine ⟨k, scale _ hE, by omega, by omega, go (ev_neg (fun h => hlt (cmp_iff.mp (cmpI_lt.mp h))) ?_)⟩
    by_cases b : -5000 ≤ k ∧ k ≤ 5000
    · rw [if_pos b]; exact ev_neg (by omega) (ev_neg (by omega) (ev_now rfl))
    · rw [if_neg b]
      by_cases b2 : k < -5000
      · exact ev_pos b2 (ev_now rfl)
      · exact ev_neg b2 (ev_pos (by omega) (ev_now rfl))
/-! ### to digits -/
/-- n over d times a power of ten, rounded. -/
def sc (n d : Nat) (t : Int) : Nat := near (n * 10 ^ t.toNat) (d * 10 ^ (-t).toNat)
theorem sc_scale {n d N D' : Nat} {t : Int} (hd : 0 < d) (hD : 0 < D') (hx : N * d = n * D') : sc N D' t = sc n d t := by
  unfold sc
  refine near_scale (Nat.mul_pos hD (Nat.pow_pos (by decide))) (Nat.mul_pos hd (Nat.pow_pos (by decide))) ?_
  calc N * 10 ^ t.toNat * (d * 10 ^ (-t).toNat) = N * d * (10 ^ t.toNat * 10 ^ (-t).toNat) := by grind
    _ = _ := by rw [hx]; grind
theorem sc_bounds {n d m : Nat} {e : Int} (hE : IsE n d e) (hd : 0 < d) (hm : 1 ≤ m) : 10 ^ (m - 1) ≤ sc n d ((m : Int) - 1 - e) ∧ sc n d ((m : Int) - 1 - e) ≤ 10 ^ m := by
  unfold sc
  obtain ⟨t, ht⟩ : ∃ t : Int, t = (m : Int) - 1 - e := ⟨_, rfl⟩
  rw [← ht]
  obtain ⟨u, v, huv⟩ : ∃ u v : Nat, (u : Int) - (v : Int) = e := ⟨e.toNat, (-e).toNat, by omega⟩
  obtain ⟨h1, h2⟩ := hE u v huv
  have hD : 0 < d * 10 ^ (-t).toNat := Nat.mul_pos hd (Nat.pow_pos (by decide))
  have hv : 0 < 10 ^ v := Nat.pow_pos (by decide)
  have ee : 10 ^ (m - 1) * 10 ^ (-t).toNat * 10 ^ v = 10 ^ u * 10 ^ t.toNat := by rw [← Nat.pow_add, ← Nat.pow_add, ← Nat.pow_add]; congr 1; omega
  have low : 10 ^ (m - 1) * (d * 10 ^ (-t).toNat) ≤ n * 10 ^ t.toNat := by
    refine Nat.le_of_mul_le_mul_right (c := 10 ^ v) ?_ hv
    calc 10 ^ (m - 1) * (d * 10 ^ (-t).toNat) * 10 ^ v = d * (10 ^ (m - 1) * 10 ^ (-t).toNat * 10 ^ v) := by grind
      _ = d * 10 ^ u * 10 ^ t.toNat := by rw [ee]; grind
      _ ≤ n * 10 ^ v * 10 ^ t.toNat := Nat.mul_le_mul_right _ h1
      _ = n * 10 ^ t.toNat * 10 ^ v := Nat.mul_right_comm _ _ _
  have high : n * 10 ^ t.toNat ≤ 10 ^ m * (d * 10 ^ (-t).toNat) := by
    refine Nat.le_of_mul_le_mul_right (c := 10 ^ v) ?_ hv
    have e2 : 10 ^ m * 10 ^ (-t).toNat * 10 ^ v = 10 ^ (u + 1) * 10 ^ t.toNat := by rw [← Nat.pow_add, ← Nat.pow_add, ← Nat.pow_add]; congr 1; omega
    calc n * 10 ^ t.toNat * 10 ^ v = n * 10 ^ v * 10 ^ t.toNat := Nat.mul_right_comm _ _ _
      _ ≤ d * 10 ^ (u + 1) * 10 ^ t.toNat := Nat.mul_le_mul_right _ (Nat.le_of_lt h2)
      _ = d * (10 ^ m * 10 ^ (-t).toNat * 10 ^ v) := by rw [e2]; grind
      _ = 10 ^ m * (d * 10 ^ (-t).toNat) * 10 ^ v := by grind
  constructor
  · unfold near
    rw [Nat.le_div_iff_mul_le (by omega)]
    have : 10 ^ (m - 1) * (2 * (d * 10 ^ (-t).toNat)) = 2 * (10 ^ (m - 1) * (d * 10 ^ (-t).toNat)) := by grind
    omega
  · exact near_le_of hD high
/-- The digits and the power that a rounded number stands for. -/
def sciOf (N m : Nat) (e : Int) : ByteArray × Int := if N = 10 ^ m then (S (decs0 (10 ^ (m - 1))), e + 1) else (S (decs0 N), e)
theorem dn_ten_pow (m : Nat) : dn (10 ^ m) = m + 1 := by
  have h1 : dn (10 ^ m) ≤ m + 1 := (dg_len b10 _ _).mpr (Nat.pow_lt_pow_right (by decide) (by omega))
  have h2 : ¬ dn (10 ^ m) ≤ m := fun h => Nat.lt_irrefl _ ((dg_len b10 _ _).mp h)
  omega
theorem decs0_ten (m : Nat) : decs0 (10 ^ m) = 49 :: List.replicate m 48 := by
  have h := decs0_split (q := 1) (r := 0) (k := m) (by decide) (Nat.pow_pos (by decide))
  rw [Nat.one_mul, Nat.add_zero, decs0_zero, List.append_nil] at h
  exact h
theorem fin_to {N m : Nat} {e W : Int} (hm : 1 ≤ m) (hm2 : m ≤ 400) (h1 : 10 ^ (m - 1) ≤ N) (h2 : N ≤ 10 ^ m) (hW : W = e + 1) {R : (ByteArray × Int)} (hR : R = sciOf N m e) {α : Type} {K : ByteArray × Int → M α} {r : α} (hK : Ev (K R) r) :
    Ev (if ((S (decs N)).size : Int) > (m : Int) then (if 0 ≤ (m : Int) then (if (m : Int) ≤ ((S (decs N)).size : Int) then (K ((S (decs N)).extract 0 (m : Int).toNat, W)) else M.none) else M.none) else (K (S (decs N), e))) r := by
  subst hW
  have hN : 0 < N := Nat.lt_of_lt_of_le (Nat.pow_pos (by decide)) h1
  rw [S_size, decs_of_pos hN, decs0_len]
  unfold sciOf at hR
  by_cases c : N = 10 ^ m
  · rw [if_pos c] at hR
    subst c
    rw [dn_ten_pow]
    refine ev_pos (by omega) (ev_pos (by omega) (ev_pos (by omega) ?_))
    have : (S (decs0 (10 ^ m))).extract 0 (m : Int).toNat = S (decs0 (10 ^ (m - 1))) := by
      rw [S_ext, List.drop_zero, Int.toNat_natCast, decs0_ten, decs0_ten]
      obtain ⟨k, rfl⟩ : ∃ k, m = k + 1 := ⟨m - 1, by omega⟩
      rw [List.take_succ_cons, List.take_replicate, show min k (k + 1) = k by omega]; rfl
    rw [this, ← hR]
    exact hK
  · rw [if_neg c] at hR
    have hd : dn N ≤ m := (dg_len b10 N m).mpr (by omega)
    rw [← hR]
    exact ev_neg (by omega) hK
theorem to_ok {r : List Int × List Int} {n d c m : Nat} (hr : RQ r n d c) (hd : 0 < d) (hn : 0 < n) (hc : c ≤ 800) (hm : 1 ≤ m) (hm2 : m ≤ 400) {e : Int} (hE : IsE n d e) :
    Ev (round_To.f r (m : Int)) (if -5000 ≤ e ∧ e ≤ 5000 then (sciOf (sc n d ((m : Int) - 1 - e)) m e, true) else ((ByteArray.empty, 0), false)) := by
  obtain ⟨e', hE', b1, b2, hx⟩ := exp_ok hr hd hn hc
  obtain rfl := hE.uniq hE'
  by_cases hb : -5000 ≤ e ∧ e ≤ 5000
  · rw [if_pos hb] at hx ⊢
    obtain ⟨s1, s2⟩ := sc_bounds (m := m) hE hd hm
    obtain ⟨n', d', rfl, p1, g, e1, la, lb⟩ := hr
    have hsc : sc n d ((m : Int) - 1 - e) = sc n' d' ((m : Int) - 1 - e) := sc_scale p1 hd e1.symm
    rw [hsc] at s1 s2 ⊢
    have hw : IntKind.i64.wrap (IntKind.i64.wrap ((m : Int) - 1) - e) = (m : Int) - 1 - e := by rw [wrap_id (x := (m : Int) - 1) (by omega) (by omega), wrap_id (by omega) (by omega)]
    obtain ⟨t, ht⟩ : ∃ t : Int, t = (m : Int) - 1 - e := ⟨_, rfl⟩
    rw [← ht] at hw s1 s2 ⊢
    have he1 : IntKind.i64.wrap (e + 1) = e + 1 := by rw [wrap_id (by omega) (by omega)]
    have lN : ∀ {z : Nat}, ln z ≤ 1048576 → True := fun _ => trivial
    refine ev_eq round_To.f_eq (Ev.bind hx (ev_neg (by simp) (ev_neg (by omega) (ev_neg (by omega) (Ev.bind (terms_pos p1 (by omega)) ?_)))))
    dsimp only
    rw [hw]
    have lm : ln (10 ^ m) ≤ 1252 := ten_ln (by omega)
    have lsN : ln (sc n' d' t) ≤ 1252 := Nat.le_trans (ln_mono s2) lm
    have dsN : dn (sc n' d' t) ≤ 401 := by have := dn_mono s2; rw [dn_ten_pow] at this; omega
    have htx := text_ok (n := sc n' d' t) (by omega) (by omega)
    by_cases h0 : 0 ≤ t
    · obtain ⟨u, hu⟩ : ∃ u : Nat, t = (u : Int) := ⟨t.toNat, by omega⟩
      have lu : ln (10 ^ u) ≤ 1252 := ten_ln (by omega)
      have lmul := ln_mul n' (10 ^ u)
      obtain ⟨x, hxq, vx⟩ := ratio_of (a := n' * 10 ^ u) (b := d') (c := 2100) p1 (by decide) (by omega) (by omega)
      obtain ⟨w1, w2⟩ := whole hxq p1 (by decide)
      have hscu : sc n' d' t = near (n' * 10 ^ u) d' := by unfold sc; rw [hu, Int.toNat_natCast, show (-(u : Int)).toNat = 0 by omega, Nat.pow_zero, Nat.mul_one]
      rw [← hscu] at w1
      subst hu
      exact ev_pos h0 (Ev.bind (ten (by omega)) (Ev.bind (nmul (by omega) (by omega)) (Ev.bind vx (Ev.bind w1 (Ev.bind htx (fin_to (K := fun z => M.ret (z, true)) hm hm2 s1 s2 he1 rfl (ev_now rfl)))))))
    · obtain ⟨u, hu⟩ : ∃ u : Nat, -t = (u : Int) := ⟨(-t).toNat, by omega⟩
      have lu : ln (10 ^ u) ≤ 1252 := ten_ln (by omega)
      have lmul := ln_mul d' (10 ^ u)
      have hpd : 0 < d' * 10 ^ u := Nat.mul_pos p1 (Nat.pow_pos (by decide))
      obtain ⟨x, hxq, vx⟩ := ratio_of (a := n') (b := d' * 10 ^ u) (c := 2100) hpd (by decide) (by omega) (by omega)
      obtain ⟨w1, w2⟩ := whole hxq hpd (by decide)
      have hscu : sc n' d' t = near n' (d' * 10 ^ u) := by unfold sc; rw [show t.toNat = 0 by omega, Nat.pow_zero, Nat.mul_one, show (-t).toNat = u by omega]
      rw [← hscu] at w1
      have hwt : IntKind.i64.wrap (0 - t) = (u : Int) := by rw [wrap_id (by omega) (by omega)]; omega
      refine ev_neg h0 ?_
      rw [hwt]
      exact Ev.bind (ten (by omega)) (Ev.bind (nmul (by omega) (by omega)) (Ev.bind vx (Ev.bind w1 (Ev.bind htx (fin_to (K := fun z => M.ret (z, true)) hm hm2 s1 s2 he1 rfl (ev_now rfl))))))
  · rw [if_neg hb] at hx ⊢
    exact ev_eq round_To.f_eq (Ev.bind hx (ev_pos (by simp) (ev_now rfl)))
theorem to_zero {r : List Int × List Int} {d c : Nat} {m : Int} (hr : RQ r 0 d c) (hd : 0 < d) (hc : c ≤ 10000) : Ev (round_To.f r m) ((ByteArray.empty, 0), false) :=
  ev_eq round_To.f_eq (Ev.bind (exp_zero hr hd hc) (ev_pos (by simp) (ev_now rfl)))
theorem to_bad {r : List Int × List Int} {n d c : Nat} {m : Int} (hr : RQ r n d c) (hd : 0 < d) (hn : 0 < n) (hc : c ≤ 800) (hm : m < 1 ∨ 400 < m) : Ev (round_To.f r m) ((ByteArray.empty, 0), false) := by
  obtain ⟨e', hE', b1, b2, hx⟩ := exp_ok hr hd hn hc
  refine ev_eq round_To.f_eq (Ev.bind hx ?_)
  by_cases hb : -5000 ≤ e' ∧ e' ≤ 5000
  · rw [if_pos hb]
    refine ev_neg (by simp) ?_
    by_cases c : m < 1
    · exact ev_pos c (ev_now rfl)
    · exact ev_neg c (ev_pos (by omega) (ev_now rfl))
  · rw [if_neg hb]
    exact ev_pos (by simp) (ev_now rfl)
theorem rcut_neg {n k q : Nat} (hn : dn n ≤ 1000000) (hk : k ≤ 500000) (hq : q ≤ 500000) (h0 : 0 < q) : Ev (numeraryref09_Cut.f (D n) (k : Int) (-(q : Int))) (D (near n (10 ^ (k + q)))) := by
  have h := rcut (n := n) (k := k + q) (p := 0) hn (by omega) (by omega)
  rw [Nat.pow_zero, Nat.mul_one] at h
  have e : numeraryref09_Cut.f (D n) (k : Int) (-(q : Int)) = numeraryref09_Cut.f (D n) ((k + q : Nat) : Int) ((0 : Nat) : Int) := by
    have w1 : IntKind.i64.wrap ((k : Int) - -(q : Int)) = ((k + q : Nat) : Int) := by rw [wrap_id (by omega) (by omega)]; omega
    have w2 : IntKind.i64.wrap (((k + q : Nat) : Int) - ((0 : Nat) : Int)) = ((k + q : Nat) : Int) := by rw [wrap_id (by omega) (by omega)]; omega
    rw [numeraryref09_Cut.f_eq, numeraryref09_Cut.f_eq, w1, w2, if_neg (show ¬ (-(q : Int)) ≥ (k : Int) by omega), if_neg (show ¬ ((0 : Nat) : Int) ≥ ((k + q : Nat) : Int) by omega)]
  rw [e]
  exact h
theorem rto_ok {P k m : Nat} (hP : 0 < P) (hd : dn P ≤ 100000) (hk : k ≤ 100000) (hm : 1 ≤ m) (hm2 : m ≤ 400) :
    Ev (numeraryref09_To.f (D P) (k : Int) (m : Int)) (sciOf (sc P (10 ^ k) ((m : Int) - 1 - ((dn P : Int) - 1 - (k : Int)))) m ((dn P : Int) - 1 - (k : Int))) := by
  obtain ⟨s1, s2⟩ := sc_bounds (m := m) (rexp_is (k := k) hP) (Nat.pow_pos (by decide)) hm
  have h0 := dn_pos hP
  have hw : IntKind.i64.wrap (IntKind.i64.wrap ((m : Int) - 1) - ((dn P : Int) - 1 - (k : Int))) = (m : Int) - 1 - ((dn P : Int) - 1 - (k : Int)) := by rw [wrap_id (x := (m : Int) - 1) (by omega) (by omega), wrap_id (by omega) (by omega)]
  obtain ⟨e, he⟩ : ∃ e : Int, e = (dn P : Int) - 1 - (k : Int) := ⟨_, rfl⟩
  have hexp := rexp_ok (P := P) (k := k) (by omega) (by omega)
  rw [← he] at hw s1 s2 hexp ⊢
  obtain ⟨t, ht⟩ : ∃ t : Int, t = (m : Int) - 1 - e := ⟨_, rfl⟩
  rw [← ht] at hw s1 s2 ⊢
  have dsN : dn (sc P (10 ^ k) t) ≤ 401 := by have := dn_mono s2; rw [dn_ten_pow] at this; omega
  have htx := rtext (n := sc P (10 ^ k) t) (by omega)
  have he1 : IntKind.i64.wrap (e + 1) = e + 1 := by rw [wrap_id (by omega) (by omega)]
  have fin : Ev (if ((S (decs (sc P (10 ^ k) t))).size : Int) > (m : Int) then (if 0 ≤ (m : Int) then (if (m : Int) ≤ ((S (decs (sc P (10 ^ k) t))).size : Int) then (M.ret ((S (decs (sc P (10 ^ k) t))).extract 0 (m : Int).toNat, IntKind.i64.wrap (e + 1))) else M.none) else M.none) else (M.ret (S (decs (sc P (10 ^ k) t)), e))) (sciOf (sc P (10 ^ k) t) m e) :=
    fin_to (K := fun z => M.ret z) hm hm2 s1 s2 he1 rfl (ev_now rfl)
  refine ev_eq numeraryref09_To.f_eq (Ev.bind hexp ?_)
  rw [hw]
  by_cases c : 0 ≤ t
  · obtain ⟨u, hu⟩ : ∃ u : Nat, t = (u : Int) := ⟨t.toNat, by omega⟩
    have hscu : sc P (10 ^ k) t = near (P * 10 ^ u) (10 ^ k) := by unfold sc; rw [hu, Int.toNat_natCast, show (-(u : Int)).toNat = 0 by omega, Nat.pow_zero, Nat.mul_one]
    have hcut := rcut (n := P) (k := k) (p := u) (by omega) (by omega) (by omega)
    rw [← hscu, ← hu] at hcut
    exact Ev.bind hcut (ev_neg (by omega) (Ev.bind htx fin))
  · obtain ⟨u, hu⟩ : ∃ u : Nat, t = -(u : Int) := ⟨(-t).toNat, by omega⟩
    have hscu : sc P (10 ^ k) t = near P (10 ^ (k + u)) := by unfold sc; rw [show t.toNat = 0 by omega, Nat.pow_zero, Nat.mul_one, show (-t).toNat = u by omega, Nat.pow_add]
    have hcut := rcut_neg (n := P) (k := k) (q := u) (by omega) (by omega) (by omega) (by omega)
    have hcut2 := rcut (n := P) (k := k + u) (p := 0) (by omega) (by omega) (by omega)
    rw [Nat.pow_zero, Nat.mul_one, ← hscu] at hcut2
    rw [← hu] at hcut
    rw [D_length]
    refine Ev.bind hcut (ev_pos (by omega) (ev_pos (by omega) ?_))
    rw [show IntKind.i64.wrap (((dn P : Nat) : Int) - (m : Int)) = ((k + u : Nat) : Int) by rw [wrap_id (by omega) (by omega)]; omega]
    exact Ev.bind hcut2 (Ev.bind htx fin)
end Go.Proofs.YtbapeilokmphdaaGreatDoor.F

/- The general text of a quotient, and the document's. -/
namespace Go.Proofs.YtbapeilokmphdaaGreatDoor.F
open Go Go.Proofs.YtbapeilokmphdaaGreatDoor.E
set_option linter.unusedVariables false
set_option linter.unusedSimpArgs false
def joinedL (i fr : List Nat) : List Nat := if trimR fr = [] then i else (i ++ [46]) ++ trimR fr
def intL (i : List Nat) : List Nat := if i = [] then [48] else i
theorem S_eq0 {l : List Nat} : S l = (⟨#[]⟩ : ByteArray) ↔ l = [] := ⟨fun h => by
  by_cases c : l = []
  · exact c
  · exact absurd h (S_ne c), fun h => by rw [h]; rfl⟩
theorem S_dot : (⟨#[46]⟩ : ByteArray) = S [46] := rfl
theorem take_snoc {l : List Nat} {j : Nat} (h : j < l.length) : l.take (j + 1) = l.take j ++ [gd l j] := by
  rw [List.take_add_one, List.getElem?_eq_getElem h]
  unfold gd
  rw [List.getD_eq_getElem?_getD, List.getElem?_eq_getElem h]
  rfl
theorem gjoined {i fr : List Nat} (hD : Dg 256 fr) (hi : i.length ≤ 100000) (hf : fr.length ≤ 100000) : Ev (general_joined.f (S i) (S fr)) (S (joinedL (intL i) fr)) := by
  have hle := trimR_le fr
  refine ev_eq general_joined.f_eq ?_
  unfold joinedL intL
  by_cases c : i = []
  · rw [if_pos c]
    refine ev_pos (S_eq0.mpr c) (Ev.bind (trim_S hD (by omega)) ?_)
    by_cases c1 : trimR fr = []
    · rw [if_pos c1]
      exact ev_pos (S_eq0.mpr c1) (ev_now rfl)
    · rw [if_neg c1]
      refine ev_neg (fun h => c1 (S_eq0.mp h)) ?_
      rw [show (⟨#[48]⟩ : ByteArray) = S [48] from rfl, S_dot, S_app, S_app]
      exact ev_pos (by rw [S_size, S_size]; simp) (ev_pos (by rw [S_size, S_size]; simp; omega) (ev_now rfl))
  · rw [if_neg c]
    refine ev_neg (fun h => c (S_eq0.mp h)) (Ev.bind (trim_S hD (by omega)) ?_)
    by_cases c1 : trimR fr = []
    · rw [if_pos c1]
      exact ev_pos (S_eq0.mpr c1) (ev_now rfl)
    · rw [if_neg c1]
      refine ev_neg (fun h => c1 (S_eq0.mp h)) ?_
      rw [S_dot, S_app, S_app]
      exact ev_pos (by rw [S_size, S_size]; simp; omega) (ev_pos (by rw [S_size, S_size]; simp; omega) (ev_now rfl))
theorem rjoined {i fr : List Nat} (hD : Dg 256 fr) (hi : i.length ≤ 100000) (hf : fr.length ≤ 100000) : Ev (numeraryref21_joined.f (S i) (S fr)) (S (joinedL (intL i) fr)) := by
  have loop : ∀ {a : List Nat}, a.length ≤ 100000 → ∀ j, j ≤ fr.length → trimR fr = trimR (fr.take j) → Ev (numeraryref21_joined.l0 (S a) (S fr) (j : Int)) (S (joinedL a fr)) := by
    intro a ha j
    induction j with
    | zero =>
      intro _ h
      rw [List.take_zero, trimR_nil] at h
      refine ev_loop numeraryref21_joined.l0_eq numeraryref21_joined.l0_step (ev_neg (by omega) (ev_pos (by rfl) (ev_now ?_)))
      unfold joinedL
      rw [if_pos h]
    | succ j ih =>
      intro hj h
      have hb := byteAt_S hD j
      rw [take_snoc (by omega), trimR_snoc] at h
      have w : IntKind.i64.wrap (((j + 1 : Nat) : Int) - 1) = (j : Int) := by rw [wrap_id (by omega) (by omega)]; omega
      refine ev_loop numeraryref21_joined.l0_eq numeraryref21_joined.l0_step (ev_pos (by omega) ?_)
      rw [w, hb]
      refine ev_pos (by omega) (ev_pos (by rw [S_size]; omega) ?_)
      by_cases c : gd fr j = 48
      · rw [if_pos c] at h
        exact ev_pos (by omega) (ih (by omega) h)
      · rw [if_neg c, ← take_snoc (by omega)] at h
        have ne : trimR fr ≠ [] := by
          rw [h]; intro h'
          have := congrArg List.length h'
          rw [List.length_take] at this
          have h2 : min (j + 1) fr.length = 0 := this
          omega
        refine ev_neg (by omega) (ev_neg (by omega) ?_)
        rw [S_ext, List.drop_zero, Int.toNat_natCast, S_dot, S_app, S_app]
        refine ev_pos (by rw [S_size, S_size]; simp; omega) (ev_pos (by omega) (ev_pos (by rw [S_size]; omega) (ev_pos (by rw [S_size, S_size, List.length_take]; simp; omega) (ev_now ?_))))
        unfold joinedL
        rw [if_neg ne, h]
  refine ev_eq numeraryref21_joined.f_eq ?_
  rw [S_size]
  unfold intL
  by_cases c : i = []
  · rw [if_pos c]
    refine ev_pos (S_eq0.mpr c) ?_
    exact loop (a := [48]) (by decide) fr.length (Nat.le_refl _) (by rw [List.take_length])
  · rw [if_neg c]
    exact ev_neg (fun h => c (S_eq0.mp h)) (loop hi fr.length (Nat.le_refl _) (by rw [List.take_length]))
/-! ### the power -/
theorem pad2 {x : Nat} (hx : x ≤ 9999) : pad 2 (decs x) = if 100 ≤ x then (if 1000 ≤ x then [48 + x / 1000] ++ [48 + x / 100 % 10] ++ [48 + x / 10 % 10, 48 + x % 10] else [48 + x / 100 % 10] ++ [48 + x / 10 % 10, 48 + x % 10]) else [48 + x / 10 % 10, 48 + x % 10] := by
  have d0 : decs0 0 = [] := rfl
  rcases Nat.eq_zero_or_pos x with rfl | h0
  · decide
  rw [decs_of_pos h0, decs0_step h0]
  unfold pad
  by_cases c1 : 10 ≤ x
  · rw [decs0_step (m := x / 10) (by omega), show x / 10 / 10 = x / 100 by omega]
    by_cases c2 : 100 ≤ x
    · rw [if_pos c2, decs0_step (m := x / 100) (by omega), show x / 100 / 10 = x / 1000 by omega]
      by_cases c3 : 1000 ≤ x
      · rw [if_pos c3, decs0_step (m := x / 1000) (by omega), show x / 1000 / 10 = 0 by omega, d0, show x / 1000 % 10 = x / 1000 by omega]
        rfl
      · rw [if_neg c3, show x / 1000 = 0 by omega, d0]
        rfl
    · rw [if_neg c2, show x / 100 = 0 by omega, d0]
      rfl
  · rw [if_neg (by omega), show x / 10 = 0 by omega, d0]
    rfl
theorem hd1 {x : Nat} (hx : x ≤ 9999) : strOf ([IntKind.u8.wrap (IntKind.i64.wrap (48 + (IntKind.i64.wrap ((x : Int).tdiv 1000))))] : List Int) = S [48 + x / 1000] := by
  rw [show (x : Int).tdiv 1000 = ((x / 1000 : Nat) : Int) from rfl, wrap_id (x := ((x / 1000 : Nat) : Int)) (by omega) (by omega), wrap_id (by omega) (by omega), u8_id (by omega) (by omega), ← strOf_nl]
  unfold nl; simp
theorem hd2 {x : Nat} (hx : x ≤ 9999) : strOf ([IntKind.u8.wrap (IntKind.i64.wrap (48 + ((IntKind.i64.wrap ((x : Int).tdiv 100)).tmod 10)))] : List Int) = S [48 + x / 100 % 10] := by
  rw [show (x : Int).tdiv 100 = ((x / 100 : Nat) : Int) from rfl, wrap_id (x := ((x / 100 : Nat) : Int)) (by omega) (by omega), show ((x / 100 : Nat) : Int).tmod 10 = ((x / 100 % 10 : Nat) : Int) from rfl, wrap_id (by omega) (by omega), u8_id (by omega) (by omega), ← strOf_nl]
  unfold nl; simp
theorem hd3 {x : Nat} (hx : x ≤ 9999) : strOf ([IntKind.u8.wrap (IntKind.i64.wrap (48 + ((IntKind.i64.wrap ((x : Int).tdiv 10)).tmod 10))), IntKind.u8.wrap (IntKind.i64.wrap (48 + ((x : Int).tmod 10)))] : List Int) = S [48 + x / 10 % 10, 48 + x % 10] := by
  rw [show (x : Int).tdiv 10 = ((x / 10 : Nat) : Int) from rfl, wrap_id (x := ((x / 10 : Nat) : Int)) (by omega) (by omega), show ((x / 10 : Nat) : Int).tmod 10 = ((x / 10 % 10 : Nat) : Int) from rfl, show (x : Int).tmod 10 = ((x % 10 : Nat) : Int) from rfl, wrap_id (x := 48 + ((x / 10 % 10 : Nat) : Int)) (by omega) (by omega), wrap_id (x := 48 + ((x % 10 : Nat) : Int)) (by omega) (by omega), u8_id (x := 48 + ((x / 10 % 10 : Nat) : Int)) (by omega) (by omega), u8_id (x := 48 + ((x % 10 : Nat) : Int)) (by omega) (by omega), ← strOf_nl]
  unfold nl; simp
theorem hand {u1 sg : ByteArray} {z : Int} {x : Nat} (hz : z = (x : Int)) (hx : x ≤ 9999) (h1 : u1.size ≤ 100000) (h2 : sg.size ≤ 100) :
    Ev ((if u1.size + sg.size ≤ 9223372036854775807 then (if z ≥ 100 then (if z ≥ 1000 then (if (u1 ++ sg).size + (strOf ([IntKind.u8.wrap (IntKind.i64.wrap (48 + (IntKind.i64.wrap (z.tdiv 1000))))] : List Int)).size ≤ 9223372036854775807 then (if ((u1 ++ sg) ++ (strOf ([IntKind.u8.wrap (IntKind.i64.wrap (48 + (IntKind.i64.wrap (z.tdiv 1000))))] : List Int))).size + (strOf ([IntKind.u8.wrap (IntKind.i64.wrap (48 + ((IntKind.i64.wrap (z.tdiv 100)).tmod 10)))] : List Int)).size ≤ 9223372036854775807 then (if (((u1 ++ sg) ++ (strOf ([IntKind.u8.wrap (IntKind.i64.wrap (48 + (IntKind.i64.wrap (z.tdiv 1000))))] : List Int))) ++ (strOf ([IntKind.u8.wrap (IntKind.i64.wrap (48 + ((IntKind.i64.wrap (z.tdiv 100)).tmod 10)))] : List Int))).size + (strOf ([IntKind.u8.wrap (IntKind.i64.wrap (48 + ((IntKind.i64.wrap (z.tdiv 10)).tmod 10))), IntKind.u8.wrap (IntKind.i64.wrap (48 + (z.tmod 10)))] : List Int)).size ≤ 9223372036854775807 then (M.ret ((((u1 ++ sg) ++ (strOf ([IntKind.u8.wrap (IntKind.i64.wrap (48 + (IntKind.i64.wrap (z.tdiv 1000))))] : List Int))) ++ (strOf ([IntKind.u8.wrap (IntKind.i64.wrap (48 + ((IntKind.i64.wrap (z.tdiv 100)).tmod 10)))] : List Int))) ++ (strOf ([IntKind.u8.wrap (IntKind.i64.wrap (48 + ((IntKind.i64.wrap (z.tdiv 10)).tmod 10))), IntKind.u8.wrap (IntKind.i64.wrap (48 + (z.tmod 10)))] : List Int)))) else M.none) else M.none) else M.none) else (if (u1 ++ sg).size + (strOf ([IntKind.u8.wrap (IntKind.i64.wrap (48 + ((IntKind.i64.wrap (z.tdiv 100)).tmod 10)))] : List Int)).size ≤ 9223372036854775807 then (if ((u1 ++ sg) ++ (strOf ([IntKind.u8.wrap (IntKind.i64.wrap (48 + ((IntKind.i64.wrap (z.tdiv 100)).tmod 10)))] : List Int))).size + (strOf ([IntKind.u8.wrap (IntKind.i64.wrap (48 + ((IntKind.i64.wrap (z.tdiv 10)).tmod 10))), IntKind.u8.wrap (IntKind.i64.wrap (48 + (z.tmod 10)))] : List Int)).size ≤ 9223372036854775807 then (M.ret (((u1 ++ sg) ++ (strOf ([IntKind.u8.wrap (IntKind.i64.wrap (48 + ((IntKind.i64.wrap (z.tdiv 100)).tmod 10)))] : List Int))) ++ (strOf ([IntKind.u8.wrap (IntKind.i64.wrap (48 + ((IntKind.i64.wrap (z.tdiv 10)).tmod 10))), IntKind.u8.wrap (IntKind.i64.wrap (48 + (z.tmod 10)))] : List Int)))) else M.none) else M.none)) else (if (u1 ++ sg).size + (strOf ([IntKind.u8.wrap (IntKind.i64.wrap (48 + ((IntKind.i64.wrap (z.tdiv 10)).tmod 10))), IntKind.u8.wrap (IntKind.i64.wrap (48 + (z.tmod 10)))] : List Int)).size ≤ 9223372036854775807 then (M.ret ((u1 ++ sg) ++ (strOf ([IntKind.u8.wrap (IntKind.i64.wrap (48 + ((IntKind.i64.wrap (z.tdiv 10)).tmod 10))), IntKind.u8.wrap (IntKind.i64.wrap (48 + (z.tmod 10)))] : List Int)))) else M.none)) else M.none)) ((u1 ++ sg) ++ S (pad 2 (decs x))) := by
  subst hz
  have sz : (u1 ++ sg).size = u1.size + sg.size := ByteArray.size_append
  rw [pad2 hx, hd1 hx, hd2 hx, hd3 hx]
  refine ev_pos (by omega) ?_
  by_cases c1 : 100 ≤ x
  · rw [if_pos c1]
    by_cases c2 : 1000 ≤ x
    · rw [if_pos c2]
      refine ev_pos (by omega) (ev_pos (by omega) ?_)
      refine ev_pos (by rw [sz, S_size]; simp; omega) (ev_pos (by rw [ByteArray.size_append, sz, S_size, S_size]; simp; omega) (ev_pos (by rw [ByteArray.size_append, ByteArray.size_append, sz, S_size, S_size, S_size]; simp; omega) (ev_now ?_)))
      rw [← S_app, ← S_app, ByteArray.append_assoc (a := u1 ++ sg), ByteArray.append_assoc (a := u1 ++ sg)]
    · rw [if_neg c2]
      refine ev_pos (by omega) (ev_neg (by omega) ?_)
      refine ev_pos (by rw [sz, S_size]; simp; omega) (ev_pos (by rw [ByteArray.size_append, sz, S_size, S_size]; simp; omega) (ev_now ?_))
      rw [← S_app, ByteArray.append_assoc (a := u1 ++ sg)]
  · rw [if_neg c1]
    exact ev_neg (by omega) (ev_pos (by rw [sz, S_size]; simp; omega) (ev_now rfl))
def powL (l : List Nat) (e : Int) : List Nat := ((joinedL (intL (l.take 1)) (l.drop 1)) ++ [69, if e < 0 then 45 else 43]) ++ pad 2 (decs e.natAbs)
theorem powL_neg {l : List Nat} {e : Int} (c : e < 0) : powL l e = ((joinedL (intL (l.take 1)) (l.drop 1)) ++ [69, 45]) ++ pad 2 (decs e.natAbs) := by unfold powL; rw [if_pos c]
theorem powL_pos {l : List Nat} {e : Int} (c : ¬ e < 0) : powL l e = ((joinedL (intL (l.take 1)) (l.drop 1)) ++ [69, 43]) ++ pad 2 (decs e.natAbs) := by unfold powL; rw [if_neg c]
theorem joinedL_len (i fr : List Nat) : (joinedL i fr).length ≤ i.length + 1 + fr.length := by
  have := trimR_le fr
  unfold joinedL
  split
  · omega
  · simp; omega
theorem pow_size {l : List Nat} (hl : l.length ≤ 400) : (joinedL (intL (l.take 1)) (l.drop 1)).length ≤ 1000 := by
  have h1 := joinedL_len (intL (l.take 1)) (l.drop 1)
  have h2 : (intL (l.take 1)).length ≤ 1 := by
    unfold intL
    split
    · decide
    · rw [List.length_take]; omega
  rw [List.length_drop] at h1
  omega
theorem rpow {l : List Nat} {e : Int} {u0 : ByteArray × Int} (hu : u0 = (S l, e)) (hD : isD l) (h0 : 1 ≤ l.length) (hl : l.length ≤ 400) (he : -9999 ≤ e) (he2 : e ≤ 9999) :
    Ev ((if 0 ≤ 1 then (if 1 ≤ (u0.1.size : Int) then (if 0 ≤ 1 then (if 1 ≤ (u0.1.size : Int) then (M.bind (numeraryref21_joined.f (u0.1.extract 0 1) (u0.1.extract 1 u0.1.size)) fun u1 => (if u0.2 < 0 then (if u1.size + (⟨#[69, 45]⟩ : ByteArray).size ≤ 9223372036854775807 then (if (IntKind.i64.wrap (0 - u0.2)) ≥ 100 then (if (IntKind.i64.wrap (0 - u0.2)) ≥ 1000 then (if (u1 ++ (⟨#[69, 45]⟩ : ByteArray)).size + (strOf ([IntKind.u8.wrap (IntKind.i64.wrap (48 + (IntKind.i64.wrap ((IntKind.i64.wrap (0 - u0.2)).tdiv 1000))))] : List Int)).size ≤ 9223372036854775807 then (if ((u1 ++ (⟨#[69, 45]⟩ : ByteArray)) ++ (strOf ([IntKind.u8.wrap (IntKind.i64.wrap (48 + (IntKind.i64.wrap ((IntKind.i64.wrap (0 - u0.2)).tdiv 1000))))] : List Int))).size + (strOf ([IntKind.u8.wrap (IntKind.i64.wrap (48 + ((IntKind.i64.wrap ((IntKind.i64.wrap (0 - u0.2)).tdiv 100)).tmod 10)))] : List Int)).size ≤ 9223372036854775807 then (if (((u1 ++ (⟨#[69, 45]⟩ : ByteArray)) ++ (strOf ([IntKind.u8.wrap (IntKind.i64.wrap (48 + (IntKind.i64.wrap ((IntKind.i64.wrap (0 - u0.2)).tdiv 1000))))] : List Int))) ++ (strOf ([IntKind.u8.wrap (IntKind.i64.wrap (48 + ((IntKind.i64.wrap ((IntKind.i64.wrap (0 - u0.2)).tdiv 100)).tmod 10)))] : List Int))).size + (strOf ([IntKind.u8.wrap (IntKind.i64.wrap (48 + ((IntKind.i64.wrap ((IntKind.i64.wrap (0 - u0.2)).tdiv 10)).tmod 10))), IntKind.u8.wrap (IntKind.i64.wrap (48 + ((IntKind.i64.wrap (0 - u0.2)).tmod 10)))] : List Int)).size ≤ 9223372036854775807 then (M.ret ((((u1 ++ (⟨#[69, 45]⟩ : ByteArray)) ++ (strOf ([IntKind.u8.wrap (IntKind.i64.wrap (48 + (IntKind.i64.wrap ((IntKind.i64.wrap (0 - u0.2)).tdiv 1000))))] : List Int))) ++ (strOf ([IntKind.u8.wrap (IntKind.i64.wrap (48 + ((IntKind.i64.wrap ((IntKind.i64.wrap (0 - u0.2)).tdiv 100)).tmod 10)))] : List Int))) ++ (strOf ([IntKind.u8.wrap (IntKind.i64.wrap (48 + ((IntKind.i64.wrap ((IntKind.i64.wrap (0 - u0.2)).tdiv 10)).tmod 10))), IntKind.u8.wrap (IntKind.i64.wrap (48 + ((IntKind.i64.wrap (0 - u0.2)).tmod 10)))] : List Int)))) else M.none) else M.none) else M.none) else (if (u1 ++ (⟨#[69, 45]⟩ : ByteArray)).size + (strOf ([IntKind.u8.wrap (IntKind.i64.wrap (48 + ((IntKind.i64.wrap ((IntKind.i64.wrap (0 - u0.2)).tdiv 100)).tmod 10)))] : List Int)).size ≤ 9223372036854775807 then (if ((u1 ++ (⟨#[69, 45]⟩ : ByteArray)) ++ (strOf ([IntKind.u8.wrap (IntKind.i64.wrap (48 + ((IntKind.i64.wrap ((IntKind.i64.wrap (0 - u0.2)).tdiv 100)).tmod 10)))] : List Int))).size + (strOf ([IntKind.u8.wrap (IntKind.i64.wrap (48 + ((IntKind.i64.wrap ((IntKind.i64.wrap (0 - u0.2)).tdiv 10)).tmod 10))), IntKind.u8.wrap (IntKind.i64.wrap (48 + ((IntKind.i64.wrap (0 - u0.2)).tmod 10)))] : List Int)).size ≤ 9223372036854775807 then (M.ret (((u1 ++ (⟨#[69, 45]⟩ : ByteArray)) ++ (strOf ([IntKind.u8.wrap (IntKind.i64.wrap (48 + ((IntKind.i64.wrap ((IntKind.i64.wrap (0 - u0.2)).tdiv 100)).tmod 10)))] : List Int))) ++ (strOf ([IntKind.u8.wrap (IntKind.i64.wrap (48 + ((IntKind.i64.wrap ((IntKind.i64.wrap (0 - u0.2)).tdiv 10)).tmod 10))), IntKind.u8.wrap (IntKind.i64.wrap (48 + ((IntKind.i64.wrap (0 - u0.2)).tmod 10)))] : List Int)))) else M.none) else M.none)) else (if (u1 ++ (⟨#[69, 45]⟩ : ByteArray)).size + (strOf ([IntKind.u8.wrap (IntKind.i64.wrap (48 + ((IntKind.i64.wrap ((IntKind.i64.wrap (0 - u0.2)).tdiv 10)).tmod 10))), IntKind.u8.wrap (IntKind.i64.wrap (48 + ((IntKind.i64.wrap (0 - u0.2)).tmod 10)))] : List Int)).size ≤ 9223372036854775807 then (M.ret ((u1 ++ (⟨#[69, 45]⟩ : ByteArray)) ++ (strOf ([IntKind.u8.wrap (IntKind.i64.wrap (48 + ((IntKind.i64.wrap ((IntKind.i64.wrap (0 - u0.2)).tdiv 10)).tmod 10))), IntKind.u8.wrap (IntKind.i64.wrap (48 + ((IntKind.i64.wrap (0 - u0.2)).tmod 10)))] : List Int)))) else M.none)) else M.none) else (if u1.size + (⟨#[69, 43]⟩ : ByteArray).size ≤ 9223372036854775807 then (if u0.2 ≥ 100 then (if u0.2 ≥ 1000 then (if (u1 ++ (⟨#[69, 43]⟩ : ByteArray)).size + (strOf ([IntKind.u8.wrap (IntKind.i64.wrap (48 + (IntKind.i64.wrap (u0.2.tdiv 1000))))] : List Int)).size ≤ 9223372036854775807 then (if ((u1 ++ (⟨#[69, 43]⟩ : ByteArray)) ++ (strOf ([IntKind.u8.wrap (IntKind.i64.wrap (48 + (IntKind.i64.wrap (u0.2.tdiv 1000))))] : List Int))).size + (strOf ([IntKind.u8.wrap (IntKind.i64.wrap (48 + ((IntKind.i64.wrap (u0.2.tdiv 100)).tmod 10)))] : List Int)).size ≤ 9223372036854775807 then (if (((u1 ++ (⟨#[69, 43]⟩ : ByteArray)) ++ (strOf ([IntKind.u8.wrap (IntKind.i64.wrap (48 + (IntKind.i64.wrap (u0.2.tdiv 1000))))] : List Int))) ++ (strOf ([IntKind.u8.wrap (IntKind.i64.wrap (48 + ((IntKind.i64.wrap (u0.2.tdiv 100)).tmod 10)))] : List Int))).size + (strOf ([IntKind.u8.wrap (IntKind.i64.wrap (48 + ((IntKind.i64.wrap (u0.2.tdiv 10)).tmod 10))), IntKind.u8.wrap (IntKind.i64.wrap (48 + (u0.2.tmod 10)))] : List Int)).size ≤ 9223372036854775807 then (M.ret ((((u1 ++ (⟨#[69, 43]⟩ : ByteArray)) ++ (strOf ([IntKind.u8.wrap (IntKind.i64.wrap (48 + (IntKind.i64.wrap (u0.2.tdiv 1000))))] : List Int))) ++ (strOf ([IntKind.u8.wrap (IntKind.i64.wrap (48 + ((IntKind.i64.wrap (u0.2.tdiv 100)).tmod 10)))] : List Int))) ++ (strOf ([IntKind.u8.wrap (IntKind.i64.wrap (48 + ((IntKind.i64.wrap (u0.2.tdiv 10)).tmod 10))), IntKind.u8.wrap (IntKind.i64.wrap (48 + (u0.2.tmod 10)))] : List Int)))) else M.none) else M.none) else M.none) else (if (u1 ++ (⟨#[69, 43]⟩ : ByteArray)).size + (strOf ([IntKind.u8.wrap (IntKind.i64.wrap (48 + ((IntKind.i64.wrap (u0.2.tdiv 100)).tmod 10)))] : List Int)).size ≤ 9223372036854775807 then (if ((u1 ++ (⟨#[69, 43]⟩ : ByteArray)) ++ (strOf ([IntKind.u8.wrap (IntKind.i64.wrap (48 + ((IntKind.i64.wrap (u0.2.tdiv 100)).tmod 10)))] : List Int))).size + (strOf ([IntKind.u8.wrap (IntKind.i64.wrap (48 + ((IntKind.i64.wrap (u0.2.tdiv 10)).tmod 10))), IntKind.u8.wrap (IntKind.i64.wrap (48 + (u0.2.tmod 10)))] : List Int)).size ≤ 9223372036854775807 then (M.ret (((u1 ++ (⟨#[69, 43]⟩ : ByteArray)) ++ (strOf ([IntKind.u8.wrap (IntKind.i64.wrap (48 + ((IntKind.i64.wrap (u0.2.tdiv 100)).tmod 10)))] : List Int))) ++ (strOf ([IntKind.u8.wrap (IntKind.i64.wrap (48 + ((IntKind.i64.wrap (u0.2.tdiv 10)).tmod 10))), IntKind.u8.wrap (IntKind.i64.wrap (48 + (u0.2.tmod 10)))] : List Int)))) else M.none) else M.none)) else (if (u1 ++ (⟨#[69, 43]⟩ : ByteArray)).size + (strOf ([IntKind.u8.wrap (IntKind.i64.wrap (48 + ((IntKind.i64.wrap (u0.2.tdiv 10)).tmod 10))), IntKind.u8.wrap (IntKind.i64.wrap (48 + (u0.2.tmod 10)))] : List Int)).size ≤ 9223372036854775807 then (M.ret ((u1 ++ (⟨#[69, 43]⟩ : ByteArray)) ++ (strOf ([IntKind.u8.wrap (IntKind.i64.wrap (48 + ((IntKind.i64.wrap (u0.2.tdiv 10)).tmod 10))), IntKind.u8.wrap (IntKind.i64.wrap (48 + (u0.2.tmod 10)))] : List Int)))) else M.none)) else M.none))) else M.none) else M.none) else M.none) else M.none)) (S (powL l e)) := by
  subst hu
  dsimp only
  rw [S_ext, S_ext, S_size, List.drop_zero, List.take_length]
  have hs := pow_size hl
  refine ev_pos (by decide) (ev_pos (by omega) (ev_pos (by decide) (ev_pos (by omega) (Ev.bind (rjoined (hD.drop 1).dg (by rw [List.length_take]; omega) (by rw [List.length_drop]; omega)) ?_))))
  by_cases c : e < 0
  · rw [powL_neg c, ← S_app, ← S_app]
    generalize joinedL (intL (l.take 1)) (l.drop 1) = J at *
    have h := hand (u1 := S J) (sg := (⟨#[69, 45]⟩ : ByteArray)) (z := IntKind.i64.wrap (0 - e)) (x := e.natAbs) (by rw [wrap_id (by omega) (by omega)]; omega) (by omega) (by rw [S_size]; omega) (by decide)
    refine ev_pos c ?_
    exact h
  · rw [powL_pos c, ← S_app, ← S_app]
    generalize joinedL (intL (l.take 1)) (l.drop 1) = J at *
    have h := hand (u1 := S J) (sg := (⟨#[69, 43]⟩ : ByteArray)) (z := e) (x := e.natAbs) (by omega) (by omega) (by rw [S_size]; omega) (by decide)
    refine ev_neg c ?_
    exact h
theorem itoa_S {x : Nat} {z : Int} (hz : z = (x : Int)) (hx : x ≤ 100000) : Ev (strconv_Itoa.f z) (S (decs x)) := by
  subst hz
  unfold strconv_Itoa.f
  rw [Int.toNat_natCast]
  exact ev_pos (by omega) (ev_now rfl)
theorem gpow {l : List Nat} {e : Int} {u0 : (ByteArray × Int) × Bool} (hu : u0 = ((S l, e), true)) (hD : isD l) (h0 : 1 ≤ l.length) (hl : l.length ≤ 400) (he : -9999 ≤ e) (he2 : e ≤ 9999) :
    Ev ((if u0.1.2 < 0 then (if 0 ≤ 1 then (if 1 ≤ (u0.1.1.size : Int) then (if 0 ≤ 1 then (if 1 ≤ (u0.1.1.size : Int) then (M.bind (general_joined.f (u0.1.1.extract 0 1) (u0.1.1.extract 1 u0.1.1.size)) fun u1 => (if u1.size + (⟨#[69, 45]⟩ : ByteArray).size ≤ 9223372036854775807 then (M.bind (strconv_Itoa.f (mxI u0.1.2 (IntKind.i64.wrap (0 - u0.1.2)))) fun u2 => (M.bind (digits_Pad.f u2 2) fun u3 => (if (u1 ++ (⟨#[69, 45]⟩ : ByteArray)).size + u3.size ≤ 9223372036854775807 then (M.ret ((u1 ++ (⟨#[69, 45]⟩ : ByteArray)) ++ u3)) else M.none))) else M.none)) else M.none) else M.none) else M.none) else M.none) else (if 0 ≤ 1 then (if 1 ≤ (u0.1.1.size : Int) then (if 0 ≤ 1 then (if 1 ≤ (u0.1.1.size : Int) then (M.bind (general_joined.f (u0.1.1.extract 0 1) (u0.1.1.extract 1 u0.1.1.size)) fun u4 => (if u4.size + (⟨#[69, 43]⟩ : ByteArray).size ≤ 9223372036854775807 then (M.bind (strconv_Itoa.f (mxI u0.1.2 (IntKind.i64.wrap (0 - u0.1.2)))) fun u5 => (M.bind (digits_Pad.f u5 2) fun u6 => (if (u4 ++ (⟨#[69, 43]⟩ : ByteArray)).size + u6.size ≤ 9223372036854775807 then (M.ret ((u4 ++ (⟨#[69, 43]⟩ : ByteArray)) ++ u6)) else M.none))) else M.none)) else M.none) else M.none) else M.none) else M.none))) (S (powL l e)) := by
  subst hu
  dsimp only
  rw [S_ext, S_ext, S_size, List.drop_zero, List.take_length]
  have hs := pow_size hl
  have hx : mxI e (IntKind.i64.wrap (0 - e)) = ((e.natAbs : Nat) : Int) := by
    rw [wrap_id (by omega) (by omega)]; unfold mxI; split <;> omega
  have hps : (pad 2 (decs e.natAbs)).length ≤ 1000 := by
    rw [pad2 (by omega)]; split <;> (try split) <;> simp
  rw [hx]
  have hj := gjoined (i := l.take 1) (fr := l.drop 1) (hD.drop 1).dg (by rw [List.length_take]; omega) (by rw [List.length_drop]; omega)
  have hi := itoa_S (x := e.natAbs) rfl (by omega)
  have hp := pad_S (l := decs e.natAbs) (k := 2) (K := 2) rfl (by decide)
  by_cases c : e < 0
  · rw [powL_neg c]
    generalize joinedL (intL (l.take 1)) (l.drop 1) = J at *
    refine ev_pos c (ev_pos (by decide) (ev_pos (by omega) (ev_pos (by decide) (ev_pos (by omega) (Ev.bind hj ?_)))))
    rw [show (⟨#[69, 45]⟩ : ByteArray) = S [69, 45] from rfl, S_app]
    refine ev_pos (by rw [S_size, S_size]; simp; omega) (Ev.bind hi (Ev.bind hp ?_))
    rw [S_app]
    exact ev_pos (by rw [S_size, S_size]; simp; omega) (ev_now rfl)
  · rw [powL_pos c]
    generalize joinedL (intL (l.take 1)) (l.drop 1) = J at *
    refine ev_neg c (ev_pos (by decide) (ev_pos (by omega) (ev_pos (by decide) (ev_pos (by omega) (Ev.bind hj ?_)))))
    rw [show (⟨#[69, 43]⟩ : ByteArray) = S [69, 43] from rfl, S_app]
    refine ev_pos (by rw [S_size, S_size]; simp; omega) (Ev.bind hi (Ev.bind hp ?_))
    rw [S_app]
    exact ev_pos (by rw [S_size, S_size]; simp; omega) (ev_now rfl)
end Go.Proofs.YtbapeilokmphdaaGreatDoor.F

/- The general text is the document's. -/
namespace Go.Proofs.YtbapeilokmphdaaGreatDoor.F
open Go Go.Proofs.YtbapeilokmphdaaGreatDoor.E
set_option linter.unusedVariables false
set_option linter.unusedSimpArgs false
def sciL (N m : Nat) (e : Int) : List Nat × Int := if N = 10 ^ m then (decs0 (10 ^ (m - 1)), e + 1) else (decs0 N, e)
theorem sciL_eq (N m : Nat) (e : Int) : sciOf N m e = (S (sciL N m e).1, (sciL N m e).2) := by
  unfold sciOf sciL
  split <;> rfl
theorem sciL_ok {N m : Nat} {e : Int} (hm : 1 ≤ m) (h1 : 10 ^ (m - 1) ≤ N) (h2 : N ≤ 10 ^ m) : isD (sciL N m e).1 ∧ (sciL N m e).1.length = m ∧ ((sciL N m e).2 = e ∨ (sciL N m e).2 = e + 1) ∧ ∃ c t, (sciL N m e).1 = c :: t ∧ c ≠ 48 := by
  have lead : ∀ {M : Nat}, 0 < M → ∃ c t, decs0 M = c :: t ∧ c ≠ 48 := fun hM => by
    obtain ⟨c, t, h3, h4, h5⟩ := decs0_head hM
    exact ⟨c, t, h3, by omega⟩
  unfold sciL
  by_cases c : N = 10 ^ m
  · rw [if_pos c]
    refine ⟨decs0_isD _, ?_, .inr rfl, lead (Nat.pow_pos (by decide))⟩
    show (decs0 (10 ^ (m - 1))).length = m
    rw [decs0_len, dn_ten_pow]; omega
  · rw [if_neg c]
    have hp : 0 < 10 ^ (m - 1) := Nat.pow_pos (by decide)
    refine ⟨decs0_isD _, ?_, .inl rfl, lead (by omega)⟩
    show (decs0 N).length = m
    rw [decs0_len]
    have a1 : dn N ≤ m := (dg_len b10 _ _).mpr (by omega)
    have a2 : ¬ dn N ≤ m - 1 := fun h => by have := (dg_len b10 _ _).mp h; omega
    omega
def gpl (e : Int) : Nat := 9 - e.toNat
def gN (n d : Nat) (e : Int) : Nat := near (n * 10 ^ gpl e) d
def plainL (n d : Nat) (e : Int) : List Nat := joinedL (intL (decs0 (gN n d e / 10 ^ gpl e))) (tail (gpl e) (gN n d e % 10 ^ gpl e))
def sN (n d m : Nat) (e : Int) : List Nat × Int := sciL (sc n d ((m : Int) - 1 - e)) m e
def powerL (n d : Nat) (e : Int) : List Nat := if (sN n d 6 e).2 ≤ -100 ∨ 100 ≤ (sN n d 6 e).2 then powL (sN n d 5 e).1 (sN n d 5 e).2 else powL (sN n d 6 e).1 (sN n d 6 e).2
def fits (n d : Nat) (e : Int) : Prop := -4 ≤ e ∧ e ≤ 10 ∧ dn (gN n d e / 10 ^ gpl e) ≤ 11
instance (n d : Nat) (e : Int) : Decidable (fits n d e) := by unfold fits; exact inferInstance
def genL (n d : Nat) (e : Int) : List Nat := if fits n d e then plainL n d e else powerL n d e
theorem gN_dn {n d : Nat} {e : Int} (hd : 0 < d) : dn (gN n d e / 10 ^ gpl e) ≤ dn n + 9 := by
  have h1 : gN n d e ≤ n * 10 ^ gpl e := near_le_of hd (Nat.le_mul_of_pos_right _ hd)
  have h2 := dn_mono (Nat.le_trans (Nat.div_le_self (gN n d e) (10 ^ gpl e)) h1)
  have h3 : dn (n * 10 ^ gpl e) ≤ dn n + gpl e := by
    refine (dg_len b10 _ _).mpr ?_
    rw [Nat.pow_add]
    exact Nat.mul_lt_mul_of_pos_right (dg_lt b10 n) (Nat.pow_pos (by decide))
  unfold gpl at h3 h2 ⊢
  omega
theorem sN_ok {n d m : Nat} {e : Int} (hE : IsE n d e) (hd : 0 < d) (hm : 1 ≤ m) : isD (sN n d m e).1 ∧ (sN n d m e).1.length = m ∧ ((sN n d m e).2 = e ∨ (sN n d m e).2 = e + 1) ∧ ∃ c t, (sN n d m e).1 = c :: t ∧ c ≠ 48 := by
  obtain ⟨s1, s2⟩ := sc_bounds hE hd hm
  exact sciL_ok hm s1 s2
theorem gto {r : List Int × List Int} {n d c m : Nat} {e : Int} (hr : RQ r n d c) (hd : 0 < d) (hn : 0 < n) (hc : c ≤ 800) (hm : 1 ≤ m) (hm2 : m ≤ 400) (hE : IsE n d e) (he : -4000 ≤ e ∧ e ≤ 4000) :
    Ev (round_To.f r (m : Int)) ((S (sN n d m e).1, (sN n d m e).2), true) := by
  have := to_ok (m := m) hr hd hn hc hm hm2 hE
  rw [if_pos (by omega), sciL_eq] at this
  exact this
theorem gpowered {r : List Int × List Int} {n d c : Nat} {e : Int} (hr : RQ r n d c) (hd : 0 < d) (hn : 0 < n) (hc : c ≤ 800) (hE : IsE n d e) (he : -4000 ≤ e ∧ e ≤ 4000) : Ev (general_powered.f r) (S (powerL n d e)) := by
  have h6 := gto (m := 6) hr hd hn hc (by decide) (by decide) hE he
  have h5 := gto (m := 5) hr hd hn hc (by decide) (by decide) hE he
  obtain ⟨a1, a2, a3, _⟩ := sN_ok (m := 6) hE hd (by decide)
  obtain ⟨b1, b2, b3, _⟩ := sN_ok (m := 5) hE hd (by decide)
  have g6 := @gpow (sN n d 6 e).1 (sN n d 6 e).2 _ rfl a1 (by omega) (by omega) (by omega) (by omega)
  have g5 := @gpow (sN n d 5 e).1 (sN n d 5 e).2 _ rfl b1 (by omega) (by omega) (by omega) (by omega)
  refine ev_eq general_powered.f_eq (Ev.bind h6 ?_)
  by_cases c1 : (sN n d 6 e).2 ≤ -100
  · have hp : powerL n d e = powL (sN n d 5 e).1 (sN n d 5 e).2 := if_pos (.inl c1)
    rw [hp]
    exact ev_pos c1 (Ev.bind h5 g5)
  · by_cases c2 : (sN n d 6 e).2 ≥ 100
    · have hp : powerL n d e = powL (sN n d 5 e).1 (sN n d 5 e).2 := if_pos (.inr c2)
      rw [hp]
      exact ev_neg c1 (ev_pos c2 (Ev.bind h5 g5))
    · have hp : powerL n d e = powL (sN n d 6 e).1 (sN n d 6 e).2 := if_neg (by omega)
      rw [hp]
      exact ev_neg c1 (ev_neg c2 g6)
theorem gplain {r : List Int × List Int} {n d c : Nat} {e : Int} (hr : RQ r n d c) (hd : 0 < d) (hn : 0 < n) (hc : c ≤ 800) (hdn : dn n ≤ 9000) (he : -4000 ≤ e ∧ e ≤ 4000) : ∃ t : ByteArray, Ev (general_plain.f r e) (t, decide (fits n d e)) ∧ (fits n d e → t = S (plainL n d e)) := by
  by_cases c1 : e < -4
  · have hf : decide (fits n d e) = false := decide_eq_false (fun h => by have := h.1; omega)
    rw [hf]
    exact ⟨⟨#[]⟩, ev_eq general_plain.f_eq (ev_pos c1 (ev_now rfl)), fun h => by have := h.1; omega⟩
  by_cases c2 : e > 10
  · have hf : decide (fits n d e) = false := decide_eq_false (fun h => by have := h.2.1; omega)
    rw [hf]
    exact ⟨⟨#[]⟩, ev_eq general_plain.f_eq (ev_neg c1 (ev_pos c2 (ev_now rfl))), fun h => by have := h.2.1; omega⟩
  have hp : mxI 0 (IntKind.i64.wrap (10 - (mxI 1 (IntKind.i64.wrap (e + 1))))) = ((gpl e : Nat) : Int) := by
    rw [wrap_id (x := e + 1) (by omega) (by omega)]
    unfold gpl
    have h1 : mxI 1 (e + 1) = if 0 ≤ e then e + 1 else 1 := by unfold mxI; split <;> split <;> omega
    rw [h1]
    split
    · rw [wrap_id (by omega) (by omega)]; unfold mxI; split <;> omega
    · rw [wrap_id (by omega) (by omega)]; unfold mxI; split <;> omega
  have hg : gpl e ≤ 9 := by unfold gpl; omega
  have ha := at_ok (p := gpl e) hr hd (by omega) (by omega)
  have hN := gN_dn (n := n) (e := e) hd
  have hj := gjoined (i := decs0 (gN n d e / 10 ^ gpl e)) (fr := tail (gpl e) (gN n d e % 10 ^ gpl e)) (tail_isD _ _).dg (by rw [decs0_len]; omega) (by rw [tail_len (mod10_lt _ _)]; omega)
  refine ⟨S (plainL n d e), ev_eq general_plain.f_eq (ev_neg c1 (ev_neg c2 ?_)), fun _ => rfl⟩
  rw [hp]
  refine Ev.bind ha (Ev.bind hj (ev_pos rfl (ev_now ?_)))
  show (S (plainL n d e), decide (((S (decs0 (gN n d e / 10 ^ gpl e))).size : Int) ≤ 11)) = _
  congr 1
  rw [S_size, decs0_len, decide_eq_decide]
  unfold fits
  omega
theorem gtext {r : List Int × List Int} {n d c : Nat} {e : Int} (hr : RQ r n d c) (hd : 0 < d) (hn : 0 < n) (hc : c ≤ 800) (hdn : dn n ≤ 9000) (hE : IsE n d e) (he : -4000 ≤ e ∧ e ≤ 4000) : Ev (general_Text.f r) (S (genL n d e), true) := by
  obtain ⟨e', hE', _, _, hexp⟩ := exp_ok hr hd hn hc
  obtain rfl := hE.uniq hE'
  rw [if_pos (by omega)] at hexp
  have hterm : ∃ n' d', Ev (ratio_Ratio_Terms.f r) (L n', L d') ∧ 0 < n' ∧ ln n' ≤ c := by
    obtain ⟨n', d', h1, h2, _, h4, h5, h6⟩ := hr
    refine ⟨n', d', by rw [h1]; exact terms_pos h2 (by omega), ?_, h5⟩
    rcases Nat.eq_zero_or_pos n' with h | h
    · rw [h, Nat.zero_mul] at h4
      have := Nat.mul_pos hn h2
      omega
    · exact h
  obtain ⟨n', d', ht, hn', hl⟩ := hterm
  have hb := bl_pos hn'
  refine ev_eq general_Text.f_eq (Ev.bind ht (Ev.bind (nbits (by omega)) (ev_neg (by omega) (Ev.bind hexp (ev_neg (by simp) (ev_neg (by dsimp only; omega) (ev_neg (by dsimp only; omega) ?_)))))))
  obtain ⟨t, hpl, hfit⟩ := gplain hr hd hn hc hdn he
  unfold genL
  by_cases c1 : fits n d e
  · rw [decide_eq_true c1, hfit c1] at hpl
    rw [if_pos c1]
    exact Ev.bind hpl (ev_pos rfl (ev_now rfl))
  · rw [decide_eq_false c1] at hpl
    rw [if_neg c1]
    exact Ev.bind hpl (ev_neg (by simp) (Ev.bind (gpowered hr hd hn hc hE he) (ev_now rfl)))
theorem gtext0 {r : List Int × List Int} {d c : Nat} (hr : RQ r 0 d c) (hd : 0 < d) (hc : c ≤ 800) : Ev (general_Text.f r) (S [48], true) := by
  obtain ⟨n', d', h1, h2, _, h4, h5, h6⟩ := hr
  have h0 : n' = 0 := by
    rw [Nat.zero_mul] at h4
    rcases Nat.mul_eq_zero.mp h4 with h | h
    · exact h
    · omega
  subst h0
  rw [h1]
  have hb := nbits (n := 0) (by decide)
  rw [show bl 0 = 0 by decide] at hb
  exact ev_eq general_Text.f_eq (Ev.bind (terms_pos h2 (by omega)) (Ev.bind hb (ev_pos rfl (ev_now rfl))))
/-! ### the document's -/
theorem rto_n {n d P k m : Nat} {e : Int} (hE : IsE n d e) (hd : 0 < d) (hP0 : 0 < P) (hP : P * d = n * 10 ^ k) (dP : dn P ≤ 100000) (hk : k ≤ 100000) (hm : 1 ≤ m) (hm2 : m ≤ 400) :
    Ev (numeraryref09_To.f (D P) (k : Int) (m : Int)) (S (sN n d m e).1, (sN n d m e).2) := by
  have h := rto_ok (m := m) hP0 dP hk hm hm2
  have e1 : (dn P : Int) - 1 - (k : Int) = e := ((rexp_is (k := k) hP0).scale (Nat.pow_pos (by decide)) hd hP.symm).uniq hE
  rw [e1, sc_scale (n := n) (d := d) hd (Nat.pow_pos (by decide)) hP, sciL_eq] at h
  exact h
theorem rpowered {n d P k : Nat} {e : Int} (hE : IsE n d e) (hd : 0 < d) (hP0 : 0 < P) (hP : P * d = n * 10 ^ k) (dP : dn P ≤ 100000) (hk : k ≤ 100000) (he : -4000 ≤ e ∧ e ≤ 4000) :
    Ev (M.bind (numeraryref09_To.f (D P) (k : Int) 6) fun t4 => (if t4.2 < (-99) then (M.bind (numeraryref09_To.f (D P) (k : Int) 5) fun t5 => (if 0 ≤ 1 then (if 1 ≤ (t5.1.size : Int) then (if 0 ≤ 1 then (if 1 ≤ (t5.1.size : Int) then (M.bind (numeraryref21_joined.f (t5.1.extract 0 1) (t5.1.extract 1 t5.1.size)) fun u1 => (if t5.2 < 0 then (if u1.size + (⟨#[69, 45]⟩ : ByteArray).size ≤ 9223372036854775807 then (if (IntKind.i64.wrap (0 - t5.2)) ≥ 100 then (if (IntKind.i64.wrap (0 - t5.2)) ≥ 1000 then (if (u1 ++ (⟨#[69, 45]⟩ : ByteArray)).size + (strOf ([IntKind.u8.wrap (IntKind.i64.wrap (48 + (IntKind.i64.wrap ((IntKind.i64.wrap (0 - t5.2)).tdiv 1000))))] : List Int)).size ≤ 9223372036854775807 then (if ((u1 ++ (⟨#[69, 45]⟩ : ByteArray)) ++ (strOf ([IntKind.u8.wrap (IntKind.i64.wrap (48 + (IntKind.i64.wrap ((IntKind.i64.wrap (0 - t5.2)).tdiv 1000))))] : List Int))).size + (strOf ([IntKind.u8.wrap (IntKind.i64.wrap (48 + ((IntKind.i64.wrap ((IntKind.i64.wrap (0 - t5.2)).tdiv 100)).tmod 10)))] : List Int)).size ≤ 9223372036854775807 then (if (((u1 ++ (⟨#[69, 45]⟩ : ByteArray)) ++ (strOf ([IntKind.u8.wrap (IntKind.i64.wrap (48 + (IntKind.i64.wrap ((IntKind.i64.wrap (0 - t5.2)).tdiv 1000))))] : List Int))) ++ (strOf ([IntKind.u8.wrap (IntKind.i64.wrap (48 + ((IntKind.i64.wrap ((IntKind.i64.wrap (0 - t5.2)).tdiv 100)).tmod 10)))] : List Int))).size + (strOf ([IntKind.u8.wrap (IntKind.i64.wrap (48 + ((IntKind.i64.wrap ((IntKind.i64.wrap (0 - t5.2)).tdiv 10)).tmod 10))), IntKind.u8.wrap (IntKind.i64.wrap (48 + ((IntKind.i64.wrap (0 - t5.2)).tmod 10)))] : List Int)).size ≤ 9223372036854775807 then (M.ret ((((u1 ++ (⟨#[69, 45]⟩ : ByteArray)) ++ (strOf ([IntKind.u8.wrap (IntKind.i64.wrap (48 + (IntKind.i64.wrap ((IntKind.i64.wrap (0 - t5.2)).tdiv 1000))))] : List Int))) ++ (strOf ([IntKind.u8.wrap (IntKind.i64.wrap (48 + ((IntKind.i64.wrap ((IntKind.i64.wrap (0 - t5.2)).tdiv 100)).tmod 10)))] : List Int))) ++ (strOf ([IntKind.u8.wrap (IntKind.i64.wrap (48 + ((IntKind.i64.wrap ((IntKind.i64.wrap (0 - t5.2)).tdiv 10)).tmod 10))), IntKind.u8.wrap (IntKind.i64.wrap (48 + ((IntKind.i64.wrap (0 - t5.2)).tmod 10)))] : List Int)))) else M.none) else M.none) else M.none) else (if (u1 ++ (⟨#[69, 45]⟩ : ByteArray)).size + (strOf ([IntKind.u8.wrap (IntKind.i64.wrap (48 + ((IntKind.i64.wrap ((IntKind.i64.wrap (0 - t5.2)).tdiv 100)).tmod 10)))] : List Int)).size ≤ 9223372036854775807 then (if ((u1 ++ (⟨#[69, 45]⟩ : ByteArray)) ++ (strOf ([IntKind.u8.wrap (IntKind.i64.wrap (48 + ((IntKind.i64.wrap ((IntKind.i64.wrap (0 - t5.2)).tdiv 100)).tmod 10)))] : List Int))).size + (strOf ([IntKind.u8.wrap (IntKind.i64.wrap (48 + ((IntKind.i64.wrap ((IntKind.i64.wrap (0 - t5.2)).tdiv 10)).tmod 10))), IntKind.u8.wrap (IntKind.i64.wrap (48 + ((IntKind.i64.wrap (0 - t5.2)).tmod 10)))] : List Int)).size ≤ 9223372036854775807 then (M.ret (((u1 ++ (⟨#[69, 45]⟩ : ByteArray)) ++ (strOf ([IntKind.u8.wrap (IntKind.i64.wrap (48 + ((IntKind.i64.wrap ((IntKind.i64.wrap (0 - t5.2)).tdiv 100)).tmod 10)))] : List Int))) ++ (strOf ([IntKind.u8.wrap (IntKind.i64.wrap (48 + ((IntKind.i64.wrap ((IntKind.i64.wrap (0 - t5.2)).tdiv 10)).tmod 10))), IntKind.u8.wrap (IntKind.i64.wrap (48 + ((IntKind.i64.wrap (0 - t5.2)).tmod 10)))] : List Int)))) else M.none) else M.none)) else (if (u1 ++ (⟨#[69, 45]⟩ : ByteArray)).size + (strOf ([IntKind.u8.wrap (IntKind.i64.wrap (48 + ((IntKind.i64.wrap ((IntKind.i64.wrap (0 - t5.2)).tdiv 10)).tmod 10))), IntKind.u8.wrap (IntKind.i64.wrap (48 + ((IntKind.i64.wrap (0 - t5.2)).tmod 10)))] : List Int)).size ≤ 9223372036854775807 then (M.ret ((u1 ++ (⟨#[69, 45]⟩ : ByteArray)) ++ (strOf ([IntKind.u8.wrap (IntKind.i64.wrap (48 + ((IntKind.i64.wrap ((IntKind.i64.wrap (0 - t5.2)).tdiv 10)).tmod 10))), IntKind.u8.wrap (IntKind.i64.wrap (48 + ((IntKind.i64.wrap (0 - t5.2)).tmod 10)))] : List Int)))) else M.none)) else M.none) else (if u1.size + (⟨#[69, 43]⟩ : ByteArray).size ≤ 9223372036854775807 then (if t5.2 ≥ 100 then (if t5.2 ≥ 1000 then (if (u1 ++ (⟨#[69, 43]⟩ : ByteArray)).size + (strOf ([IntKind.u8.wrap (IntKind.i64.wrap (48 + (IntKind.i64.wrap (t5.2.tdiv 1000))))] : List Int)).size ≤ 9223372036854775807 then (if ((u1 ++ (⟨#[69, 43]⟩ : ByteArray)) ++ (strOf ([IntKind.u8.wrap (IntKind.i64.wrap (48 + (IntKind.i64.wrap (t5.2.tdiv 1000))))] : List Int))).size + (strOf ([IntKind.u8.wrap (IntKind.i64.wrap (48 + ((IntKind.i64.wrap (t5.2.tdiv 100)).tmod 10)))] : List Int)).size ≤ 9223372036854775807 then (if (((u1 ++ (⟨#[69, 43]⟩ : ByteArray)) ++ (strOf ([IntKind.u8.wrap (IntKind.i64.wrap (48 + (IntKind.i64.wrap (t5.2.tdiv 1000))))] : List Int))) ++ (strOf ([IntKind.u8.wrap (IntKind.i64.wrap (48 + ((IntKind.i64.wrap (t5.2.tdiv 100)).tmod 10)))] : List Int))).size + (strOf ([IntKind.u8.wrap (IntKind.i64.wrap (48 + ((IntKind.i64.wrap (t5.2.tdiv 10)).tmod 10))), IntKind.u8.wrap (IntKind.i64.wrap (48 + (t5.2.tmod 10)))] : List Int)).size ≤ 9223372036854775807 then (M.ret ((((u1 ++ (⟨#[69, 43]⟩ : ByteArray)) ++ (strOf ([IntKind.u8.wrap (IntKind.i64.wrap (48 + (IntKind.i64.wrap (t5.2.tdiv 1000))))] : List Int))) ++ (strOf ([IntKind.u8.wrap (IntKind.i64.wrap (48 + ((IntKind.i64.wrap (t5.2.tdiv 100)).tmod 10)))] : List Int))) ++ (strOf ([IntKind.u8.wrap (IntKind.i64.wrap (48 + ((IntKind.i64.wrap (t5.2.tdiv 10)).tmod 10))), IntKind.u8.wrap (IntKind.i64.wrap (48 + (t5.2.tmod 10)))] : List Int)))) else M.none) else M.none) else M.none) else (if (u1 ++ (⟨#[69, 43]⟩ : ByteArray)).size + (strOf ([IntKind.u8.wrap (IntKind.i64.wrap (48 + ((IntKind.i64.wrap (t5.2.tdiv 100)).tmod 10)))] : List Int)).size ≤ 9223372036854775807 then (if ((u1 ++ (⟨#[69, 43]⟩ : ByteArray)) ++ (strOf ([IntKind.u8.wrap (IntKind.i64.wrap (48 + ((IntKind.i64.wrap (t5.2.tdiv 100)).tmod 10)))] : List Int))).size + (strOf ([IntKind.u8.wrap (IntKind.i64.wrap (48 + ((IntKind.i64.wrap (t5.2.tdiv 10)).tmod 10))), IntKind.u8.wrap (IntKind.i64.wrap (48 + (t5.2.tmod 10)))] : List Int)).size ≤ 9223372036854775807 then (M.ret (((u1 ++ (⟨#[69, 43]⟩ : ByteArray)) ++ (strOf ([IntKind.u8.wrap (IntKind.i64.wrap (48 + ((IntKind.i64.wrap (t5.2.tdiv 100)).tmod 10)))] : List Int))) ++ (strOf ([IntKind.u8.wrap (IntKind.i64.wrap (48 + ((IntKind.i64.wrap (t5.2.tdiv 10)).tmod 10))), IntKind.u8.wrap (IntKind.i64.wrap (48 + (t5.2.tmod 10)))] : List Int)))) else M.none) else M.none)) else (if (u1 ++ (⟨#[69, 43]⟩ : ByteArray)).size + (strOf ([IntKind.u8.wrap (IntKind.i64.wrap (48 + ((IntKind.i64.wrap (t5.2.tdiv 10)).tmod 10))), IntKind.u8.wrap (IntKind.i64.wrap (48 + (t5.2.tmod 10)))] : List Int)).size ≤ 9223372036854775807 then (M.ret ((u1 ++ (⟨#[69, 43]⟩ : ByteArray)) ++ (strOf ([IntKind.u8.wrap (IntKind.i64.wrap (48 + ((IntKind.i64.wrap (t5.2.tdiv 10)).tmod 10))), IntKind.u8.wrap (IntKind.i64.wrap (48 + (t5.2.tmod 10)))] : List Int)))) else M.none)) else M.none))) else M.none) else M.none) else M.none) else M.none)) else (if t4.2 > 99 then (M.bind (numeraryref09_To.f (D P) (k : Int) 5) fun t7 => (if 0 ≤ 1 then (if 1 ≤ (t7.1.size : Int) then (if 0 ≤ 1 then (if 1 ≤ (t7.1.size : Int) then (M.bind (numeraryref21_joined.f (t7.1.extract 0 1) (t7.1.extract 1 t7.1.size)) fun u1 => (if t7.2 < 0 then (if u1.size + (⟨#[69, 45]⟩ : ByteArray).size ≤ 9223372036854775807 then (if (IntKind.i64.wrap (0 - t7.2)) ≥ 100 then (if (IntKind.i64.wrap (0 - t7.2)) ≥ 1000 then (if (u1 ++ (⟨#[69, 45]⟩ : ByteArray)).size + (strOf ([IntKind.u8.wrap (IntKind.i64.wrap (48 + (IntKind.i64.wrap ((IntKind.i64.wrap (0 - t7.2)).tdiv 1000))))] : List Int)).size ≤ 9223372036854775807 then (if ((u1 ++ (⟨#[69, 45]⟩ : ByteArray)) ++ (strOf ([IntKind.u8.wrap (IntKind.i64.wrap (48 + (IntKind.i64.wrap ((IntKind.i64.wrap (0 - t7.2)).tdiv 1000))))] : List Int))).size + (strOf ([IntKind.u8.wrap (IntKind.i64.wrap (48 + ((IntKind.i64.wrap ((IntKind.i64.wrap (0 - t7.2)).tdiv 100)).tmod 10)))] : List Int)).size ≤ 9223372036854775807 then (if (((u1 ++ (⟨#[69, 45]⟩ : ByteArray)) ++ (strOf ([IntKind.u8.wrap (IntKind.i64.wrap (48 + (IntKind.i64.wrap ((IntKind.i64.wrap (0 - t7.2)).tdiv 1000))))] : List Int))) ++ (strOf ([IntKind.u8.wrap (IntKind.i64.wrap (48 + ((IntKind.i64.wrap ((IntKind.i64.wrap (0 - t7.2)).tdiv 100)).tmod 10)))] : List Int))).size + (strOf ([IntKind.u8.wrap (IntKind.i64.wrap (48 + ((IntKind.i64.wrap ((IntKind.i64.wrap (0 - t7.2)).tdiv 10)).tmod 10))), IntKind.u8.wrap (IntKind.i64.wrap (48 + ((IntKind.i64.wrap (0 - t7.2)).tmod 10)))] : List Int)).size ≤ 9223372036854775807 then (M.ret ((((u1 ++ (⟨#[69, 45]⟩ : ByteArray)) ++ (strOf ([IntKind.u8.wrap (IntKind.i64.wrap (48 + (IntKind.i64.wrap ((IntKind.i64.wrap (0 - t7.2)).tdiv 1000))))] : List Int))) ++ (strOf ([IntKind.u8.wrap (IntKind.i64.wrap (48 + ((IntKind.i64.wrap ((IntKind.i64.wrap (0 - t7.2)).tdiv 100)).tmod 10)))] : List Int))) ++ (strOf ([IntKind.u8.wrap (IntKind.i64.wrap (48 + ((IntKind.i64.wrap ((IntKind.i64.wrap (0 - t7.2)).tdiv 10)).tmod 10))), IntKind.u8.wrap (IntKind.i64.wrap (48 + ((IntKind.i64.wrap (0 - t7.2)).tmod 10)))] : List Int)))) else M.none) else M.none) else M.none) else (if (u1 ++ (⟨#[69, 45]⟩ : ByteArray)).size + (strOf ([IntKind.u8.wrap (IntKind.i64.wrap (48 + ((IntKind.i64.wrap ((IntKind.i64.wrap (0 - t7.2)).tdiv 100)).tmod 10)))] : List Int)).size ≤ 9223372036854775807 then (if ((u1 ++ (⟨#[69, 45]⟩ : ByteArray)) ++ (strOf ([IntKind.u8.wrap (IntKind.i64.wrap (48 + ((IntKind.i64.wrap ((IntKind.i64.wrap (0 - t7.2)).tdiv 100)).tmod 10)))] : List Int))).size + (strOf ([IntKind.u8.wrap (IntKind.i64.wrap (48 + ((IntKind.i64.wrap ((IntKind.i64.wrap (0 - t7.2)).tdiv 10)).tmod 10))), IntKind.u8.wrap (IntKind.i64.wrap (48 + ((IntKind.i64.wrap (0 - t7.2)).tmod 10)))] : List Int)).size ≤ 9223372036854775807 then (M.ret (((u1 ++ (⟨#[69, 45]⟩ : ByteArray)) ++ (strOf ([IntKind.u8.wrap (IntKind.i64.wrap (48 + ((IntKind.i64.wrap ((IntKind.i64.wrap (0 - t7.2)).tdiv 100)).tmod 10)))] : List Int))) ++ (strOf ([IntKind.u8.wrap (IntKind.i64.wrap (48 + ((IntKind.i64.wrap ((IntKind.i64.wrap (0 - t7.2)).tdiv 10)).tmod 10))), IntKind.u8.wrap (IntKind.i64.wrap (48 + ((IntKind.i64.wrap (0 - t7.2)).tmod 10)))] : List Int)))) else M.none) else M.none)) else (if (u1 ++ (⟨#[69, 45]⟩ : ByteArray)).size + (strOf ([IntKind.u8.wrap (IntKind.i64.wrap (48 + ((IntKind.i64.wrap ((IntKind.i64.wrap (0 - t7.2)).tdiv 10)).tmod 10))), IntKind.u8.wrap (IntKind.i64.wrap (48 + ((IntKind.i64.wrap (0 - t7.2)).tmod 10)))] : List Int)).size ≤ 9223372036854775807 then (M.ret ((u1 ++ (⟨#[69, 45]⟩ : ByteArray)) ++ (strOf ([IntKind.u8.wrap (IntKind.i64.wrap (48 + ((IntKind.i64.wrap ((IntKind.i64.wrap (0 - t7.2)).tdiv 10)).tmod 10))), IntKind.u8.wrap (IntKind.i64.wrap (48 + ((IntKind.i64.wrap (0 - t7.2)).tmod 10)))] : List Int)))) else M.none)) else M.none) else (if u1.size + (⟨#[69, 43]⟩ : ByteArray).size ≤ 9223372036854775807 then (if t7.2 ≥ 100 then (if t7.2 ≥ 1000 then (if (u1 ++ (⟨#[69, 43]⟩ : ByteArray)).size + (strOf ([IntKind.u8.wrap (IntKind.i64.wrap (48 + (IntKind.i64.wrap (t7.2.tdiv 1000))))] : List Int)).size ≤ 9223372036854775807 then (if ((u1 ++ (⟨#[69, 43]⟩ : ByteArray)) ++ (strOf ([IntKind.u8.wrap (IntKind.i64.wrap (48 + (IntKind.i64.wrap (t7.2.tdiv 1000))))] : List Int))).size + (strOf ([IntKind.u8.wrap (IntKind.i64.wrap (48 + ((IntKind.i64.wrap (t7.2.tdiv 100)).tmod 10)))] : List Int)).size ≤ 9223372036854775807 then (if (((u1 ++ (⟨#[69, 43]⟩ : ByteArray)) ++ (strOf ([IntKind.u8.wrap (IntKind.i64.wrap (48 + (IntKind.i64.wrap (t7.2.tdiv 1000))))] : List Int))) ++ (strOf ([IntKind.u8.wrap (IntKind.i64.wrap (48 + ((IntKind.i64.wrap (t7.2.tdiv 100)).tmod 10)))] : List Int))).size + (strOf ([IntKind.u8.wrap (IntKind.i64.wrap (48 + ((IntKind.i64.wrap (t7.2.tdiv 10)).tmod 10))), IntKind.u8.wrap (IntKind.i64.wrap (48 + (t7.2.tmod 10)))] : List Int)).size ≤ 9223372036854775807 then (M.ret ((((u1 ++ (⟨#[69, 43]⟩ : ByteArray)) ++ (strOf ([IntKind.u8.wrap (IntKind.i64.wrap (48 + (IntKind.i64.wrap (t7.2.tdiv 1000))))] : List Int))) ++ (strOf ([IntKind.u8.wrap (IntKind.i64.wrap (48 + ((IntKind.i64.wrap (t7.2.tdiv 100)).tmod 10)))] : List Int))) ++ (strOf ([IntKind.u8.wrap (IntKind.i64.wrap (48 + ((IntKind.i64.wrap (t7.2.tdiv 10)).tmod 10))), IntKind.u8.wrap (IntKind.i64.wrap (48 + (t7.2.tmod 10)))] : List Int)))) else M.none) else M.none) else M.none) else (if (u1 ++ (⟨#[69, 43]⟩ : ByteArray)).size + (strOf ([IntKind.u8.wrap (IntKind.i64.wrap (48 + ((IntKind.i64.wrap (t7.2.tdiv 100)).tmod 10)))] : List Int)).size ≤ 9223372036854775807 then (if ((u1 ++ (⟨#[69, 43]⟩ : ByteArray)) ++ (strOf ([IntKind.u8.wrap (IntKind.i64.wrap (48 + ((IntKind.i64.wrap (t7.2.tdiv 100)).tmod 10)))] : List Int))).size + (strOf ([IntKind.u8.wrap (IntKind.i64.wrap (48 + ((IntKind.i64.wrap (t7.2.tdiv 10)).tmod 10))), IntKind.u8.wrap (IntKind.i64.wrap (48 + (t7.2.tmod 10)))] : List Int)).size ≤ 9223372036854775807 then (M.ret (((u1 ++ (⟨#[69, 43]⟩ : ByteArray)) ++ (strOf ([IntKind.u8.wrap (IntKind.i64.wrap (48 + ((IntKind.i64.wrap (t7.2.tdiv 100)).tmod 10)))] : List Int))) ++ (strOf ([IntKind.u8.wrap (IntKind.i64.wrap (48 + ((IntKind.i64.wrap (t7.2.tdiv 10)).tmod 10))), IntKind.u8.wrap (IntKind.i64.wrap (48 + (t7.2.tmod 10)))] : List Int)))) else M.none) else M.none)) else (if (u1 ++ (⟨#[69, 43]⟩ : ByteArray)).size + (strOf ([IntKind.u8.wrap (IntKind.i64.wrap (48 + ((IntKind.i64.wrap (t7.2.tdiv 10)).tmod 10))), IntKind.u8.wrap (IntKind.i64.wrap (48 + (t7.2.tmod 10)))] : List Int)).size ≤ 9223372036854775807 then (M.ret ((u1 ++ (⟨#[69, 43]⟩ : ByteArray)) ++ (strOf ([IntKind.u8.wrap (IntKind.i64.wrap (48 + ((IntKind.i64.wrap (t7.2.tdiv 10)).tmod 10))), IntKind.u8.wrap (IntKind.i64.wrap (48 + (t7.2.tmod 10)))] : List Int)))) else M.none)) else M.none))) else M.none) else M.none) else M.none) else M.none)) else (if 0 ≤ 1 then (if 1 ≤ (t4.1.size : Int) then (if 0 ≤ 1 then (if 1 ≤ (t4.1.size : Int) then (M.bind (numeraryref21_joined.f (t4.1.extract 0 1) (t4.1.extract 1 t4.1.size)) fun u1 => (if t4.2 < 0 then (if u1.size + (⟨#[69, 45]⟩ : ByteArray).size ≤ 9223372036854775807 then (if (IntKind.i64.wrap (0 - t4.2)) ≥ 100 then (if (IntKind.i64.wrap (0 - t4.2)) ≥ 1000 then (if (u1 ++ (⟨#[69, 45]⟩ : ByteArray)).size + (strOf ([IntKind.u8.wrap (IntKind.i64.wrap (48 + (IntKind.i64.wrap ((IntKind.i64.wrap (0 - t4.2)).tdiv 1000))))] : List Int)).size ≤ 9223372036854775807 then (if ((u1 ++ (⟨#[69, 45]⟩ : ByteArray)) ++ (strOf ([IntKind.u8.wrap (IntKind.i64.wrap (48 + (IntKind.i64.wrap ((IntKind.i64.wrap (0 - t4.2)).tdiv 1000))))] : List Int))).size + (strOf ([IntKind.u8.wrap (IntKind.i64.wrap (48 + ((IntKind.i64.wrap ((IntKind.i64.wrap (0 - t4.2)).tdiv 100)).tmod 10)))] : List Int)).size ≤ 9223372036854775807 then (if (((u1 ++ (⟨#[69, 45]⟩ : ByteArray)) ++ (strOf ([IntKind.u8.wrap (IntKind.i64.wrap (48 + (IntKind.i64.wrap ((IntKind.i64.wrap (0 - t4.2)).tdiv 1000))))] : List Int))) ++ (strOf ([IntKind.u8.wrap (IntKind.i64.wrap (48 + ((IntKind.i64.wrap ((IntKind.i64.wrap (0 - t4.2)).tdiv 100)).tmod 10)))] : List Int))).size + (strOf ([IntKind.u8.wrap (IntKind.i64.wrap (48 + ((IntKind.i64.wrap ((IntKind.i64.wrap (0 - t4.2)).tdiv 10)).tmod 10))), IntKind.u8.wrap (IntKind.i64.wrap (48 + ((IntKind.i64.wrap (0 - t4.2)).tmod 10)))] : List Int)).size ≤ 9223372036854775807 then (M.ret ((((u1 ++ (⟨#[69, 45]⟩ : ByteArray)) ++ (strOf ([IntKind.u8.wrap (IntKind.i64.wrap (48 + (IntKind.i64.wrap ((IntKind.i64.wrap (0 - t4.2)).tdiv 1000))))] : List Int))) ++ (strOf ([IntKind.u8.wrap (IntKind.i64.wrap (48 + ((IntKind.i64.wrap ((IntKind.i64.wrap (0 - t4.2)).tdiv 100)).tmod 10)))] : List Int))) ++ (strOf ([IntKind.u8.wrap (IntKind.i64.wrap (48 + ((IntKind.i64.wrap ((IntKind.i64.wrap (0 - t4.2)).tdiv 10)).tmod 10))), IntKind.u8.wrap (IntKind.i64.wrap (48 + ((IntKind.i64.wrap (0 - t4.2)).tmod 10)))] : List Int)))) else M.none) else M.none) else M.none) else (if (u1 ++ (⟨#[69, 45]⟩ : ByteArray)).size + (strOf ([IntKind.u8.wrap (IntKind.i64.wrap (48 + ((IntKind.i64.wrap ((IntKind.i64.wrap (0 - t4.2)).tdiv 100)).tmod 10)))] : List Int)).size ≤ 9223372036854775807 then (if ((u1 ++ (⟨#[69, 45]⟩ : ByteArray)) ++ (strOf ([IntKind.u8.wrap (IntKind.i64.wrap (48 + ((IntKind.i64.wrap ((IntKind.i64.wrap (0 - t4.2)).tdiv 100)).tmod 10)))] : List Int))).size + (strOf ([IntKind.u8.wrap (IntKind.i64.wrap (48 + ((IntKind.i64.wrap ((IntKind.i64.wrap (0 - t4.2)).tdiv 10)).tmod 10))), IntKind.u8.wrap (IntKind.i64.wrap (48 + ((IntKind.i64.wrap (0 - t4.2)).tmod 10)))] : List Int)).size ≤ 9223372036854775807 then (M.ret (((u1 ++ (⟨#[69, 45]⟩ : ByteArray)) ++ (strOf ([IntKind.u8.wrap (IntKind.i64.wrap (48 + ((IntKind.i64.wrap ((IntKind.i64.wrap (0 - t4.2)).tdiv 100)).tmod 10)))] : List Int))) ++ (strOf ([IntKind.u8.wrap (IntKind.i64.wrap (48 + ((IntKind.i64.wrap ((IntKind.i64.wrap (0 - t4.2)).tdiv 10)).tmod 10))), IntKind.u8.wrap (IntKind.i64.wrap (48 + ((IntKind.i64.wrap (0 - t4.2)).tmod 10)))] : List Int)))) else M.none) else M.none)) else (if (u1 ++ (⟨#[69, 45]⟩ : ByteArray)).size + (strOf ([IntKind.u8.wrap (IntKind.i64.wrap (48 + ((IntKind.i64.wrap ((IntKind.i64.wrap (0 - t4.2)).tdiv 10)).tmod 10))), IntKind.u8.wrap (IntKind.i64.wrap (48 + ((IntKind.i64.wrap (0 - t4.2)).tmod 10)))] : List Int)).size ≤ 9223372036854775807 then (M.ret ((u1 ++ (⟨#[69, 45]⟩ : ByteArray)) ++ (strOf ([IntKind.u8.wrap (IntKind.i64.wrap (48 + ((IntKind.i64.wrap ((IntKind.i64.wrap (0 - t4.2)).tdiv 10)).tmod 10))), IntKind.u8.wrap (IntKind.i64.wrap (48 + ((IntKind.i64.wrap (0 - t4.2)).tmod 10)))] : List Int)))) else M.none)) else M.none) else (if u1.size + (⟨#[69, 43]⟩ : ByteArray).size ≤ 9223372036854775807 then (if t4.2 ≥ 100 then (if t4.2 ≥ 1000 then (if (u1 ++ (⟨#[69, 43]⟩ : ByteArray)).size + (strOf ([IntKind.u8.wrap (IntKind.i64.wrap (48 + (IntKind.i64.wrap (t4.2.tdiv 1000))))] : List Int)).size ≤ 9223372036854775807 then (if ((u1 ++ (⟨#[69, 43]⟩ : ByteArray)) ++ (strOf ([IntKind.u8.wrap (IntKind.i64.wrap (48 + (IntKind.i64.wrap (t4.2.tdiv 1000))))] : List Int))).size + (strOf ([IntKind.u8.wrap (IntKind.i64.wrap (48 + ((IntKind.i64.wrap (t4.2.tdiv 100)).tmod 10)))] : List Int)).size ≤ 9223372036854775807 then (if (((u1 ++ (⟨#[69, 43]⟩ : ByteArray)) ++ (strOf ([IntKind.u8.wrap (IntKind.i64.wrap (48 + (IntKind.i64.wrap (t4.2.tdiv 1000))))] : List Int))) ++ (strOf ([IntKind.u8.wrap (IntKind.i64.wrap (48 + ((IntKind.i64.wrap (t4.2.tdiv 100)).tmod 10)))] : List Int))).size + (strOf ([IntKind.u8.wrap (IntKind.i64.wrap (48 + ((IntKind.i64.wrap (t4.2.tdiv 10)).tmod 10))), IntKind.u8.wrap (IntKind.i64.wrap (48 + (t4.2.tmod 10)))] : List Int)).size ≤ 9223372036854775807 then (M.ret ((((u1 ++ (⟨#[69, 43]⟩ : ByteArray)) ++ (strOf ([IntKind.u8.wrap (IntKind.i64.wrap (48 + (IntKind.i64.wrap (t4.2.tdiv 1000))))] : List Int))) ++ (strOf ([IntKind.u8.wrap (IntKind.i64.wrap (48 + ((IntKind.i64.wrap (t4.2.tdiv 100)).tmod 10)))] : List Int))) ++ (strOf ([IntKind.u8.wrap (IntKind.i64.wrap (48 + ((IntKind.i64.wrap (t4.2.tdiv 10)).tmod 10))), IntKind.u8.wrap (IntKind.i64.wrap (48 + (t4.2.tmod 10)))] : List Int)))) else M.none) else M.none) else M.none) else (if (u1 ++ (⟨#[69, 43]⟩ : ByteArray)).size + (strOf ([IntKind.u8.wrap (IntKind.i64.wrap (48 + ((IntKind.i64.wrap (t4.2.tdiv 100)).tmod 10)))] : List Int)).size ≤ 9223372036854775807 then (if ((u1 ++ (⟨#[69, 43]⟩ : ByteArray)) ++ (strOf ([IntKind.u8.wrap (IntKind.i64.wrap (48 + ((IntKind.i64.wrap (t4.2.tdiv 100)).tmod 10)))] : List Int))).size + (strOf ([IntKind.u8.wrap (IntKind.i64.wrap (48 + ((IntKind.i64.wrap (t4.2.tdiv 10)).tmod 10))), IntKind.u8.wrap (IntKind.i64.wrap (48 + (t4.2.tmod 10)))] : List Int)).size ≤ 9223372036854775807 then (M.ret (((u1 ++ (⟨#[69, 43]⟩ : ByteArray)) ++ (strOf ([IntKind.u8.wrap (IntKind.i64.wrap (48 + ((IntKind.i64.wrap (t4.2.tdiv 100)).tmod 10)))] : List Int))) ++ (strOf ([IntKind.u8.wrap (IntKind.i64.wrap (48 + ((IntKind.i64.wrap (t4.2.tdiv 10)).tmod 10))), IntKind.u8.wrap (IntKind.i64.wrap (48 + (t4.2.tmod 10)))] : List Int)))) else M.none) else M.none)) else (if (u1 ++ (⟨#[69, 43]⟩ : ByteArray)).size + (strOf ([IntKind.u8.wrap (IntKind.i64.wrap (48 + ((IntKind.i64.wrap (t4.2.tdiv 10)).tmod 10))), IntKind.u8.wrap (IntKind.i64.wrap (48 + (t4.2.tmod 10)))] : List Int)).size ≤ 9223372036854775807 then (M.ret ((u1 ++ (⟨#[69, 43]⟩ : ByteArray)) ++ (strOf ([IntKind.u8.wrap (IntKind.i64.wrap (48 + ((IntKind.i64.wrap (t4.2.tdiv 10)).tmod 10))), IntKind.u8.wrap (IntKind.i64.wrap (48 + (t4.2.tmod 10)))] : List Int)))) else M.none)) else M.none))) else M.none) else M.none) else M.none) else M.none)))) (S (powerL n d e)) := by
  have h6 := rto_n (m := 6) hE hd hP0 hP dP hk (by decide) (by decide)
  have h5 := rto_n (m := 5) hE hd hP0 hP dP hk (by decide) (by decide)
  obtain ⟨a1, a2, a3, _⟩ := sN_ok (m := 6) hE hd (by decide)
  obtain ⟨b1, b2, b3, _⟩ := sN_ok (m := 5) hE hd (by decide)
  have g6 := @rpow (sN n d 6 e).1 (sN n d 6 e).2 _ rfl a1 (by omega) (by omega) (by omega) (by omega)
  have g5 := @rpow (sN n d 5 e).1 (sN n d 5 e).2 _ rfl b1 (by omega) (by omega) (by omega) (by omega)
  refine Ev.bind h6 ?_
  by_cases c1 : (sN n d 6 e).2 < -99
  · have hp : powerL n d e = powL (sN n d 5 e).1 (sN n d 5 e).2 := if_pos (by omega)
    rw [hp]
    exact ev_pos c1 (Ev.bind h5 g5)
  · by_cases c2 : (sN n d 6 e).2 > 99
    · have hp : powerL n d e = powL (sN n d 5 e).1 (sN n d 5 e).2 := if_pos (by omega)
      rw [hp]
      exact ev_neg c1 (ev_pos c2 (Ev.bind h5 g5))
    · have hp : powerL n d e = powL (sN n d 6 e).1 (sN n d 6 e).2 := if_neg (by omega)
      rw [hp]
      exact ev_neg c1 (ev_neg c2 g6)
theorem rtext21 {n d P k : Nat} {e : Int} (hE : IsE n d e) (hd : 0 < d) (hP0 : 0 < P) (hP : P * d = n * 10 ^ k) (dP : dn P ≤ 9000) (hk : k ≤ 9000) (hdn : dn n ≤ 9000) (he : -4000 ≤ e ∧ e ≤ 4000) :
    Ev (numeraryref21_Text.f (D P) (k : Int)) (S (genL n d e)) := by
  have e1 : (dn P : Int) - 1 - (k : Int) = e := ((rexp_is (k := k) hP0).scale (Nat.pow_pos (by decide)) hd hP.symm).uniq hE
  have hx := rexp_ok (P := P) (k := k) (by omega) (by omega)
  rw [e1] at hx
  have hpos := dn_pos hP0
  have hg : gpl e ≤ 9 := by unfold gpl; omega
  have hat := rat_ok (P := P) (k := k) (p := gpl e) (N := gN n d e) (by omega) (by omega) (by omega) (near_scale (Nat.pow_pos (by decide)) hd (by
    calc P * 10 ^ gpl e * d = P * d * 10 ^ gpl e := by grind
      _ = n * 10 ^ gpl e * 10 ^ k := by rw [hP]; grind))
  have hN := gN_dn (n := n) (e := e) hd
  have hj := rjoined (i := decs0 (gN n d e / 10 ^ gpl e)) (fr := tail (gpl e) (gN n d e % 10 ^ gpl e)) (tail_isD _ _).dg (by rw [decs0_len]; omega) (by rw [tail_len (mod10_lt _ _)]; omega)
  have hpw := rpowered hE hd hP0 hP (by omega) (by omega) he
  refine ev_eq numeraryref21_Text.f_eq (ev_neg (by rw [D_length]; omega) (Ev.bind hx ?_))
  by_cases c1 : e ≥ -4
  · refine ev_pos c1 ?_
    by_cases c2 : e ≤ 10
    · refine ev_pos c2 ?_
      have fin : ∀ (h : dn (gN n d e / 10 ^ gpl e) ≤ 11), genL n d e = plainL n d e := fun h => if_pos ⟨c1, c2, h⟩
      have fin2 : ∀ (h : ¬ dn (gN n d e / 10 ^ gpl e) ≤ 11), genL n d e = powerL n d e := fun h => if_neg (fun h' => h h'.2.2)
      by_cases c3 : e ≥ 1
      · refine ev_pos c3 ?_
        rw [wrap_id (x := 9 - e) (by omega) (by omega)]
        by_cases c4 : 9 - e < 0
        · rw [show ((gpl e : Nat) : Int) = 0 by unfold gpl; omega] at hat
          refine ev_pos c4 (Ev.bind hat ?_)
          by_cases c5 : dn (gN n d e / 10 ^ gpl e) ≤ 11
          · rw [fin c5]
            exact ev_pos (by dsimp only; rw [S_size, decs0_len]; omega) (Ev.bind hj (ev_now rfl))
          · rw [fin2 c5]
            exact ev_neg (by dsimp only; rw [S_size, decs0_len]; omega) hpw
        · rw [show ((gpl e : Nat) : Int) = 9 - e by unfold gpl; omega] at hat
          refine ev_neg c4 (Ev.bind hat ?_)
          by_cases c5 : dn (gN n d e / 10 ^ gpl e) ≤ 11
          · rw [fin c5]
            exact ev_pos (by dsimp only; rw [S_size, decs0_len]; omega) (Ev.bind hj (ev_now rfl))
          · rw [fin2 c5]
            exact ev_neg (by dsimp only; rw [S_size, decs0_len]; omega) hpw
      · rw [show ((gpl e : Nat) : Int) = 9 by unfold gpl; omega] at hat
        refine ev_neg c3 (ev_neg (by decide) (Ev.bind hat ?_))
        by_cases c5 : dn (gN n d e / 10 ^ gpl e) ≤ 11
        · rw [fin c5]
          exact ev_pos (by dsimp only; rw [S_size, decs0_len]; omega) (Ev.bind hj (ev_now rfl))
        · rw [fin2 c5]
          exact ev_neg (by dsimp only; rw [S_size, decs0_len]; omega) hpw
    · have hp : genL n d e = powerL n d e := if_neg (fun h => c2 h.2.1)
      rw [hp]
      exact ev_neg c2 hpw
  · have hp : genL n d e = powerL n d e := if_neg (fun h => c1 h.1)
    rw [hp]
    exact ev_neg c1 hpw
end Go.Proofs.YtbapeilokmphdaaGreatDoor.F

/- Layer 9: what the laws' own helpers come to. -/
namespace Go.Proofs.YtbapeilokmphdaaGreatDoor.F
open Go Go.Proofs.YtbapeilokmphdaaGreatDoor.E
set_option linter.unusedVariables false
set_option linter.unusedSimpArgs false
theorem wakes09 : Ev (numerarylaw09_wakes.f ()) true := by
  have s : ∀ n : Nat, n < 18446744073709551616 → ln n ≤ 2 := fun n h => ln_small h
  obtain ⟨r, hr, vr⟩ := ratio_of (a := 2345) (b := 1000) (c := 2) (by decide) (by decide) (s _ (by decide)) (s _ (by decide))
  obtain ⟨q, hq, vq⟩ := ratio_of (a := 99996) (b := 100) (c := 2) (by decide) (by decide) (s _ (by decide)) (s _ (by decide))
  have ha := at_ok (p := 2) hr (by decide) (by decide) (by decide)
  rw [show near (2345 * 10 ^ 2) 1000 = 235 by decide, show (235 / 10 ^ 2 : Nat) = 2 by decide, show (235 % 10 ^ 2 : Nat) = 35 by decide] at ha
  have hE : IsE 99996 100 2 := IsE.of (u := 2) (v := 0) (by decide) (by decide) (by decide)
  have ht := to_ok (m := 4) hq (by decide) (by decide) (by decide) (by decide) (by decide) hE
  rw [if_pos (by decide)] at ht
  have hsc : sciOf (sc 99996 100 (((4 : Nat) : Int) - 1 - 2)) 4 2 = (S [49, 48, 48, 48], 3) := by
    have : sc 99996 100 (((4 : Nat) : Int) - 1 - 2) = 10 ^ 4 := by decide
    unfold sciOf
    rw [this, if_pos rfl]
    rw [show 10 ^ (4 - 1) = 10 ^ 3 from rfl, decs0_ten]; rfl
  rw [hsc] at ht
  obtain ⟨e, he, b1, b2, hx⟩ := exp_ok hq (by decide) (by decide) (by decide)
  obtain rfl := hE.uniq he
  rw [if_pos (by decide)] at hx
  have e1 : S (decs0 2) = (⟨#[50]⟩ : ByteArray) := by rw [decs0_lit (l := [50]) (by unfold isD; decide) (.inr ⟨_, _, rfl, by decide⟩) (by decide)]; rfl
  have e2 : S (tail 2 35) = (⟨#[51, 53]⟩ : ByteArray) := by
    unfold tail
    rw [decs0_lit (l := [51, 53]) (n := 35) (by unfold isD; decide) (.inr ⟨_, _, rfl, by decide⟩) (by decide), show dn 35 = 2 by decide]; rfl
  rw [e1, e2] at ha
  refine ev_eq numerarylaw09_wakes.f_eq (Ev.bind (of_val (n := 2345) (by decide)) (Ev.bind (of_val (n := 1000) (by decide)) (Ev.bind vr (Ev.bind ha (Ev.bind (of_val (n := 99996) (by decide)) (Ev.bind (of_val (n := 100) (by decide)) (Ev.bind vq (Ev.bind ht (Ev.bind hx ?_)))))))))
  exact ev_pos rfl (ev_pos ⟨rfl, rfl⟩ (ev_pos rfl (ev_pos ⟨rfl, rfl⟩ (ev_pos rfl (ev_now rfl)))))
/-- What the laws take of 64 bits: nothing, or a quotient and the document's decimals. -/
theorem value09 {a0 : Int} (h0 : (Lit.int .u64 a0).wf = true) : Ev (numerarylaw09_value.f a0) (([], []), [], 0, false) ∨
    ∃ (r : List Int × List Int) (n d P k : Nat), Ev (numerarylaw09_value.f a0) (r, D P, (k : Int), true) ∧ RQ r n d 100 ∧ 0 < d ∧ dn P ≤ 4000 ∧ k ≤ 1074 ∧ P * d = n * 10 ^ k := by
  obtain ⟨h0a, h0b⟩ := wf_u64 h0
  obtain ⟨b, rfl⟩ : ∃ n : Nat, a0 = (n : Int) := ⟨a0.toNat, by omega⟩
  obtain ⟨s, e, f, hs, he, hf, rfl⟩ := W_split (b := b) (by omega)
  have hb := bits_of hs he hf
  have ho := ref_of hs he hf
  by_cases c : e = 2047
  · subst c
    obtain ⟨v1, v2, _⟩ := value_no (s := s) (f := f)
    exact .inl (ev_eq numerarylaw09_value.f_eq (Ev.bind ho (Ev.bind hb (Ev.bind v1 (ev_pos v2 (ev_now rfl))))))
  · obtain ⟨cl, m, x, r, n, d, P, pk, hV, hcl, _, _, hd, hr, _, _, hv, hdec, hpk, hP, heq, _⟩ := val64 hs (show e < 2047 by omega) hf
    rw [hV] at hb ho hv
    exact .inr ⟨r, n, d, P, pk, ev_eq numerarylaw09_value.f_eq (Ev.bind ho (Ev.bind hb (Ev.bind hv (ev_neg (by rcases hcl with rfl | rfl <;> simp) (ev_neg (by simp) (Ev.bind hdec (ev_now rfl))))))), hr, hd, hP, hpk, heq⟩
theorem cmp_zero {r : List Int × List Int} {n d c : Nat} (h : RQ r n d c) (hd : 0 < d) (hc : c ≤ 262144) : Ev (ratio_Cmp.f r (([] : List Int), ([] : List Int))) (cmpI n 0) := by
  obtain ⟨n', d', rfl, p1, _, e1, a1, b1⟩ := h
  have l1 : ln 1 = 1 := by decide
  have l0 : ln 0 = 0 := rfl
  have m1 := nmul (m := n') (n := 1) (by omega) (by omega)
  have m2 := nmul (m := 0) (n := d') (by omega) (by omega)
  have m3 := nmul (m := d') (n := 1) (by omega) (by omega)
  rw [Nat.mul_one] at m1 m3
  rw [Nat.zero_mul] at m2
  have hcr : Ev (ratio_crossed.f (L n', L d') (([] : List Int), ([] : List Int))) (L n', L 0, L d') :=
    ev_eq ratio_crossed.f_eq (Ev.bind (under_pos p1 (by omega)) (Ev.bind under_zero (Ev.bind m1 (Ev.bind m2 (Ev.bind m3 (ev_now rfl))))))
  have hz : cmpI n' 0 = cmpI n 0 := by
    rcases Nat.eq_zero_or_pos n' with h | h
    · subst h
      have : n = 0 := by
        rw [Nat.zero_mul] at e1
        rcases Nat.mul_eq_zero.mp e1.symm with h | h
        · exact h
        · omega
      rw [this]
    · have : 0 < n := by
        rcases Nat.eq_zero_or_pos n with h2 | h2
        · rw [h2, Nat.zero_mul] at e1
          have := Nat.mul_pos h hd
          omega
        · exact h2
      unfold cmpI
      rw [if_neg (by omega), if_pos h, if_neg (by omega), if_pos this]
  rw [← hz]
  exact ev_eq ratio_Cmp.f_eq (Ev.bind hcr (Ev.bind (ncmp (by omega) (by omega)) (ev_now rfl)))
end Go.Proofs.YtbapeilokmphdaaGreatDoor.F

/- So many digits, the first no nought; with one more it is nearer, or as near. -/
namespace Go.Proofs.YtbapeilokmphdaaGreatDoor.Pure
open Go Go.Proofs.YtbapeilokmphdaaGreatDoor.E Go.Proofs.YtbapeilokmphdaaGreatDoor.F
set_option linter.unusedVariables false
set_option linter.unusedSimpArgs false
theorem tenfold_ok {m : Nat} (h : ln m ≤ 100000) : Ev (numerarylaw09_tenfold.f (L m)) (L (10 * m)) := by
  have a2 := ln_add m m
  have a4 := ln_add (m + m) (m + m)
  have a8 := ln_add (m + m + (m + m)) (m + m + (m + m))
  have a10 := ln_add (m + m + (m + m) + (m + m + (m + m))) (m + m)
  have e : m + m + (m + m) + (m + m + (m + m)) + (m + m) = 10 * m := by omega
  refine ev_eq numerarylaw09_tenfold.f_eq (Ev.bind (nadd (by omega) (by omega)) (Ev.bind (nadd (by omega) (by omega)) (Ev.bind (nadd (by omega) (by omega)) (Ev.bind (nadd (by omega) (by omega)) (Ev.bind (limbs_L (by omega)) (ev_now ?_))))))
  rw [e]
theorem made_L {m : Nat} (h : ln m ≤ 100000) : Ev (nat_Made.f (L m)) (L m) := by
  have := made_val (l := dg 4294967296 m) (by show ln m ≤ _; omega) (Dg_dg b32 m)
  rw [val_dg b32] at this
  exact this
theorem scale_z {r : List Int × List Int} {n d c : Nat} {z : Int} (hr : RQ r n d c) (hd : 0 < d) (hc : c ≤ 100000) (h1 : -5000 ≤ z) (h2 : z ≤ 5000) : ∃ t, RQ t (n * 10 ^ z.toNat) (d * 10 ^ (-z).toNat) (c + 1000) ∧ Ev (ratio_Ratio_Scale.f r z) t := by
  by_cases c0 : 0 ≤ z
  · obtain ⟨t, ht, hv⟩ := ratio_scale (k := z.toNat) hr hd hc (by omega)
    rw [show ((z.toNat : Nat) : Int) = z by omega] at hv
    rw [show (-z).toNat = 0 by omega, Nat.pow_zero, Nat.mul_one]
    exact ⟨t, ht, hv⟩
  · obtain ⟨k, hk⟩ : ∃ k : Nat, z = -(k : Int) := ⟨(-z).toNat, by omega⟩
    rw [show z.toNat = 0 by omega, show (-z).toNat = k by omega, Nat.pow_zero, Nat.mul_one]
    obtain ⟨n', d', rfl, p1, g, e1, la, lb⟩ := hr
    have l1 := ln_pow10 k
    have l2 := ln_mul d' (10 ^ k)
    have hp10 : 0 < 10 ^ k := Nat.pow_pos (by decide)
    obtain ⟨q, hq, vq⟩ := lowest (a := n') (b := d' * 10 ^ k) (c := c + 1000) (Nat.mul_pos p1 hp10) (by omega) (by omega) (by omega)
    refine ⟨q, hq.trans (Nat.mul_pos p1 hp10) (by rw [← Nat.mul_assoc, e1, Nat.mul_assoc]), ev_eq ratio_Ratio_Scale.f_eq (ev_neg (by omega) (ev_neg (by omega) (ev_pos (by omega) (Ev.bind (under_pos p1 (by omega)) ?_))))⟩
    rw [show IntKind.i64.wrap (0 - z) = (k : Int) by rw [wrap_id (by omega) (by omega)]; omega]
    exact Ev.bind (ten (by omega)) (Ev.bind (nmul (by omega) (by omega)) (Ev.bind vq (ev_now rfl)))
/-- The number of a text of decimals with an exponent. -/
theorem number1 {l : List Nat} {e z : Int} (h : isD l) (hl : l.length ≤ 40) (h1 : -4500 ≤ e) (h2 : e ≤ 4500) (hz : z = e - (l.length : Int) + 1) :
    ∃ q, RQ q (num l * 10 ^ z.toNat) (1 * 10 ^ (-z).toNat) 1100 ∧ Ev (numerarylaw09_RoundTwice_1.f (S l, e)) q := by
  have lnb : ∀ {w : List Nat}, isD w → w.length ≤ 40 → ln (num w) ≤ 40 := fun hw hl => by
    have h1 : ln (num _) ≤ _ := (dg_len b32 _ _).mpr (Nat.lt_of_lt_of_le (num_lt hw) (Nat.pow_le_pow_left (by decide) _))
    omega
  have l1 := ln_small (n := 1) (by decide)
  obtain ⟨a, ha, va⟩ := ratio_of (a := num l) (b := 1) (c := 100) (by decide) (by decide) (by have := lnb h hl; omega) (by omega)
  obtain ⟨q, hq, vq⟩ := scale_z (z := z) ha (by decide) (by decide) (by omega) (by omega)
  refine ⟨q, hq, ev_eq numerarylaw09_RoundTwice_1.f_eq ?_⟩
  dsimp only
  rw [bytesOf_S h.dg, nl_length]
  have loop : ∀ k i, i + k = l.length → Ev (numerarylaw09_RoundTwice_1.l0 (S l) e ([] : List Int) ([] : List Int) (L (num (l.take i))) (nl l) (l.length : Int) (i : Int)) q := by
    intro k
    induction k with
    | zero =>
      intro i hi
      rw [show i = l.length by omega, List.take_length]
      refine ev_loop numerarylaw09_RoundTwice_1.l0_eq numerarylaw09_RoundTwice_1.l0_step (ev_neg (by omega) (Ev.bind (of_val (n := 1) (by decide)) (Ev.bind va ?_)))
      rw [S_size, wrap_id (x := e - (l.length : Int)) (by omega) (by omega), wrap_id (x := e - (l.length : Int) + 1) (by omega) (by omega), ← hz]
      exact Ev.bind vq (ev_now rfl)
    | succ k ih =>
      intro i hi
      have hg : 48 ≤ gd l i ∧ gd l i ≤ 57 := h (gd l i) (by
        unfold gd; rw [List.getD_eq_getElem?_getD, List.getElem?_eq_getElem (by omega)]
        exact List.getElem_mem _)
      have hb := lnb (h.take i) (by rw [List.length_take]; omega)
      have l10 : ln (10 * num (l.take i)) ≤ 42 := by
        have := ln_mul 10 (num (l.take i))
        have := ln_small (n := 10) (by decide)
        omega
      have lgd := ln_small (n := gd l i - 48) (by omega)
      refine ev_loop numerarylaw09_RoundTwice_1.l0_eq numerarylaw09_RoundTwice_1.l0_step (ev_pos (by omega) (ev_pos (by omega) (ev_pos (by rw [nl_length]; omega) ?_)))
      rw [rd_nl]
      refine Ev.bind (tenfold_ok (by omega)) (Ev.bind (made_L (by omega)) ?_)
      rw [show (IntKind.u64.wrap (IntKind.u8.wrap (((gd l i : Nat) : Int) - 48))).tmod 10 = ((gd l i - 48 : Nat) : Int) by
        rw [u8_id (by omega) (by omega), u64_id (by omega) (by omega), Int.tmod_eq_emod_of_nonneg (by omega)]; omega]
      refine Ev.bind (of_val (by omega)) (Ev.bind (nadd (by omega) (by omega)) ?_)
      rw [show IntKind.i64.wrap ((i : Int) + 1) = ((i + 1 : Nat) : Int) by rw [wrap_id (by omega) (by omega)]; omega]
      have := ih (i + 1) (by omega)
      rw [take_snoc (by omega), num_snoc, Nat.mul_comm] at this
      exact this
  exact loop l.length 0 (by omega)
theorem sN_num {n d m : Nat} {e : Int} (hm : 1 ≤ m) : sc n d ((m : Int) - 1 - e) = num (sN n d m e).1 * 10 ^ ((sN n d m e).2 - e).toNat := by
  unfold sN sciL
  by_cases c : sc n d ((m : Int) - 1 - e) = 10 ^ m
  · rw [if_pos c]
    dsimp only
    rw [num_decs0, show (e + 1 - e).toNat = 1 by omega, ← Nat.pow_succ, show (m - 1).succ = m by omega]
    exact c
  · rw [if_neg c]
    dsimp only
    rw [num_decs0, show (e - e).toNat = 0 by omega, Nat.pow_zero, Nat.mul_one]
/-- What was rounded to m digits, as a quotient. -/
theorem number_to {n d m : Nat} {e : Int} (hE : IsE n d e) (hd : 0 < d) (hm : 1 ≤ m) (hm2 : m ≤ 40) (he : -4000 ≤ e ∧ e ≤ 4000) :
    ∃ q, RQ q (sc n d ((m : Int) - 1 - e) * 10 ^ (-((m : Int) - 1 - e)).toNat) (10 ^ ((m : Int) - 1 - e).toNat) 1100 ∧ Ev (numerarylaw09_RoundTwice_1.f (S (sN n d m e).1, (sN n d m e).2)) q := by
  obtain ⟨a1, a2, a3, _⟩ := sN_ok (m := m) hE hd hm
  obtain ⟨z, hz⟩ : ∃ z : Int, z = (sN n d m e).2 - ((sN n d m e).1.length : Int) + 1 := ⟨_, rfl⟩
  obtain ⟨q, hq, hv⟩ := number1 a1 (by omega) (show -4500 ≤ (sN n d m e).2 by omega) (by omega) hz
  refine ⟨q, hq.trans (Nat.mul_pos (by decide) (Nat.pow_pos (by decide))) ?_, hv⟩
  rw [sN_num hm]
  obtain ⟨T, hT⟩ : ∃ T : Int, T = (m : Int) - 1 - e := ⟨_, rfl⟩
  rw [← hT]
  have ex := congrArg (fun k => 10 ^ k) (show z.toNat + T.toNat = ((sN n d m e).2 - e).toNat + ((-T).toNat + (-z).toNat) by omega)
  simp only [Nat.pow_add] at ex
  calc num (sN n d m e).1 * 10 ^ z.toNat * 10 ^ T.toNat = num (sN n d m e).1 * (10 ^ z.toNat * 10 ^ T.toNat) := Nat.mul_assoc _ _ _
    _ = _ := by rw [ex]; grind
theorem nearest_ad {a b N M : Nat} (hb : 0 < b) (h : N = near a b) : ad a (N * b) ≤ ad a (M * b) := by
  obtain ⟨s1, s2⟩ := near_spec hb h
  have e1 : 2 * N * b = 2 * (N * b) := Nat.mul_assoc _ _ _
  have e2 : (2 * N + 2) * b = 2 * (N * b) + 2 * b := by grind
  rw [e1] at s1
  rw [e2] at s2
  rcases Nat.lt_trichotomy M N with c | c | c
  · have h1 : M * b + b ≤ N * b := by
      have := Nat.mul_le_mul_right b c
      rwa [Nat.succ_mul] at this
    generalize M * b = X at *
    generalize N * b = Y at *
    unfold ad; omega
  · rw [c]; exact Nat.le_refl _
  · have h1 : N * b + b ≤ M * b := by
      have := Nat.mul_le_mul_right b c
      rwa [Nat.succ_mul] at this
    generalize M * b = X at *
    generalize N * b = Y at *
    unfold ad; omega
theorem ad_mul (a b k : Nat) : ad (a * k) (b * k) = ad a b * k := by
  unfold ad
  rw [Nat.add_mul, Nat.sub_mul, Nat.sub_mul]
theorem one_more {n d : Nat} {T T1 : Int} (hd : 0 < d) (hT : T1 = T + 1) :
    ad (n * 10 ^ T1.toNat) (sc n d T1 * 10 ^ (-T1).toNat * d) * (d * 10 ^ T.toNat) ≤ ad (n * 10 ^ T.toNat) (sc n d T * 10 ^ (-T).toNat * d) * (d * 10 ^ T1.toNat) := by
  by_cases c : 0 ≤ T
  · obtain ⟨t, ht⟩ : ∃ t : Nat, T = (t : Int) := ⟨T.toNat, by omega⟩
    have h1 : sc n d T1 = near (n * 10 ^ (t + 1)) d := by
      unfold sc
      rw [show T1.toNat = t + 1 by omega, show (-T1).toNat = 0 by omega, Nat.pow_zero, Nat.mul_one]
    have hk := nearest_ad (M := sc n d T * 10) hd h1
    rw [show T1.toNat = t + 1 by omega, show (-T1).toNat = 0 by omega, show T.toNat = t by omega, show (-T).toNat = 0 by omega, Nat.pow_zero, Nat.mul_one, Nat.mul_one]
    have e1 : ad (n * 10 ^ (t + 1)) (sc n d T * 10 * d) = ad (n * 10 ^ t) (sc n d T * d) * 10 := by
      rw [← ad_mul, Nat.pow_succ]
      congr 1
      · grind
      · grind
    rw [e1] at hk
    calc ad (n * 10 ^ (t + 1)) (sc n d T1 * d) * (d * 10 ^ t) ≤ ad (n * 10 ^ t) (sc n d T * d) * 10 * (d * 10 ^ t) := Nat.mul_le_mul_right _ hk
      _ = _ := by rw [Nat.pow_succ]; grind
  · obtain ⟨t, ht⟩ : ∃ t : Nat, T1 = -(t : Int) := ⟨(-T1).toNat, by omega⟩
    have h1 : sc n d T1 = near n (d * 10 ^ t) := by
      unfold sc
      rw [show T1.toNat = 0 by omega, show (-T1).toNat = t by omega, Nat.pow_zero, Nat.mul_one]
    have hk := nearest_ad (M := sc n d T * 10) (Nat.mul_pos hd (Nat.pow_pos (by decide))) h1
    rw [show T1.toNat = 0 by omega, show (-T1).toNat = t by omega, show T.toNat = 0 by omega, show (-T).toNat = t + 1 by omega, Nat.pow_zero, Nat.mul_one, Nat.mul_one]
    refine Nat.mul_le_mul_right _ ?_
    have e1 : sc n d T1 * 10 ^ t * d = sc n d T1 * (d * 10 ^ t) := by grind
    have e2 : sc n d T * 10 ^ (t + 1) * d = sc n d T * 10 * (d * 10 ^ t) := by rw [Nat.pow_succ]; grind
    rw [e1, e2]
    exact hk
theorem cmp_le {a b : Nat} (h : a ≤ b) : cmpI a b ≤ 0 := by
  unfold cmpI
  split
  · decide
  · rw [if_neg (by omega)]; decide
theorem to_none {m : Int} : Ev (round_To.f (([] : List Int), ([] : List Int)) m) ((ByteArray.empty, 0), false) := by
  have ht : Ev (ratio_Ratio_Terms.f (([] : List Int), ([] : List Int))) (([] : List Int), L 1) := ev_eq ratio_Ratio_Terms.f_eq (Ev.bind under_zero (ev_now rfl))
  have hx : Ev (round_Exp.f (([] : List Int), ([] : List Int))) (0, false) := ev_eq round_Exp.f_eq (Ev.bind ht (Ev.bind (nbits (n := 0) (by decide)) (ev_pos (by decide) (ev_now rfl))))
  exact ev_eq round_To.f_eq (Ev.bind hx (ev_pos (by simp) (ev_now rfl)))
theorem RoundTwice (a0 : Int) (h0 : (Lit.int .u64 a0).wf = true) (a1 : Int) (h1 : (Lit.int .u8 a1).wf = true) : Ev (numerarylaw09_RoundTwice.f a0 a1) true := by
  obtain ⟨h0a, h0b⟩ := wf_u64 h0
  obtain ⟨h1a, h1b⟩ := wf_u8 h1
  obtain ⟨x, rfl⟩ : ∃ n : Nat, a0 = (n : Int) := ⟨a0.toNat, by omega⟩
  obtain ⟨y, rfl⟩ : ∃ n : Nat, a1 = (n : Int) := ⟨a1.toNat, by omega⟩
  obtain ⟨s, e, f, hs, he, hf, rfl⟩ := W_split (b := x) (by omega)
  obtain ⟨m, hm1, hm2, hm, hm'⟩ : ∃ m : Nat, 1 ≤ m ∧ m ≤ 30 ∧ IntKind.i64.wrap (1 + (IntKind.i64.wrap ((y : Int).tmod 30))) = (m : Int) ∧ IntKind.i64.wrap ((m : Int) + 1) = ((m + 1 : Nat) : Int) := by
    refine ⟨1 + y % 30, by omega, by omega, ?_, by rw [wrap_id (by omega) (by omega)]; omega⟩
    rw [show (y : Int).tmod 30 = ((y % 30 : Nat) : Int) from rfl, wrap_id (x := ((y % 30 : Nat) : Int)) (by omega) (by omega), wrap_id (by omega) (by omega)]; omega
  refine ev_eq numerarylaw09_RoundTwice.f_eq (Ev.bind (bits_of hs he hf) ?_)
  rw [hm, hm']
  by_cases c1 : e = 2047
  · subst c1
    exact Ev.bind value_no.1 (Ev.bind to_none (Ev.bind to_none (ev_pos rfl (Ev.bind wakes09 (ev_pos rfl (ev_pos rfl (ev_now rfl)))))))
  · obtain ⟨cl, mm, xx, r, n, d, p, pk, hV, hcl, hz, _, hd, hr, ln1, ln2, hv, _⟩ := val64 hs (show e < 2047 by omega) hf
    have hc := cmp_zero hr hd (by decide)
    refine Ev.bind hv ?_
    rcases Nat.eq_zero_or_pos n with h | hn
    · subst h
      exact Ev.bind (to_zero hr hd (by decide)) (Ev.bind (to_zero hr hd (by decide)) (ev_neg (by simp) (Ev.bind hc (ev_pos rfl (Ev.bind wakes09 (ev_pos rfl (ev_pos rfl (ev_now rfl))))))))
    · obtain ⟨e0, hE, _, _, _⟩ := exp_ok hr hd hn (by decide)
      have hb : -4000 ≤ e0 ∧ e0 ≤ 4000 := by
        have d1 := dn_of_ln ln1
        have d2 := dn_of_ln ln2
        have b1 : n < 10 ^ dn n := dg_lt b10 n
        have b2 : d < 10 ^ dn d := dg_lt b10 d
        constructor
        · by_cases c : -4000 ≤ e0
          · exact c
          · exfalso
            obtain ⟨v, hv⟩ : ∃ v : Nat, (v : Int) = -e0 := ⟨(-e0).toNat, by omega⟩
            have h1 := (hE 0 v (by omega)).2
            have h2 : 10 ^ v < 10 ^ (dn d + 1) := by
              calc 10 ^ v ≤ n * 10 ^ v := Nat.le_mul_of_pos_left _ hn
                _ < d * 10 ^ (0 + 1) := h1
                _ ≤ 10 ^ dn d * 10 ^ 1 := Nat.mul_le_mul_right _ (Nat.le_of_lt b2)
                _ = 10 ^ (dn d + 1) := (Nat.pow_add ..).symm
            have := (Nat.pow_lt_pow_iff_right (by decide)).mp h2
            omega
        · by_cases c : e0 ≤ 4000
          · exact c
          · exfalso
            obtain ⟨u, hu⟩ : ∃ u : Nat, (u : Int) = e0 := ⟨e0.toNat, by omega⟩
            have h1 := (hE u 0 (by omega)).1
            have h2 : 10 ^ u < 10 ^ dn n := by
              calc 10 ^ u ≤ d * 10 ^ u := Nat.le_mul_of_pos_left _ hd
                _ ≤ n * 10 ^ 0 := h1
                _ < 10 ^ dn n := by rw [Nat.pow_zero, Nat.mul_one]; exact b1
            have := (Nat.pow_lt_pow_iff_right (by decide)).mp h2
            omega
      have t1 := gto (m := m) hr hd hn (by decide) hm1 (by omega) hE hb
      have t2 := gto (m := m + 1) hr hd hn (by decide) (by omega) (by omega) hE hb
      obtain ⟨q1, hq1, vq1⟩ := number_to (m := m) hE hd hm1 (by omega) hb
      obtain ⟨q2, hq2, vq2⟩ := number_to (m := m + 1) hE hd (by omega) (by omega) hb
      obtain ⟨a1, a2, a3, c0, t0, a4, a5⟩ := sN_ok (m := m) hE hd hm1
      obtain ⟨b1, b2, b3, _⟩ := sN_ok (m := m + 1) hE hd (by omega)
      have hp1 : ∀ T : Int, 0 < 10 ^ T.toNat := fun T => Nat.pow_pos (by decide)
      obtain ⟨w2, hw2, vw2⟩ := ratio_away hr hq2 hd (hp1 _) (by decide) (by decide)
      obtain ⟨w1, hw1, vw1⟩ := ratio_away hr hq1 hd (hp1 _) (by decide) (by decide)
      have hcmp := ratio_cmp hw2 hw1 (Nat.mul_pos hd (hp1 _)) (Nat.mul_pos hd (hp1 _)) (by decide) (by decide)
      have hle := cmp_le (one_more (n := n) (T := (m : Int) - 1 - e0) (T1 := ((m + 1 : Nat) : Int) - 1 - e0) hd (by omega))
      have hbt := byteAt_S a1.dg 0
      rw [show (((0 : Nat) : Nat) : Int) = 0 from rfl] at hbt
      have hg0 : gd (sN n d m e0).1 0 = c0 := by rw [a4, gd_cons_zero]
      refine Ev.bind t1 (Ev.bind t2 (ev_neg (by simp) (Ev.bind hc (ev_neg (fun h => by have := cmpI_eq0.mp h; omega) (Ev.bind wakes09 (ev_pos rfl (ev_pos rfl (ev_pos rfl ?_))))))))
      dsimp only
      rw [S_size, S_size, a2, b2, hbt, hg0]
      exact ev_pos rfl (ev_pos (by decide) (ev_pos (by omega) (ev_pos (by omega) (ev_pos rfl (Ev.bind vq2 (Ev.bind vw2 (Ev.bind vq1 (Ev.bind vw1 (Ev.bind hcmp (ev_now (decide_eq_true hle)))))))))))
end Go.Proofs.YtbapeilokmphdaaGreatDoor.Pure
