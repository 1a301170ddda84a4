/- The document's decimals of a value, and its noughts. -/
import Derived.Test.YtjkhkmcmnnhmcaaQBitsDecimalsR2
namespace Go.Proofs.Ytjkhkmcmnnhmcaa.F
open Go Go.Proofs.Ytjkhkmcmnnhmcaa.E
set_option linter.unusedVariables false
theorem dg_noughts (n : Nat) (hn : 0 < n) (k : Nat) : dg 10 (n * 10 ^ k) = List.replicate k 0 ++ dg 10 n := by
  induction k with
  | zero => rw [Nat.pow_zero, Nat.mul_one]; rfl
  | succ k ih =>
    rw [dg_pos b10 (Nat.mul_pos hn (Nat.pow_pos (by decide))), Nat.pow_succ, ← Nat.mul_assoc, Nat.mul_mod_left, Nat.mul_div_cancel _ (by decide), ih]; rfl
theorem rtens_up {n k : Nat} (hn : dn n ≤ 1048576) (hk : k ≤ 1048576) : Ev (numeraryref07_Tens.f (D n) (k : Int)) (D (n * 10 ^ k)) := by
  refine ev_eq numeraryref07_Tens.f_eq ?_
  rcases Nat.eq_zero_or_pos n with rfl | h0
  · exact ev_pos rfl (ev_now (by rw [Nat.zero_mul]))
  · have := dn_pos h0
    refine ev_neg (by rw [D_length]; omega) ?_
    rcases Nat.eq_zero_or_pos k with rfl | hk0
    · exact ev_pos (by omega) (ev_now (by rw [Nat.pow_zero, Nat.mul_one]))
    · refine ev_neg (by omega) (ev_pos (by omega) (ev_pos (by omega) (ev_pos ?_ (ev_now ?_))))
      · rw [D_length, List.length_replicate, Int.toNat_natCast]; omega
      · rw [Int.toNat_natCast, show List.replicate k (0 : Int) = nl (List.replicate k 0) from nl_replicate k 0]
        unfold D
        rw [dg_noughts n h0, nl_append]
theorem rtens_low {n : Nat} {k : Int} (hk : k < 1) : Ev (numeraryref07_Tens.f (D n) k) (D n) := by
  refine ev_eq numeraryref07_Tens.f_eq ?_
  by_cases h : ((D n).length : Int) = 0
  · exact ev_pos h (ev_now rfl)
  · exact ev_neg h (ev_pos hk (ev_now rfl))
theorem dn_ten (n k : Nat) : dn (n * 10 ^ k) ≤ dn n + k := by
  refine (dg_len b10 _ _).mpr ?_
  rw [Nat.pow_add]
  exact Nat.mul_lt_mul_of_pos_right (dg_lt b10 n) (Nat.pow_pos (by decide))
theorem dn_two (n k : Nat) : dn (n * 2 ^ k) ≤ dn n + k :=
  Nat.le_trans (dn_mono (Nat.mul_le_mul_left _ (Nat.pow_le_pow_left (by decide) k))) (dn_ten n k)
theorem dn_five (n k : Nat) : dn (n * 5 ^ k) ≤ dn n + k :=
  Nat.le_trans (dn_mono (Nat.mul_le_mul_left _ (Nat.pow_le_pow_left (by decide) k))) (dn_ten n k)
theorem rdec_l1 {m c : Nat} (hm : dn m ≤ 1000) (hc : c ≤ 100000) : ∀ k i, i + k = c → Ev (numeraryref07_Decimals.l1 (D (m * 5 ^ i)) (i : Int) ((i : Int) - (c : Int))) (D (m * 5 ^ c), (c : Int)) := by
  intro k
  induction k with
  | zero =>
    intro i hi
    obtain rfl : i = c := by omega
    exact ev_loop numeraryref07_Decimals.l1_eq numeraryref07_Decimals.l1_step (ev_neg (by omega) (ev_now rfl))
  | succ k ih =>
    intro i hi
    have l1 := dn_five m i
    have := rtimes_D (n := m * 5 ^ i) (m := 5) (by omega) (by decide)
    rw [Nat.mul_assoc, ← Nat.pow_succ] at this
    refine ev_loop numeraryref07_Decimals.l1_eq numeraryref07_Decimals.l1_step (ev_pos (by omega) (Ev.bind this ?_))
    have h := ih (i + 1) (by omega)
    rw [wrap_id (x := (i : Int) + 1) (by omega) (by omega), wrap_id (x := (i : Int) - (c : Int) + 1) (by omega) (by omega)]
    rw [show (i : Int) - (c : Int) + 1 = ((i + 1 : Nat) : Int) - (c : Int) by omega]
    exact h
theorem rdec_l0 {m c : Nat} {x : Int} {R : List Int × Int} (hm : dn m ≤ 1000) (hc : c ≤ 100000) (hx : x ≤ (c : Int)) (hc2 : 0 < c → x = (c : Int)) (h : Ev (numeraryref07_Decimals.l1 (D (m * 2 ^ c)) 0 x) R) : ∀ k i, i + k = c → Ev (numeraryref07_Decimals.l0 x (D (m * 2 ^ i)) (i : Int)) R := by
  intro k
  induction k with
  | zero =>
    intro i hi
    obtain rfl : i = c := by omega
    exact ev_loop numeraryref07_Decimals.l0_eq numeraryref07_Decimals.l0_step (ev_neg (by omega) h)
  | succ k ih =>
    intro i hi
    have l1 := dn_two m i
    have := rtimes_D (n := m * 2 ^ i) (m := 2) (by omega) (by decide)
    rw [Nat.mul_assoc, ← Nat.pow_succ] at this
    refine ev_loop numeraryref07_Decimals.l0_eq numeraryref07_Decimals.l0_step (ev_pos (by omega) (Ev.bind this ?_))
    have h := ih (i + 1) (by omega)
    rw [wrap_id (x := (i : Int) + 1) (by omega) (by omega)]
    exact h
theorem rdec_up {m c : Nat} (hm : m < 18446744073709551616) (hc : c ≤ 100000) : Ev (numeraryref07_Decimals.f (m : Int) (c : Int)) (D (m * 2 ^ c), 0) := by
  have l := dn_small hm
  refine ev_eq numeraryref07_Decimals.f_eq (Ev.bind (rof_val hm) ?_)
  have l2 := dn_two m c
  have h1 : Ev (numeraryref07_Decimals.l1 (D (m * 2 ^ c)) 0 (c : Int)) (D (m * 2 ^ c), 0) :=
    ev_loop numeraryref07_Decimals.l1_eq numeraryref07_Decimals.l1_step (ev_neg (by omega) (ev_now rfl))
  have := rdec_l0 (by omega) hc (Int.le_refl _) (fun _ => rfl) h1 c 0 (by omega)
  rw [Nat.pow_zero, Nat.mul_one] at this
  exact this
theorem rdec_down {m c : Nat} (hm : m < 18446744073709551616) (hc : c ≤ 100000) : Ev (numeraryref07_Decimals.f (m : Int) (-(c : Int))) (D (m * 5 ^ c), (c : Int)) := by
  have l := dn_small hm
  refine ev_eq numeraryref07_Decimals.f_eq (Ev.bind (rof_val hm) ?_)
  have h1 := rdec_l1 (m := m) (by omega) hc c 0 (by omega)
  rw [Nat.pow_zero, Nat.mul_one] at h1
  have h2 : ((0 : Nat) : Int) - (c : Int) = -(c : Int) := by omega
  rw [h2] at h1
  have h3 : m * 2 ^ 0 = m := by rw [Nat.pow_zero, Nat.mul_one]
  rw [← h3] at h1
  have := rdec_l0 (m := m) (c := 0) (x := -(c : Int)) (by omega) (by omega) (by omega) (by omega) (by rw [h3] at h1 ⊢; exact h1) 0 0 (by omega)
  rw [h3] at this
  exact this
end Go.Proofs.Ytjkhkmcmnnhmcaa.F
