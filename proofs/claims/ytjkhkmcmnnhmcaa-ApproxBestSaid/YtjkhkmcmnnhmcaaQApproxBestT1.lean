/- Shifts of numbers, noughts at the end, powers of ten. -/
import Derived.Test.YtjkhkmcmnnhmcaaQApproxBestN5
namespace Go.Proofs.Ytjkhkmcmnnhmcaa.F
open Go Go.Proofs.Ytjkhkmcmnnhmcaa.E
set_option linter.unusedVariables false
set_option linter.unusedSimpArgs false

/-! ### the lowest bit -/
theorem and_split (x y : Nat) : x &&& y = 2 * (x / 2 &&& y / 2) + (x % 2 &&& y % 2) := by
  have h := Nat.div_add_mod (x &&& y) 2
  have h1 : (x &&& y) / 2 = x / 2 &&& y / 2 := by
    have := Nat.shiftRight_and_distrib (a := x) (b := y) (i := 1)
    rw [Nat.shiftRight_eq_div_pow, Nat.shiftRight_eq_div_pow, Nat.shiftRight_eq_div_pow] at this
    exact this
  have h2 : (x &&& y) % 2 = x % 2 &&& y % 2 := Nat.and_mod_two_pow (a := x) (b := y) (n := 1)
  rw [h1, h2] at h
  exact h.symm
theorem and_compl : ∀ (w m : Nat), m < 2 ^ w → m &&& (2 ^ w - 1 - m) = 0
  | 0, m, h => by
    have : m = 0 := by rw [Nat.pow_zero] at h; omega
    subst this; rfl
  | w + 1, m, h => by
    rw [Nat.pow_succ] at h ⊢
    have ih := and_compl w (m / 2) (by omega)
    rw [and_split, show (2 ^ w * 2 - 1 - m) / 2 = 2 ^ w - 1 - m / 2 by omega, ih]
    have h2 : (2 ^ w * 2 - 1 - m) % 2 = 1 - m % 2 := by omega
    rw [h2]
    rcases Nat.mod_two_eq_zero_or_one m with h3 | h3 <;> rw [h3]
    · rfl
    · rfl
/-- k noughts at the end -/
def Tz (n k : Nat) : Prop := ∃ m, n = 2 ^ k * (2 * m + 1)
theorem low_bit : ∀ (w k m : Nat), 2 ^ k * (2 * m + 1) < 2 ^ w → (2 ^ k * (2 * m + 1)) &&& (2 ^ w - 2 ^ k * (2 * m + 1)) = 2 ^ k
  | 0, k, m, h => by
    have : 0 < 2 ^ k * (2 * m + 1) := Nat.mul_pos (Nat.pow_pos (by decide)) (by omega)
    rw [Nat.pow_zero] at h; omega
  | w + 1, 0, m, h => by
    rw [Nat.pow_zero, Nat.one_mul, Nat.pow_succ] at *
    rw [and_split, show (2 * m + 1) / 2 = m by omega, show (2 ^ w * 2 - (2 * m + 1)) / 2 = 2 ^ w - 1 - m by omega, and_compl w m (by omega), show (2 * m + 1) % 2 = 1 by omega, show (2 ^ w * 2 - (2 * m + 1)) % 2 = 1 by omega]
    rfl
  | w + 1, k + 1, m, h => by
    have e : 2 ^ (k + 1) * (2 * m + 1) = 2 ^ k * (2 * m + 1) * 2 := by rw [Nat.pow_succ, Nat.mul_assoc, Nat.mul_comm 2, ← Nat.mul_assoc]
    rw [e, Nat.pow_succ] at h
    have ih := low_bit w k m (by omega)
    rw [e, Nat.pow_succ 2 w, Nat.pow_succ 2 k]
    generalize 2 ^ k * (2 * m + 1) = x at *
    rw [and_split, show x * 2 / 2 = x by omega, show (2 ^ w * 2 - x * 2) / 2 = 2 ^ w - x by omega, ih, show x * 2 % 2 = 0 by omega, Nat.zero_and]
    omega
theorem tz_ex : ∀ (n : Nat), 0 < n → ∃ k, Tz n k := by
  intro n
  induction n using Nat.strongRecOn with
  | _ n ih =>
    intro h
    rcases Nat.mod_two_eq_zero_or_one n with h2 | h2
    · obtain ⟨k, m, hm⟩ := ih (n / 2) (by omega) (by omega)
      refine ⟨k + 1, m, ?_⟩
      rw [Nat.pow_succ, Nat.mul_assoc, Nat.mul_comm 2, ← Nat.mul_assoc, ← hm]; omega
    · exact ⟨0, n / 2, by rw [Nat.pow_zero, Nat.one_mul]; omega⟩
theorem Tz.pos {n k : Nat} (h : Tz n k) : 0 < n := by
  obtain ⟨m, rfl⟩ := h
  exact Nat.mul_pos (Nat.pow_pos (by decide)) (by omega)
theorem Tz.mul {n k : Nat} (h : Tz n k) (c : Nat) : Tz (n * 2 ^ c) (k + c) := by
  obtain ⟨m, rfl⟩ := h
  exact ⟨m, by rw [Nat.pow_add, Nat.mul_assoc, Nat.mul_assoc, Nat.mul_comm (2 * m + 1)]⟩
theorem Tz.mod {n k : Nat} (h : Tz n k) (c : Nat) : n % 2 ^ c = 0 ↔ c ≤ k := by
  obtain ⟨m, rfl⟩ := h
  constructor
  · intro h
    rcases Nat.lt_or_ge k c with hc | hc
    · exfalso
      obtain ⟨d, rfl⟩ : ∃ d, c = k + (d + 1) := ⟨c - k - 1, by omega⟩
      rw [Nat.pow_add, Nat.mul_mod_mul_left] at h
      have h3 : (2 * m + 1) % 2 ^ (d + 1) = 0 := by
        rcases Nat.eq_zero_or_pos ((2 * m + 1) % 2 ^ (d + 1)) with h4 | h4
        · exact h4
        · have := Nat.mul_pos (Nat.pow_pos (n := k) (by decide : 0 < 2)) h4
          omega
      have h5 := Nat.div_add_mod (2 * m + 1) (2 ^ (d + 1))
      rw [h3, Nat.pow_succ, Nat.add_zero, Nat.mul_comm (2 ^ d), Nat.mul_assoc] at h5
      omega
    · exact hc
  · intro h
    obtain ⟨d, rfl⟩ : ∃ d, k = c + d := ⟨k - c, by omega⟩
    rw [Nat.pow_add, Nat.mul_assoc, Nat.mul_mod_right]
theorem Tz.div {n k : Nat} (h : Tz n k) : n / 2 ^ k % 2 = 1 := by
  obtain ⟨m, rfl⟩ := h
  rw [Nat.mul_div_cancel_left _ (Nat.pow_pos (by decide))]
  omega
/-! ### down -/
theorem down_digit {Z z0 z1 z2 s : Nat} (hs : s < 32) (hZ : Z = z0 + 4294967296 * (z1 + 4294967296 * z2)) : Z / 2 ^ s = (z0 + 4294967296 * z1) / 2 ^ s % 4294967296 + 4294967296 * ((z1 + 4294967296 * z2) / 2 ^ s) ∨ ¬ z0 < 4294967296 := by
  rcases Nat.lt_or_ge z0 4294967296 with h0 | h0
  · left
    have hp : 0 < 2 ^ s := Nat.pow_pos (by decide)
    obtain ⟨e, he⟩ : ∃ e, 4294967296 = 2 ^ s * e := ⟨2 ^ (32 - s), by rw [← Nat.pow_add, show s + (32 - s) = 32 by omega]⟩
    have h1 : Z / 2 ^ s / 4294967296 = (z1 + 4294967296 * z2) / 2 ^ s := by
      rw [Nat.div_div_eq_div_mul, Nat.mul_comm, ← Nat.div_div_eq_div_mul, hZ, Nat.add_mul_div_left _ _ (by decide), Nat.div_eq_of_lt h0, Nat.zero_add]
    have h2 : Z / 2 ^ s % 4294967296 = (z0 + 4294967296 * z1) / 2 ^ s % 4294967296 := by
      have h3 : Z = z0 + 4294967296 * z1 + 2 ^ s * (e * 4294967296 * z2) := by
        rw [hZ, Nat.mul_add, ← Nat.add_assoc]
        congr 1
        rw [Nat.mul_assoc e, ← Nat.mul_assoc (2 ^ s), ← he]
      rw [h3, Nat.add_mul_div_left _ _ hp, Nat.mul_comm e, Nat.mul_assoc, Nat.add_mul_mod_self_left]
    have h4 := Nat.mod_add_div (Z / 2 ^ s) 4294967296
    rw [h1, h2] at h4
    exact h4.symm
  · right; omega
theorem pow_split (c : Nat) : 4294967296 ^ (c / 32) * 2 ^ (c % 32) = 2 ^ c := by
  rw [show (4294967296 : Nat) = 2 ^ 32 by decide, ← Nat.pow_mul, ← Nat.pow_add, Nat.div_add_mod]
theorem tdiv32 (c : Nat) : ((c : Nat) : Int).tdiv 32 = ((c / 32 : Nat) : Int) := by rw [Int.tdiv_eq_ediv_of_nonneg (by omega)]; omega
theorem tmod32 (c : Nat) : ((c : Nat) : Int).tmod 32 = ((c % 32 : Nat) : Int) := by rw [Int.tmod_eq_emod_of_nonneg (by omega)]; omega
/-! ### up -/
theorem up_loop (x : List Nat) (w k : Nat) (hx : Dg 4294967296 x) (hk : k < 32) (hl : w + x.length < 1099511627776) : ∀ (d i : Nat) (out : List Nat), i + d = x.length → out.length = w + x.length + 1 → Dg 4294967296 out → (∀ j, w + i < j → gd out j = 0) → gd out (w + i) < 2 ^ k → val 4294967296 out = 4294967296 ^ w * (val 4294967296 (x.take i) * 2 ^ k) →
    Ev (tens_Up.l0 [] (w : Int) (k : Int) (nl out) (nl x) (x.length : Int) (i : Int)) (L (4294967296 ^ w * (val 4294967296 x * 2 ^ k))) := by
  intro d
  induction d with
  | zero =>
    intro i out hi ho hd hz hc hv
    rw [List.take_of_length_le (by omega)] at hv
    refine ev_loop tens_Up.l0_eq tens_Up.l0_step (ev_neg (by omega) ?_)
    rw [← hv]
    exact Ev.bind (made_val (by omega) hd) (ev_now rfl)
  | succ d ih =>
    intro i out hi ho hd hz hc hv
    have hg := hx.gd (by decide) i
    have ho1 := hd.gd (by decide) (w + i)
    obtain ⟨v, hv1⟩ : ∃ v, gd x i = v := ⟨_, rfl⟩
    obtain ⟨c, hc1⟩ : ∃ c, gd out (w + i) = c := ⟨_, rfl⟩
    have hzz := hz (w + i + 1) (by omega)
    rw [hv1] at hg
    rw [hc1] at hc ho1
    have hpk : 2 ^ k ≤ 2 ^ 31 := Nat.pow_le_pow_right (by decide) (by omega)
    have hp0 : 0 < 2 ^ k := Nat.pow_pos (by decide)
    have hvk : v * 2 ^ k / 4294967296 < 2 ^ k := by
      rw [Nat.div_lt_iff_lt_mul (by decide), Nat.mul_comm]
      exact Nat.mul_lt_mul_of_pos_left hg hp0
    have hlow : c ||| v * 2 ^ k % 4294967296 = c + v * 2 ^ k % 4294967296 := by rw [shl_low v k hk, or_low hc]
    have hlt : c + v * 2 ^ k % 4294967296 < 4294967296 := by
      rw [← hlow]
      exact Nat.or_lt_two_pow (n := 32) ho1 (Nat.mod_lt _ (by decide))
    have h4 := ih (i + 1) ((out.set (w + i) (c + v * 2 ^ k % 4294967296)).set (w + i + 1) (v * 2 ^ k / 4294967296)) (by omega) (by rw [List.length_set, List.length_set]; exact ho) ((hd.set _ hlt).set _ (by omega))
      (by
        intro j hj
        rw [gd_set _ _ _ _ (by rw [List.length_set]; omega), if_neg (by omega), gd_set _ _ _ _ (by omega), if_neg (by omega)]
        exact hz j (by omega))
      (by rw [show w + (i + 1) = w + i + 1 by omega, gd_set _ _ _ _ (by rw [List.length_set]; omega), if_pos rfl]; exact hvk)
      (by
        have s1 := val_set 4294967296 out (w + i) (c + v * 2 ^ k % 4294967296) (by omega)
        have s2 := val_set 4294967296 (out.set (w + i) (c + v * 2 ^ k % 4294967296)) (w + i + 1) (v * 2 ^ k / 4294967296) (by rw [List.length_set]; omega)
        rw [gd_set _ _ _ _ (by omega), if_neg (by omega), hzz, Nat.mul_zero, Nat.add_zero] at s2
        rw [hc1, Nat.mul_add] at s1
        rw [s2, val_take_succ, hv1, Nat.add_mul, Nat.mul_add, ← hv, Nat.mul_assoc (4294967296 ^ i), ← Nat.mul_assoc (4294967296 ^ w), ← Nat.pow_add]
        have hm := Nat.mod_add_div (v * 2 ^ k) 4294967296
        rw [Nat.pow_succ]
        generalize v * 2 ^ k % 4294967296 = md at *
        generalize v * 2 ^ k / 4294967296 = dv at *
        generalize v * 2 ^ k = vk at *
        generalize 4294967296 ^ (w + i) = P at *
        have e1 : P * (md + 4294967296 * dv) = P * vk := by rw [hm]
        rw [Nat.mul_add, ← Nat.mul_assoc] at e1
        omega)
    clear ih hv hz
    have e0 : IntKind.i64.wrap ((w : Int) + (i : Int)) = ((w + i : Nat) : Int) := wrap_add (by omega)
    have e1 : IntKind.i64.wrap (((w + i : Nat) : Int) + 1) = ((w + i + 1 : Nat) : Int) := succ_wrap (by omega)
    have hvk2 : v * 2 ^ k < 18446744073709551616 := by
      have := Nat.mul_le_mul (Nat.le_of_lt hg) hpk
      omega
    refine ev_loop tens_Up.l0_eq tens_Up.l0_step ?_
    rw [e0, e1]
    refine ev_pos (by omega) (ev_pos (by omega) (ev_pos (by rw [nl_length]; omega) (ev_pos (by omega) (ev_pos (by omega) (ev_pos (by rw [nl_length]; omega) (ev_pos (by omega) (ev_pos (by rw [nl_length]; omega) (ev_pos (by omega) (ev_pos (by rw [List.length_set, nl_length]; omega) ?_)))))))))
    rw [rd_nl, hv1, shl64 hk hg, Int.toNat_natCast (n := w + i), Int.toNat_natCast (n := w + i + 1), getD_nl, hc1, u32_nat (v * 2 ^ k), bits_or32 ho1 (Nat.mod_lt _ (by decide)), hlow, fdiv32, u32_nat, Nat.mod_eq_of_lt (a := v * 2 ^ k / 4294967296) (by omega), nl_set, nl_set, succ_wrap (by omega)]
    exact h4
theorem up {n c : Nat} (hl : ln n ≤ 274877906944) (hc : c ≤ 274877906944) : Ev (tens_Up.f (L n) (c : Int)) (L (n * 2 ^ c)) := by
  refine ev_eq tens_Up.f_eq (Ev.bind (limbs_nl (by rw [L_length]; omega)) ?_)
  rcases Nat.eq_zero_or_pos c with rfl | hc0
  · exact ev_pos (by omega) (ev_now (by rw [Nat.pow_zero, Nat.mul_one]))
  refine ev_neg (by omega) ?_
  rw [L_length, tdiv32, wrap_nat (by omega), tmod32]
  rcases Nat.eq_zero_or_pos n with rfl | hn
  · have h0 : ln 0 = 0 := rfl
    exact ev_pos (by omega) (ev_now (by rw [Nat.zero_mul]))
  have hln : 0 < ln n := by
    rcases Nat.eq_zero_or_pos (ln n) with h | h
    · exfalso
      have := (dg_len b32 n 0).mp (by unfold ln at h; omega)
      omega
    · exact h
  refine ev_neg (by omega) ?_
  have hu := up_loop (dg 4294967296 n) (c / 32) (c % 32) (Dg_dg b32 n) (Nat.mod_lt _ (by decide)) (by unfold ln at hl; omega) (ln n) 0 (List.replicate (c / 32 + ln n + 1) 0) (by unfold ln; omega) (by rw [List.length_replicate]; rfl) (Dg.replicate (by decide) _) (fun j _ => gd_replicate _ _) (by rw [gd_replicate]; exact Nat.pow_pos (by decide)) (by rw [val_replicate]; simp [val])
  rw [val_dg b32, Nat.mul_left_comm, pow_split] at hu
  rw [wrap_add (by omega), succ_wrap (by omega), Int.toNat_natCast, show List.replicate (c / 32 + ln n + 1) (0 : Int) = nl (List.replicate (c / 32 + ln n + 1) 0) from nl_replicate _ 0]
  exact ev_pos (by omega) (ev_pos (by omega) hu)
theorem up_neg {n : Nat} {c : Int} (hl : ln n ≤ 274877906944) (hc : c ≤ 0) : Ev (tens_Up.f (L n) c) (L n) := ev_eq tens_Up.f_eq (Ev.bind (limbs_nl (by rw [L_length]; omega)) (ev_pos (by omega) (ev_now rfl)))
theorem ln_pow2 (n c : Nat) : ln (n * 2 ^ c) ≤ ln n + c / 32 + 1 := by
  refine (dg_len b32 _ _).mpr ?_
  have h1 := dg_lt b32 n
  have h2 : 2 ^ c < 4294967296 ^ (c / 32 + 1) := by
    rw [show (4294967296 : Nat) = 2 ^ 32 by decide, ← Nat.pow_mul]
    exact Nat.pow_lt_pow_right (by decide) (by omega)
  rw [Nat.add_assoc, Nat.pow_add]
  exact Nat.mul_lt_mul'' h1 h2

/-! ### powers of ten -/
theorem ten {c : Nat} (hc : c ≤ 1073741824) : Ev (tens_Ten.f (c : Int)) (L (10 ^ c)) := by
  have l10 := ln_small (n := 10) (by decide)
  have h := Nat.mul_le_mul_left c l10
  exact ev_eq tens_Ten.f_eq (Ev.bind (of_val (n := 10) (by decide)) (Ev.bind (npow (n := 10) (k := c) (by omega) (by omega)) (ev_now rfl)))
theorem ten_neg {c : Int} (hc : c ≤ 0) : Ev (tens_Ten.f c) (L 1) :=
  ev_eq tens_Ten.f_eq (Ev.bind (of_val (n := 10) (by decide)) (Ev.bind (npow_neg (n := 10) hc) (ev_now rfl)))
theorem dg_ten (c : Nat) : dg 10 (10 ^ c) = List.replicate c 0 ++ [1] := by
  induction c with
  | zero => rfl
  | succ c ih => rw [dg_pos b10 (Nat.pow_pos (by decide)), Nat.pow_succ, Nat.mul_mod_left, Nat.mul_div_cancel _ (by decide), ih]; rfl
end Go.Proofs.Ytjkhkmcmnnhmcaa.F
