/- What 64 bits say. -/
import Derived.Test.YtjkhkmcmnnhmcaaQApproxBestN8
import Derived.Test.YtjkhkmcmnnhmcaaQApproxBestT1
namespace Go.Proofs.Ytjkhkmcmnnhmcaa.F
open Go Go.Proofs.Ytjkhkmcmnnhmcaa.E
set_option linter.unusedVariables false
set_option linter.unusedSimpArgs false

def W (s e f : Nat) : Nat := s * 9223372036854775808 + e * 4503599627370496 + f
/-- The value: its class, its sign, its mantissa, its exponent. -/
def V (s e f : Nat) : Int × Bool × Int × Int :=
  if e = 2047 then (if f = 0 then (2, decide (s = 1), 0, 0) else (3, false, 0, 0))
  else if e = 0 then (if f = 0 then (0, decide (s = 1), 0, 0) else (1, decide (s = 1), (f : Int), -1074))
  else (1, decide (s = 1), ((f + 4503599627370496 : Nat) : Int), ((e : Int) - 1075))
theorem W_split {b : Nat} (h : b < 18446744073709551616) : ∃ s e f, s ≤ 1 ∧ e < 2048 ∧ f < 4503599627370496 ∧ b = W s e f :=
  ⟨b / 9223372036854775808, b / 4503599627370496 % 2048, b % 4503599627370496, by omega, by omega, by omega, by unfold W; omega⟩
theorem and_splitK (k x y : Nat) : x &&& y = 2 ^ k * (x / 2 ^ k &&& y / 2 ^ k) + (x % 2 ^ k &&& y % 2 ^ k) := by
  have h := Nat.div_add_mod (x &&& y) (2 ^ k)
  have h1 : (x &&& y) / 2 ^ k = x / 2 ^ k &&& y / 2 ^ k := by
    have := Nat.shiftRight_and_distrib (a := x) (b := y) (i := k)
    rw [Nat.shiftRight_eq_div_pow, Nat.shiftRight_eq_div_pow, Nat.shiftRight_eq_div_pow] at this
    exact this
  have h2 : (x &&& y) % 2 ^ k = x % 2 ^ k &&& y % 2 ^ k := Nat.and_mod_two_pow
  rw [h1, h2] at h
  exact h.symm
theorem and_mask52 (x : Nat) : x &&& 4503599627370495 = x % 4503599627370496 := Nat.and_two_pow_sub_one_eq_mod x 52
theorem and_mask11 (x : Nat) : x &&& 2047 = x % 2048 := Nat.and_two_pow_sub_one_eq_mod x 11
theorem and_mask63 (x : Nat) : x &&& 9223372036854775807 = x % 9223372036854775808 := Nat.and_two_pow_sub_one_eq_mod x 63
theorem and_sign {s r : Nat} (hs : s ≤ 1) (hr : r < 9223372036854775808) : (s * 9223372036854775808 + r) &&& 9223372036854775808 = s * 9223372036854775808 := by
  have h := and_splitK 63 (s * 9223372036854775808 + r) 9223372036854775808
  rw [h, show (2 : Nat) ^ 63 = 9223372036854775808 by decide, show (s * 9223372036854775808 + r) / 9223372036854775808 = s by omega, show 9223372036854775808 / 9223372036854775808 = 1 by decide, show 9223372036854775808 % 9223372036854775808 = 0 by decide, Nat.and_zero, Nat.and_one_is_mod]
  omega
theorem or_sign {r : Nat} (hr : r < 9223372036854775808) : r ||| 9223372036854775808 = 9223372036854775808 + r := by
  have := Nat.two_pow_add_eq_or_of_lt (i := 63) (b := r) hr 1
  rw [Nat.or_comm]
  exact this.symm
theorem or_hidden {f : Nat} (e : Nat) (hf : f < 4503599627370496) : f ||| e * 4503599627370496 = e * 4503599627370496 + f := by
  have := Nat.two_pow_add_eq_or_of_lt (i := 52) (b := f) hf e
  rw [Nat.or_comm, Nat.mul_comm e]
  exact this.symm
theorem b64_and {a b : Nat} (ha : a < 18446744073709551616) (hb : b < 18446744073709551616) {x y : Int} (hx : x = (a : Int)) (hy : y = (b : Int)) : IntKind.u64.wrap ((BitVec.ofInt IntKind.u64.bits x &&& BitVec.ofInt IntKind.u64.bits y).toNat) = ((a &&& b : Nat) : Int) := by
  subst hx; subst hy; exact bits_and64 ha hb
theorem b64_or {a b : Nat} (ha : a < 18446744073709551616) (hb : b < 18446744073709551616) {x y : Int} (hx : x = (a : Int)) (hy : y = (b : Int)) : IntKind.u64.wrap ((BitVec.ofInt IntKind.u64.bits x ||| BitVec.ofInt IntKind.u64.bits y).toNat) = ((a ||| b : Nat) : Int) := by
  subst hx; subst hy; exact bits_or64 ha hb
theorem bits_of {s e f : Nat} (hs : s ≤ 1) (he : e < 2048) (hf : f < 4503599627370496) : Ev (bits_Of.f ((W s e f : Nat) : Int)) (V s e f) := by
  have hW : W s e f < 18446744073709551616 := by unfold W; omega
  have hd52 : ((W s e f : Nat) : Int).fdiv (2 ^ 52) = ((W s e f / 4503599627370496 : Nat) : Int) := by rw [Int.fdiv_eq_ediv_of_nonneg _ (by decide)]; omega
  have h1 : IntKind.i64.wrap (IntKind.u64.wrap ((BitVec.ofInt IntKind.u64.bits (((W s e f : Nat) : Int).fdiv (2 ^ 52)) &&& BitVec.ofInt IntKind.u64.bits 2047).toNat)) = (e : Int) := by
    rw [b64_and (a := W s e f / 4503599627370496) (b := 2047) (y := 2047) (by omega) (by decide) hd52 rfl, and_mask11, wrap_nat (by omega)]
    unfold W; omega
  have h2 : IntKind.u64.wrap ((BitVec.ofInt IntKind.u64.bits ((W s e f : Nat) : Int) &&& BitVec.ofInt IntKind.u64.bits 4503599627370495).toNat) = (f : Int) := by
    rw [b64_and (a := W s e f) (b := 4503599627370495) (y := 4503599627370495) hW (by decide) rfl rfl, and_mask52]
    unfold W; omega
  have h3 : IntKind.u64.wrap ((BitVec.ofInt IntKind.u64.bits ((W s e f : Nat) : Int) &&& BitVec.ofInt IntKind.u64.bits 9223372036854775808).toNat) = ((s * 9223372036854775808 : Nat) : Int) := by
    rw [b64_and (a := W s e f) (b := 9223372036854775808) (y := 9223372036854775808) hW (by decide) rfl rfl]
    unfold W
    rw [Nat.add_assoc, and_sign hs (by omega)]
  have h4 : IntKind.u64.wrap ((BitVec.ofInt IntKind.u64.bits (f : Int) ||| BitVec.ofInt IntKind.u64.bits 4503599627370496).toNat) = ((f + 4503599627370496 : Nat) : Int) := by
    rw [b64_or (a := f) (b := 4503599627370496) (y := 4503599627370496) (by omega) (by decide) rfl rfl]
    have := or_hidden 1 hf
    rw [Nat.one_mul] at this
    rw [this, Nat.add_comm]
  have hd : decide (((s * 9223372036854775808 : Nat) : Int) ≠ 0) = decide (s = 1) := decide_eq_decide.mpr (by omega)
  refine ev_eq bits_Of.f_eq ?_
  rw [h1, h2, h3, h4, hd]
  clear h1 h2 h3 h4 hd hd52 hW
  unfold V
  by_cases c1 : e = 2047
  · rw [if_pos c1]
    by_cases c2 : f = 0
    · rw [if_pos c2]
      refine ev_pos (by omega) (ev_neg (by omega) (ev_pos (by omega) (ev_now rfl)))
    · rw [if_neg c2]
      exact ev_pos (by omega) (ev_pos (by omega) (ev_now rfl))
  · rw [if_neg c1]
    by_cases c3 : e = 0
    · rw [if_pos c3]
      by_cases c2 : f = 0
      · rw [if_pos c2]
        (repeat (first | refine ev_pos (by (try simp only [nl_length, L_length, D_length, rd_nl, getD_nl, List.length_append, List.length_cons, List.length_nil, List.length_set, List.length_replicate, List.length_take, List.length_drop, Nat.zero_add, ge_iff_le, gt_iff_lt]); omega) ?_ | refine ev_neg (by (try simp only [nl_length, L_length, D_length, rd_nl, getD_nl, List.length_append, List.length_cons, List.length_nil, List.length_set, List.length_replicate, List.length_take, List.length_drop, Nat.zero_add, ge_iff_le, gt_iff_lt]); omega) ?_))
        exact ev_now rfl
      · rw [if_neg c2]
        (repeat (first | refine ev_pos (by (try simp only [nl_length, L_length, D_length, rd_nl, getD_nl, List.length_append, List.length_cons, List.length_nil, List.length_set, List.length_replicate, List.length_take, List.length_drop, Nat.zero_add, ge_iff_le, gt_iff_lt]); omega) ?_ | refine ev_neg (by (try simp only [nl_length, L_length, D_length, rd_nl, getD_nl, List.length_append, List.length_cons, List.length_nil, List.length_set, List.length_replicate, List.length_take, List.length_drop, Nat.zero_add, ge_iff_le, gt_iff_lt]); omega) ?_))
        exact ev_now rfl
    · rw [if_neg c3, wrap_id (x := (e : Int) - 1075) (by omega) (by omega)]
      (repeat (first | refine ev_pos (by (try simp only [nl_length, L_length, D_length, rd_nl, getD_nl, List.length_append, List.length_cons, List.length_nil, List.length_set, List.length_replicate, List.length_take, List.length_drop, Nat.zero_add, ge_iff_le, gt_iff_lt]); omega) ?_ | refine ev_neg (by (try simp only [nl_length, L_length, D_length, rd_nl, getD_nl, List.length_append, List.length_cons, List.length_nil, List.length_set, List.length_replicate, List.length_take, List.length_drop, Nat.zero_add, ge_iff_le, gt_iff_lt]); omega) ?_))
      exact ev_now rfl
theorem ref_of {s e f : Nat} (hs : s ≤ 1) (he : e < 2048) (hf : f < 4503599627370496) : Ev (numeraryref07_Of.f ((W s e f : Nat) : Int)) (V s e f) := by
  have hr : ∀ r : Nat, r = e * 4503599627370496 + f → IntKind.i64.wrap (IntKind.u64.wrap ((r : Int).tdiv 4503599627370496)) = (e : Int) ∧ (r : Int).tmod 4503599627370496 = (f : Int) := by
    intro r h
    have h1 : (r : Int).tdiv 4503599627370496 = (e : Int) := by rw [Int.tdiv_eq_ediv_of_nonneg (by omega)]; omega
    rw [h1, wrap_u64_nat (by omega), wrap_nat (by omega), Int.tmod_eq_emod_of_nonneg (by omega)]
    omega
  have hm : IntKind.u64.wrap ((f : Int) + 4503599627370496) = ((f + 4503599627370496 : Nat) : Int) := by rw [show (f : Int) + 4503599627370496 = ((f + 4503599627370496 : Nat) : Int) by omega, wrap_u64_nat (by omega)]
  have hx : IntKind.i64.wrap ((e : Int) - 1075) = (e : Int) - 1075 := wrap_id (by omega) (by omega)
  have hd : decide (((W s e f : Nat) : Int) ≥ 9223372036854775808) = decide (s = 1) := decide_eq_decide.mpr (by unfold W; omega)
  refine ev_eq numeraryref07_Of.f_eq ?_
  have key : ∀ (Z : Int × Bool × Int × Int), Z = V s e f → Ev (if (e : Int) = 2047 then (if (f : Int) > 0 then M.ret (3, false, 0, 0) else (if (e : Int) = 2047 then M.ret (2, decide (s = 1), 0, 0) else M.none)) else (if (e : Int) = 0 then (if (f : Int) = 0 then M.ret (0, decide (s = 1), 0, 0) else M.ret (1, decide (s = 1), (f : Int), (-1074))) else M.ret (1, decide (s = 1), ((f + 4503599627370496 : Nat) : Int), (e : Int) - 1075))) Z := by
    intro Z hZ
    subst hZ
    unfold V
    by_cases c1 : e = 2047
    · rw [if_pos c1]
      by_cases c2 : f = 0
      · rw [if_pos c2]; exact ev_pos (by omega) (ev_neg (by omega) (ev_pos (by omega) (ev_now rfl)))
      · rw [if_neg c2]; exact ev_pos (by omega) (ev_pos (by omega) (ev_now rfl))
    · rw [if_neg c1]
      refine ev_neg (by omega) ?_
      by_cases c3 : e = 0
      · rw [if_pos c3]
        by_cases c2 : f = 0
        · rw [if_pos c2]; exact ev_pos (by omega) (ev_pos (by omega) (ev_now rfl))
        · rw [if_neg c2]; exact ev_pos (by omega) (ev_neg (by omega) (ev_now rfl))
      · rw [if_neg c3]; exact ev_neg (by omega) (ev_now rfl)
  have fin : ∀ (r : Nat), r = e * 4503599627370496 + f → ∀ x : Int, x = (r : Int) → Ev (if (IntKind.i64.wrap (IntKind.u64.wrap (x.tdiv 4503599627370496))) = 2047 then (if (x.tmod 4503599627370496) > 0 then (M.ret ((3 : Int), false, (0 : Int), (0 : Int))) else (if (IntKind.i64.wrap (IntKind.u64.wrap (x.tdiv 4503599627370496))) = 2047 then (M.ret (2, decide (s = 1), 0, 0)) else (if (IntKind.i64.wrap (IntKind.u64.wrap (x.tdiv 4503599627370496))) = 0 then (if (x.tmod 4503599627370496) = 0 then (M.ret (0, decide (s = 1), 0, 0)) else (if (IntKind.i64.wrap (IntKind.u64.wrap (x.tdiv 4503599627370496))) = 0 then (M.ret (1, decide (s = 1), x.tmod 4503599627370496, (-1074))) else (M.ret (1, decide (s = 1), IntKind.u64.wrap ((x.tmod 4503599627370496) + 4503599627370496), IntKind.i64.wrap ((IntKind.i64.wrap (IntKind.u64.wrap (x.tdiv 4503599627370496))) - 1075))))) else (if (IntKind.i64.wrap (IntKind.u64.wrap (x.tdiv 4503599627370496))) = 0 then (M.ret (1, decide (s = 1), x.tmod 4503599627370496, (-1074))) else (M.ret (1, decide (s = 1), IntKind.u64.wrap ((x.tmod 4503599627370496) + 4503599627370496), IntKind.i64.wrap ((IntKind.i64.wrap (IntKind.u64.wrap (x.tdiv 4503599627370496))) - 1075))))))) else (if (IntKind.i64.wrap (IntKind.u64.wrap (x.tdiv 4503599627370496))) = 2047 then (M.ret (2, decide (s = 1), 0, 0)) else (if (IntKind.i64.wrap (IntKind.u64.wrap (x.tdiv 4503599627370496))) = 0 then (if (x.tmod 4503599627370496) = 0 then (M.ret (0, decide (s = 1), 0, 0)) else (if (IntKind.i64.wrap (IntKind.u64.wrap (x.tdiv 4503599627370496))) = 0 then (M.ret (1, decide (s = 1), x.tmod 4503599627370496, (-1074))) else (M.ret (1, decide (s = 1), IntKind.u64.wrap ((x.tmod 4503599627370496) + 4503599627370496), IntKind.i64.wrap ((IntKind.i64.wrap (IntKind.u64.wrap (x.tdiv 4503599627370496))) - 1075))))) else (if (IntKind.i64.wrap (IntKind.u64.wrap (x.tdiv 4503599627370496))) = 0 then (M.ret (1, decide (s = 1), x.tmod 4503599627370496, (-1074))) else (M.ret (1, decide (s = 1), IntKind.u64.wrap ((x.tmod 4503599627370496) + 4503599627370496), IntKind.i64.wrap ((IntKind.i64.wrap (IntKind.u64.wrap (x.tdiv 4503599627370496))) - 1075))))))) (V s e f) := by
    intro r hr1 x hx1
    obtain ⟨q1, q2⟩ := hr r hr1
    rw [← hx1] at q1 q2
    rw [q1, q2, hm, hx]
    clear hr hm hd key q1 q2
    unfold V
    by_cases c1 : e = 2047
    · rw [if_pos c1]
      by_cases c2 : f = 0
      · rw [if_pos c2]
        (repeat (first | refine ev_pos (by (try simp only [nl_length, L_length, D_length, rd_nl, getD_nl, List.length_append, List.length_cons, List.length_nil, List.length_set, List.length_replicate, List.length_take, List.length_drop, Nat.zero_add, ge_iff_le, gt_iff_lt]); omega) ?_ | refine ev_neg (by (try simp only [nl_length, L_length, D_length, rd_nl, getD_nl, List.length_append, List.length_cons, List.length_nil, List.length_set, List.length_replicate, List.length_take, List.length_drop, Nat.zero_add, ge_iff_le, gt_iff_lt]); omega) ?_))
        exact ev_now rfl
      · rw [if_neg c2]
        (repeat (first | refine ev_pos (by (try simp only [nl_length, L_length, D_length, rd_nl, getD_nl, List.length_append, List.length_cons, List.length_nil, List.length_set, List.length_replicate, List.length_take, List.length_drop, Nat.zero_add, ge_iff_le, gt_iff_lt]); omega) ?_ | refine ev_neg (by (try simp only [nl_length, L_length, D_length, rd_nl, getD_nl, List.length_append, List.length_cons, List.length_nil, List.length_set, List.length_replicate, List.length_take, List.length_drop, Nat.zero_add, ge_iff_le, gt_iff_lt]); omega) ?_))
        exact ev_now rfl
    · rw [if_neg c1]
      by_cases c3 : e = 0
      · rw [if_pos c3]
        by_cases c2 : f = 0
        · rw [if_pos c2]
          (repeat (first | refine ev_pos (by (try simp only [nl_length, L_length, D_length, rd_nl, getD_nl, List.length_append, List.length_cons, List.length_nil, List.length_set, List.length_replicate, List.length_take, List.length_drop, Nat.zero_add, ge_iff_le, gt_iff_lt]); omega) ?_ | refine ev_neg (by (try simp only [nl_length, L_length, D_length, rd_nl, getD_nl, List.length_append, List.length_cons, List.length_nil, List.length_set, List.length_replicate, List.length_take, List.length_drop, Nat.zero_add, ge_iff_le, gt_iff_lt]); omega) ?_))
          exact ev_now rfl
        · rw [if_neg c2]
          (repeat (first | refine ev_pos (by (try simp only [nl_length, L_length, D_length, rd_nl, getD_nl, List.length_append, List.length_cons, List.length_nil, List.length_set, List.length_replicate, List.length_take, List.length_drop, Nat.zero_add, ge_iff_le, gt_iff_lt]); omega) ?_ | refine ev_neg (by (try simp only [nl_length, L_length, D_length, rd_nl, getD_nl, List.length_append, List.length_cons, List.length_nil, List.length_set, List.length_replicate, List.length_take, List.length_drop, Nat.zero_add, ge_iff_le, gt_iff_lt]); omega) ?_))
          exact ev_now rfl
      · rw [if_neg c3]
        (repeat (first | refine ev_pos (by (try simp only [nl_length, L_length, D_length, rd_nl, getD_nl, List.length_append, List.length_cons, List.length_nil, List.length_set, List.length_replicate, List.length_take, List.length_drop, Nat.zero_add, ge_iff_le, gt_iff_lt]); omega) ?_ | refine ev_neg (by (try simp only [nl_length, L_length, D_length, rd_nl, getD_nl, List.length_append, List.length_cons, List.length_nil, List.length_set, List.length_replicate, List.length_take, List.length_drop, Nat.zero_add, ge_iff_le, gt_iff_lt]); omega) ?_))
        exact ev_now rfl
  rw [hd]
  rcases Nat.eq_zero_or_pos s with h0 | h0
  · refine ev_neg (by unfold W; omega) (fin _ rfl _ (by unfold W; omega))
  · refine ev_pos (by unfold W; omega) (fin _ rfl _ (by unfold W; rw [u64_id] <;> omega))
theorem fin_bits {t v : Int × Bool × Int × Int} {b : Int} (h : t = v) : Ev (if ¬ (t.1 = v.1 ∧ t.2.1 = v.2.1 ∧ t.2.2.1 = v.2.2.1 ∧ t.2.2.2 = v.2.2.2) then M.ret ((0 : Int), false) else M.ret (b, true)) (b, true) := by
  subst h
  exact ev_neg (fun h => h ⟨rfl, rfl, rfl, rfl⟩) (ev_now rfl)
theorem value_bits {s e f : Nat} (hs : s ≤ 1) (he : e < 2048) (hf : f < 4503599627370496) (hn : e ≠ 2047 ∨ f = 0) : Ev (bits_Value_Bits.f (V s e f)) (((W s e f : Nat) : Int), true) := by
  have hb := bits_of hs he hf
  have sgn : ∀ r : Nat, r < 9223372036854775808 → ∀ x : Int, x = (r : Int) → IntKind.u64.wrap ((BitVec.ofInt IntKind.u64.bits x ||| BitVec.ofInt IntKind.u64.bits 9223372036854775808).toNat) = ((9223372036854775808 + r : Nat) : Int) := by
    intro r h x hx
    rw [b64_or (a := r) (b := 9223372036854775808) (y := 9223372036854775808) (by omega) (by decide) hx rfl, or_sign h]
  have hs01 : s = 0 ∨ s = 1 := by omega
  refine ev_eq bits_Value_Bits.f_eq ?_
  by_cases c1 : e = 2047
  · have c2 : f = 0 := by omega
    subst c1; subst c2
    rcases hs01 with rfl | rfl
    · rw [show V 0 2047 0 = (2, false, 0, 0) from rfl] at hb ⊢
      dsimp only
      exact ev_pos rfl (ev_neg (by simp) (Ev.bind hb (fin_bits rfl)))
    · rw [show V 1 2047 0 = (2, true, 0, 0) from rfl] at hb ⊢
      dsimp only
      rw [sgn 9218868437227405312 (by decide) 9218868437227405312 rfl]
      exact ev_pos rfl (ev_pos rfl (Ev.bind hb (fin_bits rfl)))
  · by_cases c3 : e = 0
    · subst c3
      by_cases c2 : f = 0
      · subst c2
        rcases hs01 with rfl | rfl
        · rw [show V 0 0 0 = (0, false, 0, 0) from rfl] at hb ⊢
          dsimp only
          exact ev_neg (by decide) (ev_neg (by decide) (ev_neg (by decide) (ev_neg (by simp) (Ev.bind hb (fin_bits rfl)))))
        · rw [show V 1 0 0 = (0, true, 0, 0) from rfl] at hb ⊢
          dsimp only
          rw [sgn 0 (by decide) 0 rfl]
          exact ev_neg (by decide) (ev_neg (by decide) (ev_neg (by decide) (ev_pos rfl (Ev.bind hb (fin_bits rfl)))))
      · have hV : V s 0 f = (1, decide (s = 1), (f : Int), -1074) := by unfold V; rw [if_neg (by decide), if_pos rfl, if_neg c2]
        have hm : IntKind.u64.wrap ((BitVec.ofInt IntKind.u64.bits (f : Int) &&& BitVec.ofInt IntKind.u64.bits 4503599627370495).toNat) = (f : Int) := by
          rw [b64_and (a := f) (b := 4503599627370495) (y := 4503599627370495) (by omega) (by decide) rfl rfl, and_mask52]; omega
        rw [hV] at hb ⊢
        dsimp only
        rw [hm, sgn f (by omega) _ rfl]
        refine ev_neg (by decide) (ev_neg (by decide) (ev_pos rfl (ev_neg (by omega) ?_)))
        rcases hs01 with rfl | rfl
        · rw [show W 0 0 f = f by unfold W; omega] at hb ⊢
          exact ev_neg (by simp) (Ev.bind hb (fin_bits rfl))
        · rw [show W 1 0 f = 9223372036854775808 + f by unfold W; omega] at hb ⊢
          exact ev_pos (by simp) (Ev.bind hb (fin_bits rfl))
    · have hV : V s e f = (1, decide (s = 1), ((f + 4503599627370496 : Nat) : Int), (e : Int) - 1075) := by unfold V; rw [if_neg c1, if_neg c3]
      have hm : IntKind.u64.wrap ((BitVec.ofInt IntKind.u64.bits ((f + 4503599627370496 : Nat) : Int) &&& BitVec.ofInt IntKind.u64.bits 4503599627370495).toNat) = (f : Int) := by
        rw [b64_and (a := f + 4503599627370496) (b := 4503599627370495) (y := 4503599627370495) (by omega) (by decide) rfl rfl, and_mask52]; omega
      have hx : IntKind.u64.wrap ((BitVec.ofInt IntKind.u64.bits (IntKind.u64.wrap (IntKind.i64.wrap (((e : Int) - 1075) + 1075))) &&& BitVec.ofInt IntKind.u64.bits 2047).toNat) = (e : Int) := by
        rw [b64_and (a := e) (b := 2047) (y := 2047) (by omega) (by decide) (by rw [wrap_id (by omega) (by omega), u64_id (by omega) (by omega)]; omega) rfl, and_mask11]; omega
      have hsh : IntKind.u64.wrap ((e : Int) * 2 ^ 52) = ((e * 4503599627370496 : Nat) : Int) := by rw [show (e : Int) * 2 ^ 52 = ((e * 4503599627370496 : Nat) : Int) by omega, wrap_u64_nat (by omega)]
      have hor : IntKind.u64.wrap ((BitVec.ofInt IntKind.u64.bits (f : Int) ||| BitVec.ofInt IntKind.u64.bits ((e * 4503599627370496 : Nat) : Int)).toNat) = ((e * 4503599627370496 + f : Nat) : Int) := by
        rw [b64_or (a := f) (b := e * 4503599627370496) (by omega) (by omega) rfl rfl, or_hidden e hf]
      rw [hV] at hb ⊢
      dsimp only
      rw [hm, hx, hsh, hor, sgn (e * 4503599627370496 + f) (by omega) _ rfl]
      have hge : ((f + 4503599627370496 : Nat) : Int) ≥ 4503599627370496 := by omega
      clear hm hV
      generalize ((f + 4503599627370496 : Nat) : Int) = M at hb hge ⊢
      refine ev_neg (by decide) (ev_neg (by decide) (ev_pos rfl (ev_pos hge ?_)))
      rcases hs01 with rfl | rfl
      · rw [show W 0 e f = e * 4503599627370496 + f by unfold W; omega] at hb ⊢
        exact ev_neg (by simp) (Ev.bind hb (fin_bits rfl))
      · rw [show W 1 e f = 9223372036854775808 + (e * 4503599627370496 + f) by unfold W; omega] at hb ⊢
        exact ev_pos (by simp) (Ev.bind hb (fin_bits rfl))
theorem nothing_bits : Ev (bits_Value_Bits.f (3, false, 0, 0)) (9221120237041090560, true) := by
  have hb := bits_of (s := 0) (e := 2047) (f := 2251799813685248) (by decide) (by decide) (by decide)
  rw [show V 0 2047 2251799813685248 = (3, false, 0, 0) from rfl] at hb
  refine ev_eq bits_Value_Bits.f_eq ?_
  dsimp only
  exact ev_neg (by decide) (ev_pos rfl (ev_neg (by simp) (Ev.bind hb (fin_bits rfl))))
theorem next_ok {b : Nat} (h : b < 9218868437227405312) : Ev (bits_Next.f (b : Int)) (((b + 1 : Nat) : Int), true) :=
  ev_eq bits_Next.f_eq (ev_neg (by omega) (ev_now (by rw [show (b : Int) + 1 = ((b + 1 : Nat) : Int) by omega, wrap_u64_nat (by omega)])))
end Go.Proofs.Ytjkhkmcmnnhmcaa.F
