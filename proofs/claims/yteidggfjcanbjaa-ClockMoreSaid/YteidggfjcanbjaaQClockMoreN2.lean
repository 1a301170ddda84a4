/- The program's natural numbers: bits, comparisons, sums, differences, products, powers. -/
import Derived.Test.YteidggfjcanbjaaQClockMoreN1
namespace Go.Proofs.Yteidggfjcanbjaa.F
open Go Go.Proofs.Yteidggfjcanbjaa.E
set_option linter.unusedVariables false
set_option linter.unusedSimpArgs false

/-! ### bit operations -/
theorem wrap_u64_nat {n : Nat} (h : n < 18446744073709551616) : IntKind.u64.wrap (n : Int) = (n : Int) := u64_id (by omega) (by omega)
theorem bits_or64 {a b : Nat} (ha : a < 18446744073709551616) (hb : b < 18446744073709551616) : IntKind.u64.wrap ((BitVec.ofInt IntKind.u64.bits (a : Int) ||| BitVec.ofInt IntKind.u64.bits (b : Int)).toNat) = ((a ||| b : Nat) : Int) := by
  have h1 : (BitVec.ofInt IntKind.u64.bits (a : Int)).toNat = a := by simp [IntKind.bits]; omega
  have h2 : (BitVec.ofInt IntKind.u64.bits (b : Int)).toNat = b := by simp [IntKind.bits]; omega
  simp only [BitVec.toNat_or, h1, h2]
  exact wrap_u64_nat (Nat.or_lt_two_pow (n := 64) ha hb)
theorem bits_and64 {a b : Nat} (ha : a < 18446744073709551616) (hb : b < 18446744073709551616) : IntKind.u64.wrap ((BitVec.ofInt IntKind.u64.bits (a : Int) &&& BitVec.ofInt IntKind.u64.bits (b : Int)).toNat) = ((a &&& b : Nat) : Int) := by
  have h1 : (BitVec.ofInt IntKind.u64.bits (a : Int)).toNat = a := by simp [IntKind.bits]; omega
  have h2 : (BitVec.ofInt IntKind.u64.bits (b : Int)).toNat = b := by simp [IntKind.bits]; omega
  simp only [BitVec.toNat_and, h1, h2]
  exact wrap_u64_nat (Nat.and_lt_two_pow (n := 64) a hb)
theorem bits_and_i64 {a b : Nat} (ha : a < 9223372036854775808) (hb : b < 9223372036854775808) : IntKind.i64.wrap ((BitVec.ofInt IntKind.i64.bits (a : Int) &&& BitVec.ofInt IntKind.i64.bits (b : Int)).toNat) = ((a &&& b : Nat) : Int) := by
  have h1 : (BitVec.ofInt IntKind.i64.bits (a : Int)).toNat = a := by simp [IntKind.bits]; omega
  have h2 : (BitVec.ofInt IntKind.i64.bits (b : Int)).toNat = b := by simp [IntKind.bits]; omega
  simp only [BitVec.toNat_and, h1, h2]
  have h3 : a &&& b < 2 ^ 63 := Nat.and_lt_two_pow (n := 63) a hb
  exact wrap_id (by omega) (by omega)
theorem and_one {a : Nat} (ha : a < 9223372036854775808) : IntKind.i64.wrap ((BitVec.ofInt IntKind.i64.bits (a : Int) &&& BitVec.ofInt IntKind.i64.bits 1).toNat) = ((a % 2 : Nat) : Int) := by
  have := bits_and_i64 ha (b := 1) (by decide)
  rw [Nat.and_one_is_mod] at this
  exact this
theorem bits_and32 {a b : Nat} (ha : a < 4294967296) (hb : b < 4294967296) : IntKind.u32.wrap ((BitVec.ofInt IntKind.u32.bits (a : Int) &&& BitVec.ofInt IntKind.u32.bits (b : Int)).toNat) = ((a &&& b : Nat) : Int) := by
  have h1 : (BitVec.ofInt IntKind.u32.bits (a : Int)).toNat = a := by simp [IntKind.bits]; omega
  have h2 : (BitVec.ofInt IntKind.u32.bits (b : Int)).toNat = b := by simp [IntKind.bits]; omega
  have h3 : a &&& b < 2 ^ 32 := Nat.and_lt_two_pow (n := 32) a hb
  simp only [BitVec.toNat_and, h1, h2]
  exact (u32_def _).trans (Int.emod_eq_of_lt (by omega) (by omega))
theorem bits_or32 {a b : Nat} (ha : a < 4294967296) (hb : b < 4294967296) : IntKind.u32.wrap ((BitVec.ofInt IntKind.u32.bits (a : Int) ||| BitVec.ofInt IntKind.u32.bits (b : Int)).toNat) = ((a ||| b : Nat) : Int) := by
  have h1 : (BitVec.ofInt IntKind.u32.bits (a : Int)).toNat = a := by simp [IntKind.bits]; omega
  have h2 : (BitVec.ofInt IntKind.u32.bits (b : Int)).toNat = b := by simp [IntKind.bits]; omega
  have h3 : a ||| b < 2 ^ 32 := Nat.or_lt_two_pow (n := 32) ha hb
  simp only [BitVec.toNat_or, h1, h2]
  exact (u32_def _).trans (Int.emod_eq_of_lt (by omega) (by omega))
theorem bits_xor32 {a b : Nat} (ha : a < 4294967296) (hb : b < 4294967296) : IntKind.u32.wrap ((BitVec.ofInt IntKind.u32.bits (a : Int) ^^^ BitVec.ofInt IntKind.u32.bits (b : Int)).toNat) = ((a ^^^ b : Nat) : Int) := by
  have h1 : (BitVec.ofInt IntKind.u32.bits (a : Int)).toNat = a := by simp [IntKind.bits]; omega
  have h2 : (BitVec.ofInt IntKind.u32.bits (b : Int)).toNat = b := by simp [IntKind.bits]; omega
  have h3 : a ^^^ b < 2 ^ 32 := Nat.xor_lt_two_pow (n := 32) ha hb
  simp only [BitVec.toNat_xor, h1, h2]
  exact (u32_def _).trans (Int.emod_eq_of_lt (by omega) (by omega))

/-! ### sums and differences of limbs -/
theorem add32_nat {a b c : Nat} (ha : a < 4294967296) (hb : b < 4294967296) (hc : c ≤ 1) : Ev (mbits_Add32.f (a : Int) (b : Int) (c : Int)) ((((a + b + c) % 4294967296 : Nat) : Int), (((a + b + c) / 4294967296 : Nat) : Int)) := by
  refine ev_eq mbits_Add32.f_eq (ev_now ?_)
  rw [wrap_u64_nat (n := a) (by omega), wrap_u64_nat (n := b) (by omega), wrap_u64_nat (n := c) (by omega), show (a : Int) + (b : Int) = ((a + b : Nat) : Int) by omega, wrap_u64_nat (by omega), show ((a + b : Nat) : Int) + (c : Int) = ((a + b + c : Nat) : Int) by omega, wrap_u64_nat (by omega), u32_def, u32_def, Int.fdiv_eq_ediv_of_nonneg _ (by decide)]
  congr 1
  omega
/-- the greatest bit of a limb, of an operation on limbs -/
theorem top_and (a b : Nat) : (a &&& b) / 2147483648 = (a / 2147483648) &&& (b / 2147483648) := by
  have := Nat.shiftRight_and_distrib (a := a) (b := b) (i := 31)
  rw [Nat.shiftRight_eq_div_pow, Nat.shiftRight_eq_div_pow, Nat.shiftRight_eq_div_pow] at this
  exact this
theorem top_or (a b : Nat) : (a ||| b) / 2147483648 = (a / 2147483648) ||| (b / 2147483648) := by
  have := Nat.shiftRight_or_distrib (a := a) (b := b) (i := 31)
  rw [Nat.shiftRight_eq_div_pow, Nat.shiftRight_eq_div_pow, Nat.shiftRight_eq_div_pow] at this
  exact this
theorem top_xor (a b : Nat) : (a ^^^ b) / 2147483648 = (a / 2147483648) ^^^ (b / 2147483648) := by
  have := Nat.shiftRight_xor_distrib (a := a) (b := b) (i := 31)
  rw [Nat.shiftRight_eq_div_pow, Nat.shiftRight_eq_div_pow, Nat.shiftRight_eq_div_pow] at this
  exact this
theorem sub32_nat {a b c : Nat} (ha : a < 4294967296) (hb : b < 4294967296) (hc : c ≤ 1) : Ev (mbits_Sub32.f (a : Int) (b : Int) (c : Int)) (((if a < b + c then a + 4294967296 - b - c else a - b - c : Nat) : Int), ((if a < b + c then 1 else 0 : Nat) : Int)) := by
  refine ev_eq mbits_Sub32.f_eq (ev_now ?_)
  obtain ⟨d, hd⟩ : ∃ d : Nat, d = (if a < b + c then a + 4294967296 - b - c else a - b - c) := ⟨_, rfl⟩
  have e1 : IntKind.u32.wrap (IntKind.u32.wrap ((a : Int) - (b : Int)) - (c : Int)) = (d : Int) := by rw [hd, u32_def, u32_def]; split <;> omega
  have hdl : d < 4294967296 := by rw [hd]; split <;> omega
  rw [e1, ← hd]
  have x1 := bits_xor32 (a := 4294967295) (by omega) ha
  have x2 := bits_xor32 ha hb
  have l1 : 4294967295 ^^^ a < 4294967296 := Nat.xor_lt_two_pow (n := 32) (by omega) ha
  have l2 : a ^^^ b < 4294967296 := Nat.xor_lt_two_pow (n := 32) ha hb
  have x3 := bits_xor32 (a := 4294967295) (by omega) l2
  have l3 : 4294967295 ^^^ (a ^^^ b) < 4294967296 := Nat.xor_lt_two_pow (n := 32) (by omega) l2
  have a1 := bits_and32 l1 hb
  have a2 := bits_and32 l3 hdl
  have l4 : (4294967295 ^^^ a) &&& b < 4294967296 := Nat.and_lt_two_pow (n := 32) _ hb
  have l5 : (4294967295 ^^^ (a ^^^ b)) &&& d < 4294967296 := Nat.and_lt_two_pow (n := 32) _ hdl
  have o1 := bits_or32 l4 l5
  rw [show (4294967295 : Int) = ((4294967295 : Nat) : Int) by rfl, x1, a1, x2, x3, a2, o1]
  have t : ((4294967295 ^^^ a) &&& b ||| (4294967295 ^^^ (a ^^^ b)) &&& d) / 2147483648 = if a < b + c then 1 else 0 := by
    rw [top_or, top_and, top_and, top_xor, top_xor, top_xor]
    have ta : a / 2147483648 = 0 ∨ a / 2147483648 = 1 := by omega
    have tb : b / 2147483648 = 0 ∨ b / 2147483648 = 1 := by omega
    have td : d / 2147483648 = 0 ∨ d / 2147483648 = 1 := by omega
    clear x1 x2 x3 a1 a2 o1 l1 l2 l3 l4 l5 e1
    by_cases hlt : a < b + c
    · rw [if_pos hlt] at hd ⊢
      rcases ta with ta | ta <;> rcases tb with tb | tb <;> rcases td with td | td <;> rw [ta, tb, td] <;> first | rfl | (exfalso; omega)
    · rw [if_neg hlt] at hd ⊢
      rcases ta with ta | ta <;> rcases tb with tb | tb <;> rcases td with td | td <;> rw [ta, tb, td] <;> first | rfl | (exfalso; omega)
  have t2 : (((4294967295 ^^^ a) &&& b ||| (4294967295 ^^^ (a ^^^ b)) &&& d : Nat) : Int).fdiv (2 ^ 31) = ((if a < b + c then 1 else 0 : Nat) : Int) := by rw [← t, Int.fdiv_eq_ediv_of_nonneg _ (by decide)]; omega
  rw [t2]

/-! ### comparisons -/
theorem cmpint_eq (a b : Int) : Ev (cmp_Compare_int.f a b) (if a < b then -1 else if b < a then 1 else 0) := by
  refine ev_eq cmp_Compare_int.f_eq (Ev.bind (ev_eq cmp_isNaN_int.f_eq (ev_now rfl)) (Ev.bind (ev_eq cmp_isNaN_int.f_eq (ev_now rfl)) ?_))
  refine ev_neg (by simp) (ev_neg (by simp) ?_)
  by_cases h : a < b
  · exact ev_pos h (ev_now (by rw [if_pos h]))
  · refine ev_neg h ?_
    by_cases h2 : a > b
    · exact ev_pos h2 (ev_now (by rw [if_neg h, if_pos h2]))
    · exact ev_neg h2 (ev_now (by rw [if_neg h, if_neg h2]))
theorem cmpu32_eq (a b : Int) : Ev (cmp_Compare_uint32.f a b) (if a < b then -1 else if b < a then 1 else 0) := by
  refine ev_eq cmp_Compare_uint32.f_eq (Ev.bind (ev_eq cmp_isNaN_uint32.f_eq (ev_now rfl)) (Ev.bind (ev_eq cmp_isNaN_uint32.f_eq (ev_now rfl)) ?_))
  refine ev_neg (by simp) (ev_neg (by simp) ?_)
  by_cases h : a < b
  · exact ev_pos h (ev_now (by rw [if_pos h]))
  · refine ev_neg h ?_
    by_cases h2 : a > b
    · exact ev_pos h2 (ev_now (by rw [if_neg h, if_pos h2]))
    · exact ev_neg h2 (ev_now (by rw [if_neg h, if_neg h2]))
theorem ncmp_loop (m n : Nat) (hl : ln m = ln n) (hb : ln m ≤ 1099511627776) : ∀ i, i ≤ ln m → (dg 4294967296 m).drop i = (dg 4294967296 n).drop i → Ev (nat_Cmp.l0 (L m) (L n) ((i : Int) - 1)) (cmpI m n) := by
  intro i
  induction i with
  | zero =>
    intro h1 h2
    rw [List.drop_zero, List.drop_zero] at h2
    have := dg_inj b32 h2
    subst this
    refine ev_loop nat_Cmp.l0_eq nat_Cmp.l0_step ?_
    exact ev_neg (by omega) (ev_now (by unfold cmpI; rw [if_neg (Nat.lt_irrefl _), if_neg (Nat.lt_irrefl _)]))
  | succ i ih =>
    intro h1 h2
    have e : (((i + 1 : Nat) : Int) - 1) = (i : Int) := by omega
    rw [e]
    refine ev_loop nat_Cmp.l0_eq nat_Cmp.l0_step ?_
    unfold ln at h1 hl hb
    refine ev_pos (by omega) (ev_pos (by omega) (ev_pos (by rw [L_length]; unfold ln; omega) (ev_pos (by omega) (ev_pos (by rw [L_length]; unfold ln; omega) ?_))))
    unfold L
    rw [rd_nl, rd_nl]
    have e2 := cmpu32_eq ((gd (dg 4294967296 m) i : Nat) : Int) ((gd (dg 4294967296 n) i : Nat) : Int)
    by_cases c1 : gd (dg 4294967296 m) i < gd (dg 4294967296 n) i
    · rw [if_pos (by omega)] at e2
      refine Ev.bind e2 (ev_pos (by omega) (ev_now ?_))
      have := val_cmp (by decide) (Dg_dg b32 m) (Dg_dg b32 n) hl (by omega) h2 c1
      rw [val_dg b32, val_dg b32] at this
      unfold cmpI; rw [if_pos this]
    · rw [if_neg (by omega)] at e2
      by_cases c2 : gd (dg 4294967296 n) i < gd (dg 4294967296 m) i
      · rw [if_pos (by omega)] at e2
        refine Ev.bind e2 (ev_pos (by omega) (ev_now ?_))
        have := val_cmp (by decide) (Dg_dg b32 n) (Dg_dg b32 m) hl.symm (by omega) h2.symm c2
        rw [val_dg b32, val_dg b32] at this
        unfold cmpI; rw [if_neg (by omega), if_pos this]
      · rw [if_neg (by omega)] at e2
        refine Ev.bind e2 (ev_neg (by omega) ?_)
        have h3 := ih (by unfold ln; omega) (by rw [drop_cons _ i (by omega), drop_cons _ i (by omega), h2, show gd (dg 4294967296 m) i = gd (dg 4294967296 n) i by omega])
        rw [wrap_id (by omega) (by omega)]
        exact h3
theorem ncmp {m n : Nat} (hb : ln m ≤ 1099511627776) (hb2 : ln n ≤ 1099511627776) : Ev (nat_Cmp.f (L m) (L n)) (cmpI m n) := by
  refine ev_eq nat_Cmp.f_eq ?_
  rw [L_length, L_length]
  have e2 := cmpint_eq (ln m : Int) (ln n : Int)
  by_cases c1 : ln m = ln n
  · rw [if_neg (by omega), if_neg (by omega)] at e2
    refine Ev.bind e2 (ev_neg (by omega) ?_)
    have := ncmp_loop m n c1 hb (ln m) (Nat.le_refl _) (by rw [List.drop_of_length_le (by unfold ln; omega), List.drop_of_length_le (by rw [c1]; unfold ln; omega)])
    rw [wrap_id (by omega) (by omega)]
    exact this
  · by_cases c2 : ln m < ln n
    · rw [if_pos (by omega)] at e2
      exact Ev.bind e2 (ev_pos (by omega) (ev_now (by have := len_cmp b32 c2; unfold cmpI; rw [if_pos this])))
    · rw [if_neg (by omega), if_pos (by omega)] at e2
      exact Ev.bind e2 (ev_pos (by omega) (ev_now (by have := len_cmp b32 (m := n) (n := m) (by unfold ln at *; omega); unfold cmpI; rw [if_neg (by omega), if_pos this])))

/-! ### sums -/
theorem nadd_loop (a b : List Nat) (ha : Dg 4294967296 a) (hb : Dg 4294967296 b) (w : Nat) (hw : w ≤ 1099511627776) (hla : a.length < w) (hlb : b.length < w) : ∀ (d i c : Nat) (out : List Nat), i + d = w → out.length = w → c ≤ 1 → (i = w → c = 0) → Dg 4294967296 out → val 4294967296 (out.take i) + 4294967296 ^ i * c = val 4294967296 (a.take i) + val 4294967296 (b.take i) →
    Ev (nat_Add.l0 (nl a) (nl b) [] (nl out) (c : Int) (w : Int) (i : Int)) (L (val 4294967296 a + val 4294967296 b)) := by
  intro d
  induction d with
  | zero =>
    intro i c out hi ho hc hz hdo hv
    have hcz := hz (by omega)
    subst hcz
    refine ev_loop nat_Add.l0_eq nat_Add.l0_step ?_
    refine ev_neg (by omega) ?_
    rw [List.take_of_length_le (by omega), List.take_of_length_le (by omega), List.take_of_length_le (by omega), Nat.mul_zero, Nat.add_zero] at hv
    rw [← hv]
    exact (made_val (by omega) hdo).bind (ev_now rfl)
  | succ d ih =>
    intro i c out hi ho hc hz hdo hv
    have hg := ha.gd (by decide) i
    have hg2 := hb.gd (by decide) i
    refine ev_loop nat_Add.l0_eq nat_Add.l0_step ?_
    refine ev_pos (by omega) (Ev.bind (nat_at_nl a i) (Ev.bind (nat_at_nl b i) (Ev.bind (add32_nat hg hg2 hc) (ev_pos (by omega) (ev_pos (by rw [nl_length]; omega) ?_)))))
    rw [Int.toNat_natCast, nl_set, succ_wrap (by omega)]
    refine ih (i + 1) ((gd a i + gd b i + c) / 4294967296) (out.set i ((gd a i + gd b i + c) % 4294967296)) (by omega) (by rw [List.length_set]; omega) (by omega) ?_ (hdo.set i (Nat.mod_lt _ (by decide))) ?_
    · intro h
      have hv2 := hv
      rw [gd_ge (l := a) (by omega), gd_ge (l := b) (by omega)]
      omega
    · rw [take_set_succ _ _ _ (by omega), val_snoc, List.length_take, Nat.min_eq_left (by omega), val_take_succ, val_take_succ]
      have := Nat.mod_add_div (gd a i + gd b i + c) 4294967296
      rw [Nat.pow_succ]
      grind
theorem nadd {m n : Nat} (hl : ln m ≤ 549755813888) (hl2 : ln n ≤ 549755813888) : Ev (nat_Add.f (L m) (L n)) (L (m + n)) := by
  have hx : mxI ((L m).length : Int) ((L n).length : Int) = ((max (ln m) (ln n) : Nat) : Int) := by rw [L_length, L_length]; unfold mxI; split <;> omega
  refine ev_eq nat_Add.f_eq ?_
  rw [hx, succ_wrap (by omega), Int.toNat_natCast]
  refine ev_pos (by omega) (ev_pos (by omega) ?_)
  have h := nadd_loop (dg 4294967296 m) (dg 4294967296 n) (Dg_dg b32 m) (Dg_dg b32 n) (max (ln m) (ln n) + 1) (by omega) (by unfold ln; omega) (by unfold ln; omega) (max (ln m) (ln n) + 1) 0 0 (List.replicate (max (ln m) (ln n) + 1) 0) (by omega) (by rw [List.length_replicate]) (by omega) (by omega) (Dg.replicate (by decide) _) (by simp [val])
  rw [val_dg b32, val_dg b32] at h
  rw [show List.replicate (max (ln m) (ln n) + 1) (0 : Int) = nl (List.replicate (max (ln m) (ln n) + 1) 0) from nl_replicate _ 0, nl_length, List.length_replicate]
  exact h

/-! ### differences -/
theorem nsub_loop (a b : List Nat) (ha : Dg 4294967296 a) (hb : Dg 4294967296 b) (hw : a.length ≤ 1099511627776) (hlb : b.length ≤ a.length) (hge : val 4294967296 b ≤ val 4294967296 a) : ∀ (d i c : Nat) (out : List Nat), i + d = a.length → out.length = a.length → c ≤ 1 → Dg 4294967296 out → val 4294967296 (out.take i) + val 4294967296 (b.take i) = val 4294967296 (a.take i) + 4294967296 ^ i * c →
    Ev (nat_Sub.l0 (nl a) (nl b) [] (nl out) (c : Int) (a.length : Int) (i : Int)) (L (val 4294967296 a - val 4294967296 b), true) := by
  intro d
  induction d with
  | zero =>
    intro i c out hi ho hc hdo hv
    refine ev_loop nat_Sub.l0_eq nat_Sub.l0_step ?_
    refine ev_neg (by omega) ?_
    rw [List.take_of_length_le (by omega), List.take_of_length_le (by omega), List.take_of_length_le (by omega)] at hv
    have h1 := val_lt (by decide) hdo
    rw [show i = out.length by omega] at hv
    have hcz : c = 0 := by
      rcases Nat.eq_zero_or_pos c with h | h
      · exact h
      · have : c = 1 := by omega
        rw [this, Nat.mul_one] at hv
        omega
    rw [hcz, Nat.mul_zero, Nat.add_zero] at hv
    rw [show val 4294967296 a - val 4294967296 b = val 4294967296 out by omega]
    exact (made_val (by omega) hdo).bind (ev_now rfl)
  | succ d ih =>
    intro i c out hi ho hc hdo hv
    have hg := ha.gd (by decide) i
    have hg2 := hb.gd (by decide) i
    refine ev_loop nat_Sub.l0_eq nat_Sub.l0_step ?_
    refine ev_pos (by omega) (Ev.bind (nat_at_nl a i) (Ev.bind (nat_at_nl b i) (Ev.bind (sub32_nat hg hg2 hc) (ev_pos (by omega) (ev_pos (by rw [nl_length]; omega) ?_)))))
    rw [Int.toNat_natCast, nl_set, succ_wrap (by omega)]
    refine ih (i + 1) _ (out.set i _) (by omega) (by rw [List.length_set]; omega) (by split <;> omega) (hdo.set i (by split <;> omega)) ?_
    rw [take_set_succ _ _ _ (by omega), val_snoc, List.length_take, Nat.min_eq_left (by omega), val_take_succ, val_take_succ, Nat.pow_succ]
    split
    · rename_i hlt
      have e : (gd a i + 4294967296 - gd b i - c) + gd b i + c = gd a i + 4294967296 := by omega
      have e2 : 4294967296 ^ i * (gd a i + 4294967296 - gd b i - c) + 4294967296 ^ i * gd b i + 4294967296 ^ i * c = 4294967296 ^ i * gd a i + 4294967296 ^ i * 4294967296 := by rw [← Nat.mul_add, ← Nat.mul_add, e, Nat.mul_add]
      omega
    · rename_i hlt
      have e : (gd a i - gd b i - c) + gd b i + c = gd a i := by omega
      have e2 : 4294967296 ^ i * (gd a i - gd b i - c) + 4294967296 ^ i * gd b i + 4294967296 ^ i * c = 4294967296 ^ i * gd a i := by rw [← Nat.mul_add, ← Nat.mul_add, e]
      omega
theorem nsub_ge {m n : Nat} (hl : ln m ≤ 549755813888) (h : n ≤ m) : Ev (nat_Sub.f (L m) (L n)) (L (m - n), true) := by
  refine ev_eq nat_Sub.f_eq ?_
  have hle : ln n ≤ ln m := dg_len_mono b32 h
  refine (ncmp (by omega) (by omega)).bind ?_
  refine ev_neg (by unfold cmpI; rw [if_neg (by omega)]; split <;> omega) (ev_pos (by omega) (ev_pos (by rw [L_length]; omega) ?_))
  have hh := nsub_loop (dg 4294967296 m) (dg 4294967296 n) (Dg_dg b32 m) (Dg_dg b32 n) (by unfold ln at hl; omega) (by unfold ln at hle; exact hle) (by rw [val_dg b32, val_dg b32]; exact h) (ln m) 0 0 (List.replicate (ln m) 0) (by unfold ln; omega) (by rw [List.length_replicate]; rfl) (by omega) (Dg.replicate (by decide) _) (by simp [val])
  rw [val_dg b32, val_dg b32] at hh
  rw [L_length, Int.toNat_natCast, show List.replicate (ln m) (0 : Int) = nl (List.replicate (ln m) 0) from nl_replicate _ 0, nl_length, List.length_replicate]
  exact hh
theorem nsub_lt {m n : Nat} (hl : ln n ≤ 549755813888) (h : m < n) : Ev (nat_Sub.f (L m) (L n)) ([], false) := by
  refine ev_eq nat_Sub.f_eq ?_
  have hle : ln m ≤ ln n := dg_len_mono b32 (Nat.le_of_lt h)
  refine (ncmp (by omega) (by omega)).bind ?_
  exact ev_pos (by unfold cmpI; rw [if_pos h]; omega) (ev_now rfl)
end Go.Proofs.Yteidggfjcanbjaa.F
