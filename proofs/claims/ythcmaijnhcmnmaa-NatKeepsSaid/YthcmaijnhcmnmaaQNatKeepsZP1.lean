/- Natural numbers of the program and of the document: what each call comes to. -/
import Derived.Test.YthcmaijnhcmnmaaQNatKeepsC
import Derived.Test.YthcmaijnhcmnmaaQNatKeepsN0
namespace Go.Proofs.Ythcmaijnhcmnmaa.F
open Go Go.Proofs.Ythcmaijnhcmnmaa.E
set_option linter.unusedVariables false
set_option linter.unusedSimpArgs false

/-- A number's limbs, and its decimals. -/
def L (n : Nat) : List Int := nl (dg 4294967296 n)
def D (n : Nat) : List Int := nl (dg 10 n)
theorem b32 : 2 ≤ 4294967296 := by decide
theorem b10 : 2 ≤ 10 := by decide
def ln (n : Nat) : Nat := (dg 4294967296 n).length
def dn (n : Nat) : Nat := (dg 10 n).length
theorem L_length (n : Nat) : (L n).length = ln n := nl_length _
theorem D_length (n : Nat) : (D n).length = dn n := nl_length _

theorem pred_wrap {n : Nat} (h : n ≤ 4611686018427387904) : IntKind.i64.wrap (((n + 1 : Nat) : Int) - 1) = (n : Int) := by rw [wrap_id] <;> omega
theorem succ_wrap {n : Nat} (h : n ≤ 4611686018427387904) : IntKind.i64.wrap ((n : Int) + 1) = ((n + 1 : Nat) : Int) := by rw [wrap_id] <;> omega
theorem zero_pred : IntKind.i64.wrap (((0 : Nat) : Int) - 1) = -1 := by rw [wrap_id] <;> omega

theorem clone_nl {l : List Int} (h : l.length ≤ 1099511627776) : Ev (slices_Clone_uint32_uint32.f l) l :=
  ev_eq slices_Clone_uint32_uint32.f_eq (ev_nq (fun h => ev_now h.symm) (ev_pos (by simp; omega) (ev_now (List.nil_append _))))
theorem limbs_nl {l : List Int} (h : l.length ≤ 1099511627776) : Ev (nat_Nat_Limbs.f l) l := ev_eq nat_Nat_Limbs.f_eq (Ev.bind (clone_nl h) (ev_now rfl))

theorem made_loop {l : List Nat} (hl : l.length ≤ 1099511627776) : ∀ n, n ≤ l.length → (∀ i, n ≤ i → gd l i = 0) → Ev (nat_Made.l0 (nl l) [] (n : Int)) (nl (trim l)) := by
  intro n
  have fin : ∀ n, n ≤ l.length → (n = 0 ∨ gd l (n - 1) ≠ 0) → (∀ i, n ≤ i → gd l i = 0) → Ev (slices_Clone_uint32_uint32.f ((nl l).take ((n : Int)).toNat)) (nl (trim l)) := by
    intro n hn h1 h2
    rw [Int.toNat_natCast, nl_take, trim_take hn h1 h2]
    exact clone_nl (by rw [nl_length, List.length_take]; omega)
  induction n with
  | zero =>
    intro hn hz
    refine ev_loop nat_Made.l0_eq nat_Made.l0_step ?_
    refine ev_neg (by omega) (ev_pos (by omega) (ev_pos (by rw [nl_length]; omega) (Ev.bind (fin 0 hn (.inl rfl) hz) (ev_now rfl))))
  | succ n ih =>
    intro hn hz
    refine ev_loop nat_Made.l0_eq nat_Made.l0_step ?_
    rw [pred_wrap (by omega)]
    refine ev_pos (by omega) (ev_pos (by omega) (ev_pos (by rw [nl_length]; omega) ?_))
    by_cases h0 : gd l n = 0
    · refine ev_pos (by rw [rd_nl, h0]; rfl) (ih (by omega) fun i hi => ?_)
      rcases Nat.lt_or_eq_of_le hi with h | rfl
      · exact hz i h
      · exact h0
    · refine ev_neg (by rw [rd_nl]; omega) (ev_pos (by omega) (ev_pos (by rw [nl_length]; omega) (Ev.bind (fin (n + 1) hn (.inr (by simpa using h0)) hz) (ev_now rfl))))
theorem made_nl {l : List Nat} (hl : l.length ≤ 1099511627776) : Ev (nat_Made.f (nl l)) (nl (trim l)) := by
  have := made_loop hl l.length (Nat.le_refl _) (fun i hi => gd_ge hi)
  refine ev_eq nat_Made.f_eq ?_
  rw [nl_length]
  exact this
theorem made_val {l : List Nat} (hl : l.length ≤ 1099511627776) (h : Dg 4294967296 l) : Ev (nat_Made.f (nl l)) (L (val 4294967296 l)) := by
  unfold L; rw [dg_val b32 h]; exact made_nl hl

/-- of up to 64 bits. -/
theorem of_val {n : Nat} (hn : n < 18446744073709551616) : Ev (nat_Of.f (n : Int)) (L n) := by
  have h : Dg 4294967296 [n % 4294967296, n / 4294967296] := Dg.cons (Nat.mod_lt _ (by decide)) (Dg.cons (by omega) (Dg.nil _))
  have h1 := made_val (l := [n % 4294967296, n / 4294967296]) (by simp) h
  have h2 : val 4294967296 [n % 4294967296, n / 4294967296] = n := by simp only [val]; omega
  rw [h2] at h1
  refine ev_eq nat_Of.f_eq ?_
  have h3 : ([IntKind.u32.wrap (n : Int), IntKind.u32.wrap ((n : Int).fdiv (2 ^ 32))] : List Int) = nl [n % 4294967296, n / 4294967296] := by
    rw [nl_cons, nl_cons, nl_nil, u32_def, u32_def, Int.fdiv_eq_ediv_of_nonneg _ (by decide)]
    congr 2
    omega
  rw [h3]
  exact h1.bind (ev_now rfl)

/-! ### the document's -/
theorem nat_at_nl (l : List Nat) (i : Nat) : Ev (nat_Nat_at.f (nl l) (i : Int)) ((gd l i : Nat) : Int) := by
  refine ev_eq nat_Nat_at.f_eq ?_
  by_cases h : i < l.length
  · (repeat (first | refine ev_pos (by (try simp only [nl_length, L_length, D_length, rd_nl, getD_nl, List.length_append, List.length_cons, List.length_nil, List.length_set, List.length_replicate, List.length_take, List.length_drop, Nat.zero_add, ge_iff_le, gt_iff_lt]); omega) ?_ | refine ev_neg (by (try simp only [nl_length, L_length, D_length, rd_nl, getD_nl, List.length_append, List.length_cons, List.length_nil, List.length_set, List.length_replicate, List.length_take, List.length_drop, Nat.zero_add, ge_iff_le, gt_iff_lt]); omega) ?_))
    exact ev_now (rd_nl _ _)
  · (repeat (first | refine ev_pos (by (try simp only [nl_length, L_length, D_length, rd_nl, getD_nl, List.length_append, List.length_cons, List.length_nil, List.length_set, List.length_replicate, List.length_take, List.length_drop, Nat.zero_add, ge_iff_le, gt_iff_lt]); omega) ?_ | refine ev_neg (by (try simp only [nl_length, L_length, D_length, rd_nl, getD_nl, List.length_append, List.length_cons, List.length_nil, List.length_set, List.length_replicate, List.length_take, List.length_drop, Nat.zero_add, ge_iff_le, gt_iff_lt]); omega) ?_))
    exact ev_now (by rw [gd_ge (by omega)]; rfl)

/-! times a small number -/
/-! the sum -/
/-! which is greater -/
def cmpI (m n : Nat) : Int := if m < n then -1 else if n < m then 1 else 0
end Go.Proofs.Ythcmaijnhcmnmaa.F

/- The program's natural numbers: bits, comparisons, sums, differences, products, powers. -/
namespace Go.Proofs.Ythcmaijnhcmnmaa.F
open Go Go.Proofs.Ythcmaijnhcmnmaa.E
set_option linter.unusedVariables false
set_option linter.unusedSimpArgs false

/-! ### bit operations -/
theorem wrap_u64_nat {n : Nat} (h : n < 18446744073709551616) : IntKind.u64.wrap (n : Int) = (n : Int) := u64_id (by omega) (by omega)
theorem bits_or64 {a b : Nat} (ha : a < 18446744073709551616) (hb : b < 18446744073709551616) : IntKind.u64.wrap ((BitVec.ofInt IntKind.u64.bits (a : Int) ||| BitVec.ofInt IntKind.u64.bits (b : Int)).toNat) = ((a ||| b : Nat) : Int) := by
  have h1 : (BitVec.ofInt IntKind.u64.bits (a : Int)).toNat = a := by simp [IntKind.bits]; omega
  have h2 : (BitVec.ofInt IntKind.u64.bits (b : Int)).toNat = b := by simp [IntKind.bits]; omega
  simp only [BitVec.toNat_or, h1, h2]
  exact wrap_u64_nat (Nat.or_lt_two_pow (n := 64) ha hb)
theorem bits_and64 {a b : Nat} (ha : a < 18446744073709551616) (hb : b < 18446744073709551616) : IntKind.u64.wrap ((BitVec.ofInt IntKind.u64.bits (a : Int) &&& BitVec.ofInt IntKind.u64.bits (b : Int)).toNat) = ((a &&& b : Nat) : Int) := by
  have h1 : (BitVec.ofInt IntKind.u64.bits (a : Int)).toNat = a := by simp [IntKind.bits]; omega
  have h2 : (BitVec.ofInt IntKind.u64.bits (b : Int)).toNat = b := by simp [IntKind.bits]; omega
  simp only [BitVec.toNat_and, h1, h2]
  exact wrap_u64_nat (Nat.and_lt_two_pow (n := 64) a hb)
theorem bits_and_i64 {a b : Nat} (ha : a < 9223372036854775808) (hb : b < 9223372036854775808) : IntKind.i64.wrap ((BitVec.ofInt IntKind.i64.bits (a : Int) &&& BitVec.ofInt IntKind.i64.bits (b : Int)).toNat) = ((a &&& b : Nat) : Int) := by
  have h1 : (BitVec.ofInt IntKind.i64.bits (a : Int)).toNat = a := by simp [IntKind.bits]; omega
  have h2 : (BitVec.ofInt IntKind.i64.bits (b : Int)).toNat = b := by simp [IntKind.bits]; omega
  simp only [BitVec.toNat_and, h1, h2]
  have h3 : a &&& b < 2 ^ 63 := Nat.and_lt_two_pow (n := 63) a hb
  exact wrap_id (by omega) (by omega)
theorem and_one {a : Nat} (ha : a < 9223372036854775808) : IntKind.i64.wrap ((BitVec.ofInt IntKind.i64.bits (a : Int) &&& BitVec.ofInt IntKind.i64.bits 1).toNat) = ((a % 2 : Nat) : Int) := by
  have := bits_and_i64 ha (b := 1) (by decide)
  rw [Nat.and_one_is_mod] at this
  exact this
theorem bits_and32 {a b : Nat} (ha : a < 4294967296) (hb : b < 4294967296) : IntKind.u32.wrap ((BitVec.ofInt IntKind.u32.bits (a : Int) &&& BitVec.ofInt IntKind.u32.bits (b : Int)).toNat) = ((a &&& b : Nat) : Int) := by
  have h1 : (BitVec.ofInt IntKind.u32.bits (a : Int)).toNat = a := by simp [IntKind.bits]; omega
  have h2 : (BitVec.ofInt IntKind.u32.bits (b : Int)).toNat = b := by simp [IntKind.bits]; omega
  have h3 : a &&& b < 2 ^ 32 := Nat.and_lt_two_pow (n := 32) a hb
  simp only [BitVec.toNat_and, h1, h2]
  exact (u32_def _).trans (Int.emod_eq_of_lt (by omega) (by omega))
theorem bits_or32 {a b : Nat} (ha : a < 4294967296) (hb : b < 4294967296) : IntKind.u32.wrap ((BitVec.ofInt IntKind.u32.bits (a : Int) ||| BitVec.ofInt IntKind.u32.bits (b : Int)).toNat) = ((a ||| b : Nat) : Int) := by
  have h1 : (BitVec.ofInt IntKind.u32.bits (a : Int)).toNat = a := by simp [IntKind.bits]; omega
  have h2 : (BitVec.ofInt IntKind.u32.bits (b : Int)).toNat = b := by simp [IntKind.bits]; omega
  have h3 : a ||| b < 2 ^ 32 := Nat.or_lt_two_pow (n := 32) ha hb
  simp only [BitVec.toNat_or, h1, h2]
  exact (u32_def _).trans (Int.emod_eq_of_lt (by omega) (by omega))
theorem bits_xor32 {a b : Nat} (ha : a < 4294967296) (hb : b < 4294967296) : IntKind.u32.wrap ((BitVec.ofInt IntKind.u32.bits (a : Int) ^^^ BitVec.ofInt IntKind.u32.bits (b : Int)).toNat) = ((a ^^^ b : Nat) : Int) := by
  have h1 : (BitVec.ofInt IntKind.u32.bits (a : Int)).toNat = a := by simp [IntKind.bits]; omega
  have h2 : (BitVec.ofInt IntKind.u32.bits (b : Int)).toNat = b := by simp [IntKind.bits]; omega
  have h3 : a ^^^ b < 2 ^ 32 := Nat.xor_lt_two_pow (n := 32) ha hb
  simp only [BitVec.toNat_xor, h1, h2]
  exact (u32_def _).trans (Int.emod_eq_of_lt (by omega) (by omega))

/-! ### sums and differences of limbs -/
theorem add32_nat {a b c : Nat} (ha : a < 4294967296) (hb : b < 4294967296) (hc : c ≤ 1) : Ev (mbits_Add32.f (a : Int) (b : Int) (c : Int)) ((((a + b + c) % 4294967296 : Nat) : Int), (((a + b + c) / 4294967296 : Nat) : Int)) := by
  refine ev_eq mbits_Add32.f_eq (ev_now ?_)
  rw [wrap_u64_nat (n := a) (by omega), wrap_u64_nat (n := b) (by omega), wrap_u64_nat (n := c) (by omega), show (a : Int) + (b : Int) = ((a + b : Nat) : Int) by omega, wrap_u64_nat (by omega), show ((a + b : Nat) : Int) + (c : Int) = ((a + b + c : Nat) : Int) by omega, wrap_u64_nat (by omega), u32_def, u32_def, Int.fdiv_eq_ediv_of_nonneg _ (by decide)]
  congr 1
  omega
/-- the greatest bit of a limb, of an operation on limbs -/
theorem top_and (a b : Nat) : (a &&& b) / 2147483648 = (a / 2147483648) &&& (b / 2147483648) := by
  have := Nat.shiftRight_and_distrib (a := a) (b := b) (i := 31)
  rw [Nat.shiftRight_eq_div_pow, Nat.shiftRight_eq_div_pow, Nat.shiftRight_eq_div_pow] at this
  exact this
theorem top_or (a b : Nat) : (a ||| b) / 2147483648 = (a / 2147483648) ||| (b / 2147483648) := by
  have := Nat.shiftRight_or_distrib (a := a) (b := b) (i := 31)
  rw [Nat.shiftRight_eq_div_pow, Nat.shiftRight_eq_div_pow, Nat.shiftRight_eq_div_pow] at this
  exact this
theorem top_xor (a b : Nat) : (a ^^^ b) / 2147483648 = (a / 2147483648) ^^^ (b / 2147483648) := by
  have := Nat.shiftRight_xor_distrib (a := a) (b := b) (i := 31)
  rw [Nat.shiftRight_eq_div_pow, Nat.shiftRight_eq_div_pow, Nat.shiftRight_eq_div_pow] at this
  exact this
theorem sub32_nat {a b c : Nat} (ha : a < 4294967296) (hb : b < 4294967296) (hc : c ≤ 1) : Ev (mbits_Sub32.f (a : Int) (b : Int) (c : Int)) (((if a < b + c then a + 4294967296 - b - c else a - b - c : Nat) : Int), ((if a < b + c then 1 else 0 : Nat) : Int)) := by
  refine ev_eq mbits_Sub32.f_eq (ev_now ?_)
  obtain ⟨d, hd⟩ : ∃ d : Nat, d = (if a < b + c then a + 4294967296 - b - c else a - b - c) := ⟨_, rfl⟩
  have e1 : IntKind.u32.wrap (IntKind.u32.wrap ((a : Int) - (b : Int)) - (c : Int)) = (d : Int) := by rw [hd, u32_def, u32_def]; split <;> omega
  have hdl : d < 4294967296 := by rw [hd]; split <;> omega
  rw [e1, ← hd]
  have x1 := bits_xor32 (a := 4294967295) (by omega) ha
  have x2 := bits_xor32 ha hb
  have l1 : 4294967295 ^^^ a < 4294967296 := Nat.xor_lt_two_pow (n := 32) (by omega) ha
  have l2 : a ^^^ b < 4294967296 := Nat.xor_lt_two_pow (n := 32) ha hb
  have x3 := bits_xor32 (a := 4294967295) (by omega) l2
  have l3 : 4294967295 ^^^ (a ^^^ b) < 4294967296 := Nat.xor_lt_two_pow (n := 32) (by omega) l2
  have a1 := bits_and32 l1 hb
  have a2 := bits_and32 l3 hdl
  have l4 : (4294967295 ^^^ a) &&& b < 4294967296 := Nat.and_lt_two_pow (n := 32) _ hb
  have l5 : (4294967295 ^^^ (a ^^^ b)) &&& d < 4294967296 := Nat.and_lt_two_pow (n := 32) _ hdl
  have o1 := bits_or32 l4 l5
  rw [show (4294967295 : Int) = ((4294967295 : Nat) : Int) by rfl, x1, a1, x2, x3, a2, o1]
  have t : ((4294967295 ^^^ a) &&& b ||| (4294967295 ^^^ (a ^^^ b)) &&& d) / 2147483648 = if a < b + c then 1 else 0 := by
    rw [top_or, top_and, top_and, top_xor, top_xor, top_xor]
    have ta : a / 2147483648 = 0 ∨ a / 2147483648 = 1 := by omega
    have tb : b / 2147483648 = 0 ∨ b / 2147483648 = 1 := by omega
    have td : d / 2147483648 = 0 ∨ d / 2147483648 = 1 := by omega
    clear x1 x2 x3 a1 a2 o1 l1 l2 l3 l4 l5 e1
    by_cases hlt : a < b + c
    · rw [if_pos hlt] at hd ⊢
      rcases ta with ta | ta <;> rcases tb with tb | tb <;> rcases td with td | td <;> rw [ta, tb, td] <;> first | rfl | (exfalso; omega)
    · rw [if_neg hlt] at hd ⊢
      rcases ta with ta | ta <;> rcases tb with tb | tb <;> rcases td with td | td <;> rw [ta, tb, td] <;> first | rfl | (exfalso; omega)
  have t2 : (((4294967295 ^^^ a) &&& b ||| (4294967295 ^^^ (a ^^^ b)) &&& d : Nat) : Int).fdiv (2 ^ 31) = ((if a < b + c then 1 else 0 : Nat) : Int) := by rw [← t, Int.fdiv_eq_ediv_of_nonneg _ (by decide)]; omega
  rw [t2]

/-! ### comparisons -/
theorem cmpint_eq (a b : Int) : Ev (cmp_Compare_int.f a b) (if a < b then -1 else if b < a then 1 else 0) := by
  refine ev_eq cmp_Compare_int.f_eq (Ev.bind (ev_eq cmp_isNaN_int.f_eq (ev_now rfl)) (Ev.bind (ev_eq cmp_isNaN_int.f_eq (ev_now rfl)) ?_))
  refine ev_neg (by simp) (ev_neg (by simp) ?_)
  by_cases h : a < b
  · exact ev_pos h (ev_now (by rw [if_pos h]))
  · refine ev_neg h ?_
    by_cases h2 : a > b
    · exact ev_pos h2 (ev_now (by rw [if_neg h, if_pos h2]))
    · exact ev_neg h2 (ev_now (by rw [if_neg h, if_neg h2]))
theorem cmpu32_eq (a b : Int) : Ev (cmp_Compare_uint32.f a b) (if a < b then -1 else if b < a then 1 else 0) := by
  refine ev_eq cmp_Compare_uint32.f_eq (Ev.bind (ev_eq cmp_isNaN_uint32.f_eq (ev_now rfl)) (Ev.bind (ev_eq cmp_isNaN_uint32.f_eq (ev_now rfl)) ?_))
  refine ev_neg (by simp) (ev_neg (by simp) ?_)
  by_cases h : a < b
  · exact ev_pos h (ev_now (by rw [if_pos h]))
  · refine ev_neg h ?_
    by_cases h2 : a > b
    · exact ev_pos h2 (ev_now (by rw [if_neg h, if_pos h2]))
    · exact ev_neg h2 (ev_now (by rw [if_neg h, if_neg h2]))
theorem ncmp_loop (m n : Nat) (hl : ln m = ln n) (hb : ln m ≤ 1099511627776) : ∀ i, i ≤ ln m → (dg 4294967296 m).drop i = (dg 4294967296 n).drop i → Ev (nat_Cmp.l0 (L m) (L n) ((i : Int) - 1)) (cmpI m n) := by
  intro i
  induction i with
  | zero =>
    intro h1 h2
    rw [List.drop_zero, List.drop_zero] at h2
    have := dg_inj b32 h2
    subst this
    refine ev_loop nat_Cmp.l0_eq nat_Cmp.l0_step ?_
    exact ev_neg (by omega) (ev_now (by unfold cmpI; rw [if_neg (Nat.lt_irrefl _), if_neg (Nat.lt_irrefl _)]))
  | succ i ih =>
    intro h1 h2
    have e : (((i + 1 : Nat) : Int) - 1) = (i : Int) := by omega
    rw [e]
    refine ev_loop nat_Cmp.l0_eq nat_Cmp.l0_step ?_
    unfold ln at h1 hl hb
    refine ev_pos (by omega) (ev_pos (by omega) (ev_pos (by rw [L_length]; unfold ln; omega) (ev_pos (by omega) (ev_pos (by rw [L_length]; unfold ln; omega) ?_))))
    unfold L
    rw [rd_nl, rd_nl]
    have e2 := cmpu32_eq ((gd (dg 4294967296 m) i : Nat) : Int) ((gd (dg 4294967296 n) i : Nat) : Int)
    by_cases c1 : gd (dg 4294967296 m) i < gd (dg 4294967296 n) i
    · rw [if_pos (by omega)] at e2
      refine Ev.bind e2 (ev_pos (by omega) (ev_now ?_))
      have := val_cmp (by decide) (Dg_dg b32 m) (Dg_dg b32 n) hl (by omega) h2 c1
      rw [val_dg b32, val_dg b32] at this
      unfold cmpI; rw [if_pos this]
    · rw [if_neg (by omega)] at e2
      by_cases c2 : gd (dg 4294967296 n) i < gd (dg 4294967296 m) i
      · rw [if_pos (by omega)] at e2
        refine Ev.bind e2 (ev_pos (by omega) (ev_now ?_))
        have := val_cmp (by decide) (Dg_dg b32 n) (Dg_dg b32 m) hl.symm (by omega) h2.symm c2
        rw [val_dg b32, val_dg b32] at this
        unfold cmpI; rw [if_neg (by omega), if_pos this]
      · rw [if_neg (by omega)] at e2
        refine Ev.bind e2 (ev_neg (by omega) ?_)
        have h3 := ih (by unfold ln; omega) (by rw [drop_cons _ i (by omega), drop_cons _ i (by omega), h2, show gd (dg 4294967296 m) i = gd (dg 4294967296 n) i by omega])
        rw [wrap_id (by omega) (by omega)]
        exact h3
theorem ncmp {m n : Nat} (hb : ln m ≤ 1099511627776) (hb2 : ln n ≤ 1099511627776) : Ev (nat_Cmp.f (L m) (L n)) (cmpI m n) := by
  refine ev_eq nat_Cmp.f_eq ?_
  rw [L_length, L_length]
  have e2 := cmpint_eq (ln m : Int) (ln n : Int)
  by_cases c1 : ln m = ln n
  · rw [if_neg (by omega), if_neg (by omega)] at e2
    refine Ev.bind e2 (ev_neg (by omega) ?_)
    have := ncmp_loop m n c1 hb (ln m) (Nat.le_refl _) (by rw [List.drop_of_length_le (by unfold ln; omega), List.drop_of_length_le (by rw [c1]; unfold ln; omega)])
    rw [wrap_id (by omega) (by omega)]
    exact this
  · by_cases c2 : ln m < ln n
    · rw [if_pos (by omega)] at e2
      exact Ev.bind e2 (ev_pos (by omega) (ev_now (by have := len_cmp b32 c2; unfold cmpI; rw [if_pos this])))
    · rw [if_neg (by omega), if_pos (by omega)] at e2
      exact Ev.bind e2 (ev_pos (by omega) (ev_now (by have := len_cmp b32 (m := n) (n := m) (by unfold ln at *; omega); unfold cmpI; rw [if_neg (by omega), if_pos this])))

/-! ### sums -/
theorem nadd_loop (a b : List Nat) (ha : Dg 4294967296 a) (hb : Dg 4294967296 b) (w : Nat) (hw : w ≤ 1099511627776) (hla : a.length < w) (hlb : b.length < w) : ∀ (d i c : Nat) (out : List Nat), i + d = w → out.length = w → c ≤ 1 → (i = w → c = 0) → Dg 4294967296 out → val 4294967296 (out.take i) + 4294967296 ^ i * c = val 4294967296 (a.take i) + val 4294967296 (b.take i) →
    Ev (nat_Add.l0 (nl a) (nl b) [] (nl out) (c : Int) (w : Int) (i : Int)) (L (val 4294967296 a + val 4294967296 b)) := by
  intro d
  induction d with
  | zero =>
    intro i c out hi ho hc hz hdo hv
    have hcz := hz (by omega)
    subst hcz
    refine ev_loop nat_Add.l0_eq nat_Add.l0_step ?_
    refine ev_neg (by omega) ?_
    rw [List.take_of_length_le (by omega), List.take_of_length_le (by omega), List.take_of_length_le (by omega), Nat.mul_zero, Nat.add_zero] at hv
    rw [← hv]
    exact (made_val (by omega) hdo).bind (ev_now rfl)
  | succ d ih =>
    intro i c out hi ho hc hz hdo hv
    have hg := ha.gd (by decide) i
    have hg2 := hb.gd (by decide) i
    refine ev_loop nat_Add.l0_eq nat_Add.l0_step ?_
    refine ev_pos (by omega) (Ev.bind (nat_at_nl a i) (Ev.bind (nat_at_nl b i) (Ev.bind (add32_nat hg hg2 hc) (ev_pos (by omega) (ev_pos (by rw [nl_length]; omega) ?_)))))
    rw [Int.toNat_natCast, nl_set, succ_wrap (by omega)]
    refine ih (i + 1) ((gd a i + gd b i + c) / 4294967296) (out.set i ((gd a i + gd b i + c) % 4294967296)) (by omega) (by rw [List.length_set]; omega) (by omega) ?_ (hdo.set i (Nat.mod_lt _ (by decide))) ?_
    · intro h
      have hv2 := hv
      rw [gd_ge (l := a) (by omega), gd_ge (l := b) (by omega)]
      omega
    · rw [take_set_succ _ _ _ (by omega), val_snoc, List.length_take, Nat.min_eq_left (by omega), val_take_succ, val_take_succ]
      have := Nat.mod_add_div (gd a i + gd b i + c) 4294967296
      rw [Nat.pow_succ]
      grind
theorem nadd {m n : Nat} (hl : ln m ≤ 549755813888) (hl2 : ln n ≤ 549755813888) : Ev (nat_Add.f (L m) (L n)) (L (m + n)) := by
  have hx : mxI ((L m).length : Int) ((L n).length : Int) = ((max (ln m) (ln n) : Nat) : Int) := by rw [L_length, L_length]; unfold mxI; split <;> omega
  refine ev_eq nat_Add.f_eq ?_
  rw [hx, succ_wrap (by omega), Int.toNat_natCast]
  refine ev_pos (by omega) (ev_pos (by omega) ?_)
  have h := nadd_loop (dg 4294967296 m) (dg 4294967296 n) (Dg_dg b32 m) (Dg_dg b32 n) (max (ln m) (ln n) + 1) (by omega) (by unfold ln; omega) (by unfold ln; omega) (max (ln m) (ln n) + 1) 0 0 (List.replicate (max (ln m) (ln n) + 1) 0) (by omega) (by rw [List.length_replicate]) (by omega) (by omega) (Dg.replicate (by decide) _) (by simp [val])
  rw [val_dg b32, val_dg b32] at h
  rw [show List.replicate (max (ln m) (ln n) + 1) (0 : Int) = nl (List.replicate (max (ln m) (ln n) + 1) 0) from nl_replicate _ 0, nl_length, List.length_replicate]
  exact h

/-! ### differences -/
theorem nsub_loop (a b : List Nat) (ha : Dg 4294967296 a) (hb : Dg 4294967296 b) (hw : a.length ≤ 1099511627776) (hlb : b.length ≤ a.length) (hge : val 4294967296 b ≤ val 4294967296 a) : ∀ (d i c : Nat) (out : List Nat), i + d = a.length → out.length = a.length → c ≤ 1 → Dg 4294967296 out → val 4294967296 (out.take i) + val 4294967296 (b.take i) = val 4294967296 (a.take i) + 4294967296 ^ i * c →
    Ev (nat_Sub.l0 (nl a) (nl b) [] (nl out) (c : Int) (a.length : Int) (i : Int)) (L (val 4294967296 a - val 4294967296 b), true) := by
  intro d
  induction d with
  | zero =>
    intro i c out hi ho hc hdo hv
    refine ev_loop nat_Sub.l0_eq nat_Sub.l0_step ?_
    refine ev_neg (by omega) ?_
    rw [List.take_of_length_le (by omega), List.take_of_length_le (by omega), List.take_of_length_le (by omega)] at hv
    have h1 := val_lt (by decide) hdo
    rw [show i = out.length by omega] at hv
    have hcz : c = 0 := by
      rcases Nat.eq_zero_or_pos c with h | h
      · exact h
      · have : c = 1 := by omega
        rw [this, Nat.mul_one] at hv
        omega
    rw [hcz, Nat.mul_zero, Nat.add_zero] at hv
    rw [show val 4294967296 a - val 4294967296 b = val 4294967296 out by omega]
    exact (made_val (by omega) hdo).bind (ev_now rfl)
  | succ d ih =>
    intro i c out hi ho hc hdo hv
    have hg := ha.gd (by decide) i
    have hg2 := hb.gd (by decide) i
    refine ev_loop nat_Sub.l0_eq nat_Sub.l0_step ?_
    refine ev_pos (by omega) (Ev.bind (nat_at_nl a i) (Ev.bind (nat_at_nl b i) (Ev.bind (sub32_nat hg hg2 hc) (ev_pos (by omega) (ev_pos (by rw [nl_length]; omega) ?_)))))
    rw [Int.toNat_natCast, nl_set, succ_wrap (by omega)]
    refine ih (i + 1) _ (out.set i _) (by omega) (by rw [List.length_set]; omega) (by split <;> omega) (hdo.set i (by split <;> omega)) ?_
    rw [take_set_succ _ _ _ (by omega), val_snoc, List.length_take, Nat.min_eq_left (by omega), val_take_succ, val_take_succ, Nat.pow_succ]
    split
    · rename_i hlt
      have e : (gd a i + 4294967296 - gd b i - c) + gd b i + c = gd a i + 4294967296 := by omega
      have e2 : 4294967296 ^ i * (gd a i + 4294967296 - gd b i - c) + 4294967296 ^ i * gd b i + 4294967296 ^ i * c = 4294967296 ^ i * gd a i + 4294967296 ^ i * 4294967296 := by rw [← Nat.mul_add, ← Nat.mul_add, e, Nat.mul_add]
      omega
    · rename_i hlt
      have e : (gd a i - gd b i - c) + gd b i + c = gd a i := by omega
      have e2 : 4294967296 ^ i * (gd a i - gd b i - c) + 4294967296 ^ i * gd b i + 4294967296 ^ i * c = 4294967296 ^ i * gd a i := by rw [← Nat.mul_add, ← Nat.mul_add, e]
      omega
theorem nsub_ge {m n : Nat} (hl : ln m ≤ 549755813888) (h : n ≤ m) : Ev (nat_Sub.f (L m) (L n)) (L (m - n), true) := by
  refine ev_eq nat_Sub.f_eq ?_
  have hle : ln n ≤ ln m := dg_len_mono b32 h
  refine (ncmp (by omega) (by omega)).bind ?_
  refine ev_neg (by unfold cmpI; rw [if_neg (by omega)]; split <;> omega) (ev_pos (by omega) (ev_pos (by rw [L_length]; omega) ?_))
  have hh := nsub_loop (dg 4294967296 m) (dg 4294967296 n) (Dg_dg b32 m) (Dg_dg b32 n) (by unfold ln at hl; omega) (by unfold ln at hle; exact hle) (by rw [val_dg b32, val_dg b32]; exact h) (ln m) 0 0 (List.replicate (ln m) 0) (by unfold ln; omega) (by rw [List.length_replicate]; rfl) (by omega) (Dg.replicate (by decide) _) (by simp [val])
  rw [val_dg b32, val_dg b32] at hh
  rw [L_length, Int.toNat_natCast, show List.replicate (ln m) (0 : Int) = nl (List.replicate (ln m) 0) from nl_replicate _ 0, nl_length, List.length_replicate]
  exact hh
theorem nsub_lt {m n : Nat} (hl : ln n ≤ 549755813888) (h : m < n) : Ev (nat_Sub.f (L m) (L n)) ([], false) := by
  refine ev_eq nat_Sub.f_eq ?_
  have hle : ln m ≤ ln n := dg_len_mono b32 (Nat.le_of_lt h)
  refine (ncmp (by omega) (by omega)).bind ?_
  exact ev_pos (by unfold cmpI; rw [if_pos h]; omega) (ev_now rfl)
end Go.Proofs.Ythcmaijnhcmnmaa.F

/- Products, powers, bits, small values; the document's differences, products and numbers of limbs. -/
namespace Go.Proofs.Ythcmaijnhcmnmaa.F
open Go Go.Proofs.Ythcmaijnhcmnmaa.E
set_option linter.unusedVariables false
set_option linter.unusedSimpArgs false

/-! ### the document's difference -/
/-! ### how long decimals are -/
theorem dn_le_ln (n : Nat) : dn n ≤ 10 * ln n := by
  refine (dg_len b10 n _).mpr ?_
  have h := dg_lt b32 n
  have h2 : 4294967296 ^ ln n ≤ 10 ^ (10 * ln n) := by rw [Nat.pow_mul]; exact Nat.pow_le_pow_left (by decide) _
  exact Nat.lt_of_lt_of_le h h2

theorem len_mul {B : Nat} (hB : 2 ≤ B) (a b : Nat) : (dg B (a * b)).length ≤ (dg B a).length + (dg B b).length := by
  refine (dg_len hB _ _).mpr ?_
  rw [Nat.pow_add]
  exact Nat.mul_lt_mul'' (dg_lt hB a) (dg_lt hB b)
theorem len_add {B : Nat} (hB : 2 ≤ B) (a b : Nat) : (dg B (a + b)).length ≤ max (dg B a).length (dg B b).length + 1 := by
  refine (dg_len hB _ _).mpr ?_
  have h1 := Nat.lt_of_lt_of_le (dg_lt hB a) (Nat.pow_le_pow_right (n := B) (by omega) (Nat.le_max_left _ (dg B b).length))
  have h2 := Nat.lt_of_lt_of_le (dg_lt hB b) (Nat.pow_le_pow_right (n := B) (by omega) (Nat.le_max_right (dg B a).length _))
  rw [Nat.pow_succ]
  have := Nat.mul_le_mul_left (B ^ max (dg B a).length (dg B b).length) hB
  omega
theorem ln_mul (a b : Nat) : ln (a * b) ≤ ln a + ln b := len_mul b32 a b
theorem dn_mul (a b : Nat) : dn (a * b) ≤ dn a + dn b := len_mul b10 a b
theorem ln_add (a b : Nat) : ln (a + b) ≤ max (ln a) (ln b) + 1 := len_add b32 a b
theorem dn_add (a b : Nat) : dn (a + b) ≤ max (dn a) (dn b) + 1 := len_add b10 a b
theorem ln_mono {a b : Nat} (h : a ≤ b) : ln a ≤ ln b := dg_len_mono b32 h
theorem dn_mono {a b : Nat} (h : a ≤ b) : dn a ≤ dn b := dg_len_mono b10 h
theorem ln_small {n : Nat} (h : n < 18446744073709551616) : ln n ≤ 2 := (dg_len b32 n 2).mpr (by omega)
theorem dn_small {n : Nat} (h : n < 18446744073709551616) : dn n ≤ 20 := (dg_len b10 n 20).mpr (by omega)
theorem ln_val {l : List Nat} (hd : Dg 4294967296 l) : ln (val 4294967296 l) ≤ l.length := (dg_len b32 _ _).mpr (val_lt (by decide) hd)
theorem dn_val {l : List Nat} (hd : Dg 10 l) : dn (val 10 l) ≤ l.length := (dg_len b10 _ _).mpr (val_lt (by decide) hd)

/-! ### numbers of limbs -/
/-! ### the document's product -/
theorem u32_nat (n : Nat) : IntKind.u32.wrap (n : Int) = ((n % 4294967296 : Nat) : Int) := by rw [u32_def]; omega
theorem fdiv32 (n : Nat) : (n : Int).fdiv (2 ^ 32) = ((n / 4294967296 : Nat) : Int) := by rw [Int.fdiv_eq_ediv_of_nonneg _ (by decide)]; omega
theorem fdiv1 (n : Nat) : (n : Int).fdiv (2 ^ 1) = ((n / 2 : Nat) : Int) := by rw [Int.fdiv_eq_ediv_of_nonneg _ (by decide)]; omega
theorem fdiv16 (n : Nat) : (n : Int).fdiv (2 ^ 16) = ((n / 65536 : Nat) : Int) := by rw [Int.fdiv_eq_ediv_of_nonneg _ (by decide)]; omega
theorem fdiv8 (n : Nat) : (n : Int).fdiv (2 ^ 8) = ((n / 256 : Nat) : Int) := by rw [Int.fdiv_eq_ediv_of_nonneg _ (by decide)]; omega
/-! ### the program's product -/
theorem mul_step {c u v o : Nat} (hc : c < 4294967296) (hu : u < 4294967296) (hv : v < 4294967296) (ho : o < 4294967296) :
    IntKind.u64.wrap ((c : Int) + (IntKind.u64.wrap ((IntKind.u64.wrap ((IntKind.u64.wrap (u : Int)) * (IntKind.u64.wrap (v : Int)))) + (IntKind.u64.wrap (o : Int))))) = ((c + (u * v + o) : Nat) : Int) ∧ (c + (u * v + o)) / 4294967296 < 4294967296 := by
  have hp : u * v ≤ 4294967295 * 4294967295 := Nat.mul_le_mul (by omega) (by omega)
  obtain ⟨p, hpp⟩ : ∃ p, p = u * v := ⟨_, rfl⟩
  rw [wrap_u64_nat (n := u) (by omega), wrap_u64_nat (n := v) (by omega), wrap_u64_nat (n := o) (by omega), show (u : Int) * (v : Int) = ((u * v : Nat) : Int) from (Int.natCast_mul u v).symm]
  rw [← hpp] at hp ⊢
  rw [wrap_u64_nat (by omega), show (p : Int) + (o : Int) = ((p + o : Nat) : Int) from (Int.natCast_add _ _).symm, wrap_u64_nat (by omega), show (c : Int) + ((p + o : Nat) : Int) = ((c + (p + o) : Nat) : Int) from (Int.natCast_add _ _).symm, wrap_u64_nat (by omega)]
  exact ⟨rfl, by omega⟩
/-! ### powers -/
/-! ### bits -/
def bl (n : Nat) : Nat := if n = 0 then 0 else n.log2 + 1
theorem bl_le (n k : Nat) : bl n ≤ k ↔ n < 2 ^ k := by
  unfold bl
  by_cases h : n = 0
  · subst h; simp; exact Nat.pow_pos (by decide)
  · rw [if_neg h, ← Nat.log2_lt h]; omega
theorem bl_lt (n : Nat) : n < 2 ^ bl n := (bl_le n _).mp (Nat.le_refl _)
theorem bl_ge {n : Nat} (h : 0 < n) : 2 ^ (bl n - 1) ≤ n := by
  rcases Nat.lt_or_ge n (2 ^ (bl n - 1)) with h1 | h1
  · have := (bl_le n _).mpr h1
    have h2 : 0 < bl n := by unfold bl; rw [if_neg (by omega)]; omega
    omega
  · exact h1
theorem bl_eq {n k : Nat} (h1 : 2 ^ k ≤ n) (h2 : n < 2 ^ (k + 1)) : bl n = k + 1 := by
  have h3 := (bl_le n (k + 1)).mpr h2
  have h4 : ¬ bl n ≤ k := fun h => by have := (bl_le n k).mp h; omega
  omega
theorem bl_zero : bl 0 = 0 := rfl
theorem bl_pos {n : Nat} (h : 0 < n) : 0 < bl n := by unfold bl; rw [if_neg (by omega)]; omega
theorem bl_mono {m n : Nat} (h : m ≤ n) : bl m ≤ bl n := (bl_le m _).mpr (Nat.lt_of_le_of_lt h (bl_lt n))
theorem bl_shift {t low k : Nat} (ht : 0 < t) (hl : low < 2 ^ k) : bl (low + 2 ^ k * t) = k + bl t := by
  have h1 := bl_ge ht
  have h2 := bl_lt t
  have h3 := bl_pos ht
  obtain ⟨b, hb⟩ : ∃ b, bl t = b + 1 := ⟨bl t - 1, by omega⟩
  rw [hb] at h1 h2 ⊢
  rw [Nat.add_sub_cancel] at h1
  refine bl_eq (k := k + b) ?_ ?_
  · rw [Nat.pow_add]
    have := Nat.mul_le_mul_left (2 ^ k) h1
    omega
  · rw [show k + b + 1 = k + (b + 1) by omega, Nat.pow_add]
    have := Nat.mul_le_mul_left (2 ^ k) (Nat.succ_le_of_lt h2)
    rw [Nat.succ_eq_add_one, Nat.mul_add] at this
    omega
def lenTab : ByteArray := (⟨#[0, 1, 2, 2, 3, 3, 3, 3, 4, 4, 4, 4, 4, 4, 4, 4, 5, 5, 5, 5, 5, 5, 5, 5, 5, 5, 5, 5, 5, 5, 5, 5, 6, 6, 6, 6, 6, 6, 6, 6, 6, 6, 6, 6, 6, 6, 6, 6, 6, 6, 6, 6, 6, 6, 6, 6, 6, 6, 6, 6, 6, 6, 6, 6, 7, 7, 7, 7, 7, 7, 7, 7, 7, 7, 7, 7, 7, 7, 7, 7, 7, 7, 7, 7, 7, 7, 7, 7, 7, 7, 7, 7, 7, 7, 7, 7, 7, 7, 7, 7, 7, 7, 7, 7, 7, 7, 7, 7, 7, 7, 7, 7, 7, 7, 7, 7, 7, 7, 7, 7, 7, 7, 7, 7, 7, 7, 7, 7, 8, 8, 8, 8, 8, 8, 8, 8, 8, 8, 8, 8, 8, 8, 8, 8, 8, 8, 8, 8, 8, 8, 8, 8, 8, 8, 8, 8, 8, 8, 8, 8, 8, 8, 8, 8, 8, 8, 8, 8, 8, 8, 8, 8, 8, 8, 8, 8, 8, 8, 8, 8, 8, 8, 8, 8, 8, 8, 8, 8, 8, 8, 8, 8, 8, 8, 8, 8, 8, 8, 8, 8, 8, 8, 8, 8, 8, 8, 8, 8, 8, 8, 8, 8, 8, 8, 8, 8, 8, 8, 8, 8, 8, 8, 8, 8, 8, 8, 8, 8, 8, 8, 8, 8, 8, 8, 8, 8, 8, 8, 8, 8, 8, 8, 8, 8, 8, 8, 8, 8, 8, 8, 8, 8, 8, 8, 8, 8]⟩ : ByteArray)
def lenAt (x : Int) (b : Int) : M Int := if 0 ≤ IntKind.u8.wrap x then (if IntKind.u8.wrap x < (lenTab.size : Int) then M.ret (IntKind.i64.wrap (b + IntKind.i64.wrap (byteAt lenTab (IntKind.u8.wrap x)))) else M.none) else M.none
theorem len32_def (a : Int) : mbits_Len32.f a = if a ≥ 65536 then (if a.fdiv (2 ^ 16) ≥ 256 then lenAt ((a.fdiv (2 ^ 16)).fdiv (2 ^ 8)) (IntKind.i64.wrap (16 + 8)) else lenAt (a.fdiv (2 ^ 16)) 16) else (if a ≥ 256 then lenAt (a.fdiv (2 ^ 8)) (IntKind.i64.wrap (0 + 8)) else lenAt a 0) := mbits_Len32.f_eq
theorem lenAt_ok {t : Nat} (ht : t < 256) {b : Nat} (hb : b ≤ 24) : Ev (lenAt (t : Int) (b : Int)) ((b + bl t : Nat) : Int) := by
  have h8 := (bl_le t 8).mpr (by omega)
  have e : byteAt lenTab (t : Int) = (bl t : Int) := by
    have : ∀ j : Fin 256, byteAt lenTab (j.val : Int) = (bl j.val : Int) := by decide +kernel
    exact this ⟨t, ht⟩
  have hs : (lenTab.size : Int) = 256 := by decide +kernel
  unfold lenAt
  rw [u8_id (x := (t : Int)) (by omega) (by omega), e, hs]
  exact ev_pos (by omega) (ev_pos (by omega) (ev_now (by rw [wrap_nat (by omega), wrap_add (by omega)])))
theorem len32 {a : Nat} (ha : a < 4294967296) : Ev (mbits_Len32.f (a : Int)) ((bl a : Nat) : Int) := by
  have key : ∀ (s t : Nat), t < 256 → (s = 0 ∨ 0 < t) → s ≤ 24 → a / 2 ^ s = t → bl a = s + bl t := by
    intro s t ht h hs hat
    have hm := Nat.mod_add_div a (2 ^ s)
    rw [hat] at hm
    rcases h with rfl | h
    · rw [Nat.pow_zero] at hat; rw [← hat, Nat.div_one]; omega
    · have := bl_shift h (Nat.mod_lt a (Nat.pow_pos (n := s) (by decide : 0 < 2)))
      rw [hm] at this
      omega
  rw [len32_def]
  by_cases h1 : 65536 ≤ a
  · refine ev_pos (by omega) ?_
    rw [fdiv16]
    by_cases h2 : 16777216 ≤ a
    · refine ev_pos (by omega) ?_
      rw [fdiv8, show a / 65536 / 256 = a / 16777216 by omega, key 24 (a / 16777216) (by omega) (.inr (by omega)) (by omega) rfl]
      exact lenAt_ok (by omega) (b := 24) (by omega)
    · refine ev_neg (by omega) ?_
      rw [key 16 (a / 65536) (by omega) (.inr (by omega)) (by omega) rfl]
      exact lenAt_ok (by omega) (b := 16) (by omega)
  · refine ev_neg (by omega) ?_
    by_cases h2 : 256 ≤ a
    · refine ev_pos (by omega) ?_
      rw [fdiv8, key 8 (a / 256) (by omega) (.inr (by omega)) (by omega) rfl]
      exact lenAt_ok (by omega) (b := 8) (by omega)
    · refine ev_neg (by omega) ?_
      have := lenAt_ok (t := a) (by omega) (b := 0) (by omega)
      rw [Nat.zero_add] at this
      exact this
theorem nbits {n : Nat} (hl : ln n ≤ 1099511627776) : Ev (nat_Nat_Bits.f (L n)) ((bl n : Nat) : Int) := by
  refine ev_eq nat_Nat_Bits.f_eq ?_
  rw [L_length]
  rcases Nat.eq_zero_or_pos n with rfl | hn
  · exact ev_pos rfl (ev_now rfl)
  · have h0 : 0 < ln n := by unfold ln; rw [dg_pos b32 hn]; simp
    obtain ⟨m, hm⟩ : ∃ m, ln n = m + 1 := ⟨ln n - 1, by omega⟩
    have hdl : (dg 4294967296 n).length = m + 1 := hm
    rw [hm, pred_wrap (by omega)]
    refine ev_neg (by omega) (ev_pos (by omega) (ev_pos (by omega) ?_))
    unfold L
    have hg := (Dg_dg b32 n).gd (by decide) m
    rw [rd_nl, show (32 : Int) * (m : Int) = ((32 * m : Nat) : Int) by omega, wrap_nat (by omega)]
    refine Ev.bind (len32 hg) (ev_now ?_)
    have h1 := dg_last b32 hn
    rw [hdl, Nat.add_sub_cancel] at h1
    have h2 := val_split 4294967296 (dg 4294967296 n) m (by omega)
    rw [val_drop _ _ _ (by omega), List.drop_of_length_le (by omega), val_dg b32] at h2
    have h3 := val_lt (by decide) ((Dg_dg b32 n).take m)
    rw [List.length_take, Nat.min_eq_left (by omega)] at h3
    have e : (4294967296 : Nat) ^ m = 2 ^ (32 * m) := by rw [Nat.pow_mul]
    rw [e] at h2 h3
    have h4 := bl_shift h1 h3
    rw [show val 4294967296 [] = 0 from rfl, Nat.mul_zero, Nat.add_zero] at h2
    rw [← h2] at h4
    have h5 := (bl_le (gd (dg 4294967296 n) m) 32).mpr hg
    rw [wrap_add (by omega), h4]

/-! ### small values -/
theorem nsmall_big {n : Nat} (h : 18446744073709551616 ≤ n) : Ev (nat_Nat_Small.f (L n)) (0, false) := by
  refine ev_eq nat_Nat_Small.f_eq ?_
  rw [L_length]
  have : ¬ ln n ≤ 2 := fun h2 => by have := dg_len_le b32 h2; omega
  exact ev_pos (by omega) (ev_now rfl)
theorem nsmall {n : Nat} (h : n < 18446744073709551616) : Ev (nat_Nat_Small.f (L n)) ((n : Int), true) := by
  refine ev_eq nat_Nat_Small.f_eq ?_
  rw [L_length]
  have h2 := ln_small h
  refine ev_neg (by omega) ?_
  have shl0 : ∀ x : Nat, x < 4294967296 → IntKind.u64.wrap (IntKind.u64.wrap (x : Int) * 2 ^ (min (IntKind.i64.wrap (32 * 0)).toNat 64)) = (x : Int) := by
    intro x hx
    rw [wrap_u64_nat (by omega), wrap_id (by omega) (by omega)]
    show IntKind.u64.wrap ((x : Int) * 1) = _
    rw [Int.mul_one, wrap_u64_nat (by omega)]
  have shl1 : ∀ x : Nat, x < 4294967296 → IntKind.u64.wrap (IntKind.u64.wrap (x : Int) * 2 ^ (min (IntKind.i64.wrap (32 * 1)).toNat 64)) = ((4294967296 * x : Nat) : Int) := by
    intro x hx
    rw [wrap_u64_nat (by omega), wrap_id (by omega) (by omega)]
    show IntKind.u64.wrap ((x : Int) * 4294967296) = _
    rw [u64_id] <;> omega
  rcases Nat.eq_zero_or_pos n with rfl | hn
  · refine ev_loop nat_Nat_Small.l0_eq nat_Nat_Small.l0_step ?_
    exact ev_neg (by decide) (ev_now rfl)
  · by_cases h1 : n < 4294967296
    · have e : dg 4294967296 n = [n] := by rw [dg_pos b32 hn, Nat.div_eq_of_lt h1, Nat.mod_eq_of_lt h1]; rfl
      have el : L n = nl [n] := by unfold L; rw [e]
      have eln : ln n = 1 := by unfold ln; rw [e]; rfl
      rw [eln, el]
      refine ev_loop nat_Nat_Small.l0_eq nat_Nat_Small.l0_step ?_
      refine ev_pos (by omega) (ev_pos (by omega) (ev_pos (by rw [nl_length]; simp) (ev_pos (by rw [wrap_id] <;> omega) ?_)))
      rw [show (0 : Int) = ((0 : Nat) : Int) from rfl, rd_nl, gd_cons_zero, show (((0 : Nat) : Int)) = 0 from rfl, shl0 n h1]
      rw [show (0 : Int) = ((0 : Nat) : Int) from rfl, bits_or64 (by omega) (by omega), Nat.zero_or, succ_wrap (by omega)]
      refine ev_loop nat_Nat_Small.l0_eq nat_Nat_Small.l0_step ?_
      exact ev_neg (by omega) (ev_now rfl)
    · have e : dg 4294967296 n = [n % 4294967296, n / 4294967296] := by
        rw [dg_pos b32 hn, dg_pos b32 (by omega), Nat.div_eq_of_lt (a := n / 4294967296) (by omega), Nat.mod_eq_of_lt (a := n / 4294967296) (by omega)]; rfl
      have el : L n = nl [n % 4294967296, n / 4294967296] := by unfold L; rw [e]
      have eln : ln n = 2 := by unfold ln; rw [e]; rfl
      rw [eln, el]
      refine ev_loop nat_Nat_Small.l0_eq nat_Nat_Small.l0_step ?_
      refine ev_pos (by omega) (ev_pos (by omega) (ev_pos (by rw [nl_length]; simp) (ev_pos (by rw [wrap_id] <;> omega) ?_)))
      rw [show (0 : Int) = ((0 : Nat) : Int) from rfl, rd_nl, gd_cons_zero, show (((0 : Nat) : Int)) = 0 from rfl, shl0 _ (Nat.mod_lt _ (by decide))]
      rw [show (0 : Int) = ((0 : Nat) : Int) from rfl, bits_or64 (by omega) (by omega), Nat.zero_or, succ_wrap (by omega)]
      refine ev_loop nat_Nat_Small.l0_eq nat_Nat_Small.l0_step ?_
      refine ev_pos (by omega) (ev_pos (by omega) (ev_pos (by rw [nl_length]; simp) (ev_pos (by rw [wrap_id] <;> omega) ?_)))
      rw [rd_nl, gd_cons_succ, gd_cons_zero, show ((0 + 1 : Nat) : Int) = 1 from rfl, shl1 _ (by omega), bits_or64 (by omega) (by omega)]
      have e3 : n % 4294967296 ||| 4294967296 * (n / 4294967296) = n := by
        have := Nat.two_pow_add_eq_or_of_lt (i := 32) (b := n % 4294967296) (Nat.mod_lt _ (by decide)) (n / 4294967296)
        have h9 : 4294967296 * (n / 4294967296) + n % 4294967296 = (4294967296 * (n / 4294967296) ||| n % 4294967296) := this
        rw [Nat.or_comm]
        omega
      rw [e3, show IntKind.i64.wrap ((1 : Int) + 1) = ((2 : Nat) : Int) by rw [wrap_id] <;> omega]
      refine ev_loop nat_Nat_Small.l0_eq nat_Nat_Small.l0_step ?_
      exact ev_neg (by omega) (ev_now rfl)
end Go.Proofs.Ythcmaijnhcmnmaa.F

/- What comes in: limbs. -/
namespace Go.Proofs.Ythcmaijnhcmnmaa.F
open Go Go.Proofs.Ythcmaijnhcmnmaa.E
set_option linter.unusedVariables false
set_option linter.unusedSimpArgs false
theorem wf_u32 {x : Int} (h : (Lit.int .u32 x).wf = true) : 0 ≤ x ∧ x < 4294967296 := by
  simp [Lit.wf, IntKind.min, IntKind.max, IntKind.signed, IntKind.bits] at h
  omega
theorem wf_u64 {x : Int} (h : (Lit.int .u64 x).wf = true) : 0 ≤ x ∧ x < 18446744073709551616 := by
  simp [Lit.wf, IntKind.min, IntKind.max, IntKind.signed, IntKind.bits] at h
  omega
theorem wf_i64 {x : Int} (h : (Lit.int .i64 x).wf = true) : -9223372036854775808 ≤ x ∧ x < 9223372036854775808 := by
  simp [Lit.wf, IntKind.min, IntKind.max, IntKind.signed, IntKind.bits] at h
  omega
theorem wf_u8 {x : Int} (h : (Lit.int .u8 x).wf = true) : 0 ≤ x ∧ x < 256 := by
  simp [Lit.wf, IntKind.min, IntKind.max, IntKind.signed, IntKind.bits] at h
  omega
theorem limbs_in {l : List Int} (h : ∀ x ∈ l, (Lit.int .u32 x).wf = true) : ∃ t : List Nat, l = nl t ∧ Dg 4294967296 t := by
  refine ⟨l.map Int.toNat, toNl fun x hx => (wf_u32 (h x hx)).1, fun y hy => ?_⟩
  obtain ⟨x, hx, rfl⟩ := List.mem_map.mp hy
  have := wf_u32 (h x hx)
  omega
theorem few_of {l : List Nat} (n : Nat) {N : Int} (hN : N = (n : Int)) : (nl l).take ((mnI ((nl l).length : Int) N) : Int).toNat = nl (l.take n) ∧ 0 ≤ mnI ((nl l).length : Int) N ∧ mnI ((nl l).length : Int) N ≤ ((nl l).length : Int) := by
  subst hN
  rw [nl_length]
  unfold mnI
  refine ⟨?_, ?_, ?_⟩
  · split
    · rw [Int.toNat_natCast, nl_take]
    · rw [Int.toNat_natCast, nl_take, List.take_of_length_le (Nat.le_refl _), List.take_of_length_le (by omega)]
  · split <;> omega
  · split <;> omega
theorem cmpI_neg (m n : Nat) : IntKind.i64.wrap (0 - cmpI m n) = cmpI n m := by
  have h : cmpI n m = -(cmpI m n) := by
    unfold cmpI
    rcases Nat.lt_trichotomy m n with h | h | h
    · rw [if_neg (by omega), if_pos h, if_pos h]; rfl
    · subst h; rw [if_neg (Nat.lt_irrefl _), if_neg (Nat.lt_irrefl _)]; rfl
    · rw [if_pos h, if_neg (by omega), if_pos h]
  have h2 : -1 ≤ cmpI m n ∧ cmpI m n ≤ 1 := by unfold cmpI; split <;> (try split) <;> omega
  rw [h, wrap_id (by omega) (by omega)]; omega
theorem cmpI_self (m : Nat) : cmpI m m = 0 := by unfold cmpI; rw [if_neg (Nat.lt_irrefl _), if_neg (Nat.lt_irrefl _)]
theorem cmpI_ge {m n : Nat} : 0 ≤ cmpI m n ↔ n ≤ m := by unfold cmpI; split <;> (try split) <;> omega
theorem cmpI_eq0 {m n : Nat} : cmpI m n = 0 ↔ m = n := by unfold cmpI; split <;> (try split) <;> omega
theorem cmpI_lt {m n : Nat} : cmpI m n < 0 ↔ m < n := by unfold cmpI; split <;> (try split) <;> omega
theorem cmpI_gt {m n : Nat} : 0 < cmpI m n ↔ n < m := by unfold cmpI; split <;> (try split) <;> omega
theorem cmpI_pos {m n : Nat} : cmpI m n = 1 ↔ n < m := by unfold cmpI; split <;> (try split) <;> omega
theorem bl_add (a b : Nat) : bl (a + b) ≤ max (bl a) (bl b) + 1 := by
  refine (bl_le _ _).mpr ?_
  have h1 := Nat.lt_of_lt_of_le (bl_lt a) (Nat.pow_le_pow_right (n := 2) (by omega) (Nat.le_max_left (bl a) (bl b)))
  have h2 := Nat.lt_of_lt_of_le (bl_lt b) (Nat.pow_le_pow_right (n := 2) (by omega) (Nat.le_max_right (bl a) (bl b)))
  rw [Nat.pow_succ]; omega
theorem bl_mul (a b : Nat) : bl (a * b) ≤ bl a + bl b := by
  refine (bl_le _ _).mpr ?_
  rw [Nat.pow_add]
  exact Nat.mul_lt_mul'' (bl_lt a) (bl_lt b)
theorem bl_eq0 {n : Nat} : bl n = 0 ↔ n = 0 := by
  unfold bl; split <;> simp_all
theorem bl_le_ln (n : Nat) : bl n ≤ 32 * ln n := by
  refine (bl_le _ _).mpr ?_
  rw [Nat.pow_mul]
  exact dg_lt b32 n
end Go.Proofs.Ythcmaijnhcmnmaa.F

/- No number is changed by what is done with it, or with what is told of it. -/
namespace Go.Proofs.Ythcmaijnhcmnmaa.Pure
open Go Go.Proofs.Ythcmaijnhcmnmaa.E Go.Proofs.Ythcmaijnhcmnmaa.F
set_option linter.unusedVariables false
set_option linter.unusedSimpArgs false
theorem few02 (l : List Nat) : Ev (numerarylaw02_few.f (nl l)) (nl (l.take 30)) := by
  obtain ⟨h1, h2, h3⟩ := few_of (l := l) 30 (N := 30) rfl
  exact ev_eq numerarylaw02_few.f_eq (ev_pos h2 (ev_pos h3 (ev_now h1)))
theorem wakes02 : Ev (numerarylaw02_wakes.f ()) true := by
  have l1 := ln_small (n := 4294967296) (by decide)
  have l2 := ln_small (n := 4294967295) (by decide)
  have l3 := ln_small (n := 8589934592) (by decide)
  have s := nsub_ge (m := 4294967296) (n := 1) (by omega) (by decide)
  rw [show 4294967296 - 1 = 4294967295 by decide] at s
  have a := nadd (m := 4294967296) (n := 4294967296) (by omega) (by omega)
  rw [show 4294967296 + 4294967296 = 8589934592 by decide] at a
  have lb := limbs_nl (l := L 8589934592) (by rw [L_length]; omega)
  have e : L 8589934592 = [0, 2] := by decide
  rw [e] at lb a
  have nb := nbits (n := 4294967296) (by omega)
  rw [bl_eq (n := 4294967296) (k := 32) (by decide) (by decide)] at nb
  have c := ncmp (m := 4294967296) (n := 4294967295) (by omega) (by omega)
  rw [show cmpI 4294967296 4294967295 = 1 by decide] at c
  refine ev_eq numerarylaw02_wakes.f_eq (Ev.bind (of_val (n := 4294967296) (by decide)) (Ev.bind (of_val (n := 1) (by decide)) (Ev.bind s (Ev.bind (nsmall (n := 4294967295) (by decide)) (Ev.bind a (Ev.bind lb ?_))))))
  exact ev_pos rfl (ev_pos rfl (ev_pos rfl (ev_pos rfl (ev_pos (by decide) (ev_pos (by decide) (ev_pos rfl (ev_pos (by decide) (ev_pos (by decide) (ev_pos rfl (Ev.bind c (ev_pos rfl (Ev.bind nb (ev_now (by decide))))))))))))))
theorem keeps_l0 {w N : Int} {x7 x8 x9 : List Int} {r : Bool} (h : Ev (M.bind (nat_Nat_Limbs.f x7) fun t1 => (numerarylaw02_NatKeeps.l1 w x7 x8 x9 t1 (t1.length : Int) 0)) r) :
    ∀ (k i : Nat) (x0 : List Int), N = (x0.length : Int) → x0.length ≤ 1000 → i + k = x0.length → Ev (numerarylaw02_NatKeeps.l0 x0 w x7 x8 x9 N (i : Int)) r := by
  intro k
  induction k with
  | zero =>
    intro i x0 hN hl hi
    exact ev_loop numerarylaw02_NatKeeps.l0_eq numerarylaw02_NatKeeps.l0_step (ev_neg (by omega) h)
  | succ k ih =>
    intro i x0 hN hl hi
    refine ev_loop numerarylaw02_NatKeeps.l0_eq numerarylaw02_NatKeeps.l0_step (ev_pos (by omega) (ev_pos (by omega) (ev_pos (by omega) (ev_pos (by omega) (ev_pos (by omega) ?_)))))
    rw [show IntKind.i64.wrap ((i : Int) + 1) = ((i + 1 : Nat) : Int) by rw [wrap_id (by omega) (by omega)]; omega]
    exact ih (i + 1) _ (by rw [List.length_set]; exact hN) (by rw [List.length_set]; exact hl) (by rw [List.length_set]; omega)
theorem keeps_l2 {x : List Int} (hl : x.length ≤ 1000) : ∀ (k i : Nat), i + k = x.length → Ev (numerarylaw02_NatKeeps.l2 x x (x.length : Int) (i : Int)) true := by
  intro k
  induction k with
  | zero =>
    intro i hi
    exact ev_loop numerarylaw02_NatKeeps.l2_eq numerarylaw02_NatKeeps.l2_step (ev_neg (by omega) (ev_now rfl))
  | succ k ih =>
    intro i hi
    refine ev_loop numerarylaw02_NatKeeps.l2_eq numerarylaw02_NatKeeps.l2_step (ev_pos (by omega) (ev_pos (by omega) (ev_pos (by omega) (ev_pos (by omega) (ev_pos (by omega) (ev_neg (by simp) ?_))))))
    rw [show IntKind.i64.wrap ((i : Int) + 1) = ((i + 1 : Nat) : Int) by rw [wrap_id (by omega) (by omega)]; omega]
    exact ih (i + 1) (by omega)
theorem keeps_l1 {w N : Int} {a b : Nat} (ha : ln a ≤ 1000) (hb : ln b ≤ 1000) :
    ∀ (k i : Nat) (x : List Int), N = (x.length : Int) → x.length ≤ 1000 → i + k = x.length → Ev (numerarylaw02_NatKeeps.l1 w (L a) (L b) (L a) x N (i : Int)) true := by
  have hlen : (L a).length = ln a := L_length a
  have h2 : Ev (numerarylaw02_NatKeeps.l2 (L a) (L a) ((L a).length : Int) 0) true := keeps_l2 (by omega) (L a).length 0 (by omega)
  have hsub : ∃ r, Ev (nat_Sub.f (L a) (L b)) r := by
    rcases Nat.lt_or_ge a b with h | h
    · exact ⟨_, nsub_lt (by omega) h⟩
    · exact ⟨_, nsub_ge (by omega) h⟩
  obtain ⟨r, hr⟩ := hsub
  intro k
  induction k with
  | zero =>
    intro i x hN hl hi
    refine ev_loop numerarylaw02_NatKeeps.l1_eq numerarylaw02_NatKeeps.l1_step (ev_neg (by omega) ?_)
    refine Ev.bind (nadd (by omega) (by omega)) (Ev.bind hr (Ev.bind (ncmp (by omega) (by omega)) (Ev.bind (limbs_nl (by omega)) (Ev.bind wakes02 (ev_neg (by simp) (ev_neg (fun h => h rfl) h2))))))
  | succ k ih =>
    intro i x hN hl hi
    refine ev_loop numerarylaw02_NatKeeps.l1_eq numerarylaw02_NatKeeps.l1_step (ev_pos (by omega) (ev_pos (by omega) (ev_pos (by omega) (ev_pos (by omega) (ev_pos (by omega) ?_)))))
    rw [show IntKind.i64.wrap ((i : Int) + 1) = ((i + 1 : Nat) : Int) by rw [wrap_id (by omega) (by omega)]; omega]
    exact ih (i + 1) _ (by rw [List.length_set]; exact hN) (by rw [List.length_set]; exact hl) (by rw [List.length_set]; omega)
theorem keeps_in {l : List Int} (h : ∀ x ∈ l, (Lit.int .u32 x).wf = true) : ∃ s : List Nat, l = nl s ∧ ∃ a, ln a ≤ 30 ∧ Ev (nat_Made.f (nl (s.take 30))) (L a) := by
  have h1 : ∀ x ∈ l, 0 ≤ x := fun x hx => (wf_u32 (h x hx)).1
  have hd : Dg 4294967296 (l.map Int.toNat) := fun y hy => by
    obtain ⟨x, hx, rfl⟩ := List.mem_map.mp hy
    have := wf_u32 (h x hx)
    omega
  refine ⟨l.map Int.toNat, toNl h1, _, ?_, made_val (by simp; omega) (fun x hx => hd x (List.mem_of_mem_take hx))⟩
  exact Nat.le_trans (ln_val (fun x hx => hd x (List.mem_of_mem_take hx))) (by simp; omega)
theorem NatKeeps (a0 : List Int) (h0 : ∀ n ∈ a0, (Lit.int .u32 n).wf = true) (s0 : a0.length * 4 ≤ 140737488351232) (a1 : List Int) (h1 : ∀ n ∈ a1, (Lit.int .u32 n).wf = true) (s1 : a1.length * 4 ≤ 140737488351232) (a2 : Int) (h2 : (Lit.int .u32 a2).wf = true) : Ev (numerarylaw02_NatKeeps.f a0 a1 a2) true := by
  obtain ⟨s, rfl, a, ha, hma⟩ := keeps_in h0
  obtain ⟨t, rfl, b, hb, hmb⟩ := keeps_in h1
  have hlen : (nl (s.take 30)).length ≤ 30 := by rw [nl_length]; simp; omega
  refine ev_eq numerarylaw02_NatKeeps.f_eq (Ev.bind (few02 s) (ev_pos (by omega) (Ev.bind hma (Ev.bind (few02 t) (Ev.bind hmb (Ev.bind (limbs_nl (by rw [L_length]; omega)) ?_))))))
  refine keeps_l0 ?_ (nl (s.take 30)).length 0 _ rfl (by omega) (by omega)
  exact Ev.bind (limbs_nl (by rw [L_length]; omega)) (keeps_l1 (by omega) (by omega) (L a).length 0 _ rfl (by rw [L_length]; omega) (by omega))
end Go.Proofs.Ythcmaijnhcmnmaa.Pure
