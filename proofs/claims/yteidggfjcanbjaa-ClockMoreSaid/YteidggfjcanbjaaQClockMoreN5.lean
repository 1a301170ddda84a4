/- Quotients: by one limb, shifts, the guess of a digit, a digit times a number taken off, and put back. -/
import Derived.Test.YteidggfjcanbjaaQClockMoreN4
namespace Go.Proofs.Yteidggfjcanbjaa.F
open Go Go.Proofs.Yteidggfjcanbjaa.E
set_option linter.unusedVariables false
set_option linter.unusedSimpArgs false

theorem or_add {a b : Nat} (hb : b < 4294967296) : 4294967296 * a ||| b = 4294967296 * a + b := (Nat.two_pow_add_eq_or_of_lt (i := 32) hb a).symm
theorem two_limbs {h l : Nat} (hh : h < 4294967296) (hl : l < 4294967296) : IntKind.u64.wrap ((BitVec.ofInt IntKind.u64.bits (IntKind.u64.wrap ((IntKind.u64.wrap (h : Int)) * 2 ^ 32)) ||| BitVec.ofInt IntKind.u64.bits (IntKind.u64.wrap (l : Int))).toNat) = ((4294967296 * h + l : Nat) : Int) := by
  rw [wrap_u64_nat (n := h) (by omega), wrap_u64_nat (n := l) (by omega), show (h : Int) * 2 ^ 32 = ((4294967296 * h : Nat) : Int) by omega, wrap_u64_nat (n := 4294967296 * h) (by omega), bits_or64 (by omega) (by omega), or_add hl]
theorem tdiv_nat (a b : Nat) : Int.tdiv (a : Int) (b : Int) = ((a / b : Nat) : Int) := rfl
theorem tmod_nat (a b : Nat) : Int.tmod (a : Int) (b : Int) = ((a % b : Nat) : Int) := rfl
theorem div32_nat {h l d : Nat} (hd : h < d) (hd2 : d < 4294967296) (hl : l < 4294967296) : Ev (mbits_Div32.f (h : Int) (l : Int) (d : Int)) ((((4294967296 * h + l) / d : Nat) : Int), (((4294967296 * h + l) % d : Nat) : Int)) := by
  have hq : (4294967296 * h + l) / d < 4294967296 := by
    rw [Nat.div_lt_iff_lt_mul (by omega)]
    have := Nat.mul_le_mul_left 4294967296 (Nat.succ_le_of_lt hd)
    rw [Nat.succ_eq_add_one, Nat.mul_add] at this
    omega
  have hr : (4294967296 * h + l) % d < d := Nat.mod_lt _ (by omega)
  refine ev_eq mbits_Div32.f_eq ?_
  rw [wrap_u64_nat (n := d) (by omega), two_limbs (by omega) hl, tdiv_nat, tmod_nat, wrap_u64_nat (by omega), u32_nat, u32_nat, Nat.mod_eq_of_lt hq, Nat.mod_eq_of_lt (a := (4294967296 * h + l) % d) (by omega)]
  exact ev_pos (by omega) (ev_neg (by omega) (ev_pos (by omega) (ev_pos (by omega) (ev_now rfl))))

theorem small_loop (x : List Nat) (d : Nat) (hx : Dg 4294967296 x) (h0 : 0 < d) (hd : d < 4294967296) (hl : x.length ≤ 1099511627776) : ∀ (i : Nat) (q : List Nat), i ≤ x.length → q.length = x.length → Dg 4294967296 q → val 4294967296 (q.drop i) = val 4294967296 (x.drop i) / d →
    ∃ Q : List Nat, Q.length = x.length ∧ Dg 4294967296 Q ∧ val 4294967296 Q = val 4294967296 x / d ∧ Ev (quot_small.l0 (nl x) (d : Int) (nl q) ((val 4294967296 (x.drop i) % d : Nat) : Int) ((i : Int) - 1)) (nl Q, ((val 4294967296 x % d : Nat) : Int)) := by
  intro i
  induction i with
  | zero =>
    intro q hi hq hdq hv
    refine ⟨q, hq, hdq, by simpa using hv, ?_⟩
    refine ev_loop quot_small.l0_eq quot_small.l0_step ?_
    exact ev_neg (by omega) (ev_now (by rw [List.drop_zero]))
  | succ i ih =>
    intro q hi hq hdq hv
    have hg := hx.gd (by decide) i
    have hr : val 4294967296 (x.drop (i + 1)) % d < d := Nat.mod_lt _ h0
    have hdv := div32_nat hr hd hg
    have hxd := val_drop 4294967296 x i (by omega)
    have hm := Nat.mod_add_div (val 4294967296 (x.drop (i + 1))) d
    have e0 : val 4294967296 (x.drop i) = d * (4294967296 * (val 4294967296 (x.drop (i + 1)) / d)) + (4294967296 * (val 4294967296 (x.drop (i + 1)) % d) + gd x i) := by
      rw [hxd]
      generalize val 4294967296 (x.drop (i + 1)) / d = q0 at *
      generalize val 4294967296 (x.drop (i + 1)) % d = r0 at *
      rw [← hm, Nat.mul_left_comm d, Nat.mul_add]; omega
    have e1 : val 4294967296 (x.drop i) / d = 4294967296 * (val 4294967296 (x.drop (i + 1)) / d) + (4294967296 * (val 4294967296 (x.drop (i + 1)) % d) + gd x i) / d := by rw [e0, Nat.mul_add_div h0]
    have e2 : val 4294967296 (x.drop i) % d = (4294967296 * (val 4294967296 (x.drop (i + 1)) % d) + gd x i) % d := by rw [e0, Nat.mul_add_mod]
    have hql : (4294967296 * (val 4294967296 (x.drop (i + 1)) % d) + gd x i) / d < 4294967296 := by
      rw [Nat.div_lt_iff_lt_mul h0]
      have := Nat.mul_le_mul_left 4294967296 (Nat.succ_le_of_lt hr)
      rw [Nat.succ_eq_add_one, Nat.mul_add] at this
      omega
    obtain ⟨Q, h1, h2, h3, h4⟩ := ih (q.set i ((4294967296 * (val 4294967296 (x.drop (i + 1)) % d) + gd x i) / d)) (by omega) (by rw [List.length_set]; exact hq) (hdq.set i hql) (by
      rw [val_drop _ _ _ (by rw [List.length_set]; omega), drop_set_succ, hv, gd_set _ _ _ _ (by omega), if_pos rfl, e1]; omega)
    refine ⟨Q, h1, h2, h3, ?_⟩
    rw [show (((i + 1 : Nat) : Int) - 1) = (i : Int) by omega]
    refine ev_loop quot_small.l0_eq quot_small.l0_step ?_
    refine ev_pos (by omega) (ev_pos (by omega) (ev_pos (by rw [nl_length]; omega) ?_))
    rw [rd_nl]
    refine Ev.bind hdv (ev_pos (by omega) (ev_pos (by rw [nl_length]; omega) ?_))
    rw [Int.toNat_natCast, nl_set, wrap_id (by omega) (by omega), ← e2]
    exact h4
theorem qsmall {x : List Nat} {d : Nat} (hx : Dg 4294967296 x) (h0 : 0 < d) (hd : d < 4294967296) (hl : x.length ≤ 1099511627776) :
    ∃ Q : List Nat, Q.length = x.length ∧ Dg 4294967296 Q ∧ val 4294967296 Q = val 4294967296 x / d ∧ Ev (quot_small.f (nl x) (d : Int)) (nl Q, ((val 4294967296 x % d : Nat) : Int)) := by
  obtain ⟨Q, h1, h2, h3, h4⟩ := small_loop x d hx h0 hd hl x.length (List.replicate x.length 0) (Nat.le_refl _) (by rw [List.length_replicate]) (Dg.replicate (by decide) _) (by rw [List.drop_of_length_le (by simp), List.drop_of_length_le (Nat.le_refl _)]; simp [val])
  refine ⟨Q, h1, h2, h3, ?_⟩
  rw [List.drop_of_length_le (Nat.le_refl _)] at h4
  refine ev_eq quot_small.f_eq ?_
  rw [nl_length, Int.toNat_natCast, wrap_id (by omega) (by omega)]
  refine ev_pos (by omega) (ev_pos (by omega) ?_)
  rw [show List.replicate x.length (0 : Int) = nl (List.replicate x.length 0) from nl_replicate _ 0]
  rw [show val 4294967296 [] % d = 0 from Nat.zero_mod d] at h4
  exact h4

/-! ### shifts by less than a limb -/
theorem shl32 {v k : Nat} (hk : k < 32) : IntKind.u32.wrap ((v : Int) * 2 ^ (min ((k : Nat) : Int).toNat 32)) = ((v * 2 ^ k % 4294967296 : Nat) : Int) := by
  rw [Int.toNat_natCast, Nat.min_eq_left (a := k) (b := 32) (by omega), u32_def, show (v : Int) * 2 ^ k = ((v * 2 ^ k : Nat) : Int) by rw [Int.natCast_mul, Int.natCast_pow]; rfl]
  rfl
theorem shl64 {v k : Nat} (hk : k < 32) (hv : v < 4294967296) : IntKind.u64.wrap (IntKind.u64.wrap (v : Int) * 2 ^ (min ((k : Nat) : Int).toNat 64)) = ((v * 2 ^ k : Nat) : Int) := by
  have h1 : 2 ^ k ≤ 2 ^ 31 := Nat.pow_le_pow_right (by decide) (by omega)
  have h2 : v * 2 ^ k ≤ 4294967295 * 2 ^ 31 := Nat.mul_le_mul (by omega) h1
  rw [wrap_u64_nat (by omega), Int.toNat_natCast, Nat.min_eq_left (a := k) (b := 64) (by omega), show (v : Int) * 2 ^ k = ((v * 2 ^ k : Nat) : Int) by rw [Int.natCast_mul, Int.natCast_pow]; rfl, wrap_u64_nat (by omega)]
theorem or_low {c a k : Nat} (hc : c < 2 ^ k) : c ||| 2 ^ k * a = c + 2 ^ k * a := by
  rw [Nat.or_comm, ← Nat.two_pow_add_eq_or_of_lt hc a, Nat.add_comm]
theorem shl_low (v k : Nat) (hk : k < 32) : v * 2 ^ k % 4294967296 = 2 ^ k * (v % 2 ^ (32 - k)) := by
  have : (4294967296 : Nat) = 2 ^ k * 2 ^ (32 - k) := by rw [← Nat.pow_add, show k + (32 - k) = 32 by omega]
  rw [this, Nat.mul_comm v, Nat.mul_mod_mul_left]
theorem shifted_loop (x : List Nat) (k : Nat) (hx : Dg 4294967296 x) (hk : k < 32) (hl : x.length ≤ 1099511627776) : ∀ (d i : Nat) (out : List Nat), i + d = x.length → out.length = x.length + 1 → Dg 4294967296 out → (∀ j, i < j → gd out j = 0) → gd out i < 2 ^ k → val 4294967296 out = val 4294967296 (x.take i) * 2 ^ k →
    ∃ U : List Nat, U.length = x.length + 1 ∧ Dg 4294967296 U ∧ val 4294967296 U = val 4294967296 x * 2 ^ k ∧ Ev (quot_shifted.l0 (k : Int) (nl out) (nl x) (x.length : Int) (i : Int)) (nl U) := by
  intro d
  induction d with
  | zero =>
    intro i out hi ho hd hz hc hv
    rw [List.take_of_length_le (by omega)] at hv
    refine ⟨out, ho, hd, hv, ?_⟩
    refine ev_loop quot_shifted.l0_eq quot_shifted.l0_step ?_
    exact ev_neg (by omega) (ev_now rfl)
  | succ d ih =>
    intro i out hi ho hd hz hc hv
    have hg := hx.gd (by decide) i
    have ho1 := hd.gd (by decide) i
    obtain ⟨v, hv1⟩ : ∃ v, gd x i = v := ⟨_, rfl⟩
    obtain ⟨c, hc1⟩ : ∃ c, gd out i = c := ⟨_, rfl⟩
    have hzz := hz (i + 1) (by omega)
    rw [hv1] at hg
    rw [hc1] at hc ho1
    have hpk : 2 ^ k ≤ 2 ^ 31 := Nat.pow_le_pow_right (by decide) (by omega)
    have hp0 : 0 < 2 ^ k := Nat.pow_pos (by decide)
    have hvk : v * 2 ^ k / 4294967296 < 2 ^ k := by
      rw [Nat.div_lt_iff_lt_mul (by decide), Nat.mul_comm]
      exact Nat.mul_lt_mul_of_pos_left hg hp0
    have hlow : c ||| v * 2 ^ k % 4294967296 = c + v * 2 ^ k % 4294967296 := by rw [shl_low v k hk, or_low hc]
    have hlt : c + v * 2 ^ k % 4294967296 < 4294967296 := by
      rw [← hlow]
      exact Nat.or_lt_two_pow (n := 32) ho1 (Nat.mod_lt _ (by decide))
    obtain ⟨U, h1, h2, h3, h4⟩ := ih (i + 1) ((out.set i (c + v * 2 ^ k % 4294967296)).set (i + 1) (v * 2 ^ k / 4294967296)) (by omega) (by rw [List.length_set, List.length_set]; exact ho) ((hd.set i hlt).set _ (by omega))
      (by
        intro j hj
        rw [gd_set _ _ _ _ (by rw [List.length_set]; omega), if_neg (by omega), gd_set _ _ _ _ (by omega), if_neg (by omega)]
        exact hz j (by omega))
      (by rw [gd_set _ _ _ _ (by rw [List.length_set]; omega), if_pos rfl]; exact hvk)
      (by
        have s1 := val_set 4294967296 out i (c + v * 2 ^ k % 4294967296) (by omega)
        have s2 := val_set 4294967296 (out.set i (c + v * 2 ^ k % 4294967296)) (i + 1) (v * 2 ^ k / 4294967296) (by rw [List.length_set]; omega)
        rw [gd_set _ _ _ _ (by omega), if_neg (by omega), hzz, Nat.mul_zero, Nat.add_zero] at s2
        rw [hc1, Nat.mul_add] at s1
        rw [s2, val_take_succ, hv1, Nat.add_mul, ← hv, Nat.mul_assoc]
        have hm := Nat.mod_add_div (v * 2 ^ k) 4294967296
        rw [Nat.pow_succ]
        generalize v * 2 ^ k % 4294967296 = md at *
        generalize v * 2 ^ k / 4294967296 = dv at *
        generalize v * 2 ^ k = vk at *
        generalize 4294967296 ^ i = P at *
        have e1 : P * (md + 4294967296 * dv) = P * vk := by rw [hm]
        rw [Nat.mul_add, ← Nat.mul_assoc] at e1
        omega)
    refine ⟨U, h1, h2, h3, ?_⟩
    refine ev_loop quot_shifted.l0_eq quot_shifted.l0_step ?_
    rw [succ_wrap (by omega)]
    refine ev_pos (by omega) (ev_pos (by omega) (ev_pos (by rw [nl_length]; omega) (ev_pos (by omega) (ev_pos (by rw [nl_length]; omega) (ev_pos (by omega) (ev_pos (by omega) (ev_pos (by rw [nl_length]; omega) (ev_pos (by omega) (ev_pos (by omega) (ev_pos (by rw [List.length_set, nl_length]; omega) ?_))))))))))
    rw [Int.toNat_natCast (n := i), Int.toNat_natCast (n := i + 1), getD_nl, rd_nl, hv1, hc1, shl32 hk, shl64 hk hg, bits_or32 ho1 (Nat.mod_lt _ (by decide)), hlow, fdiv32, u32_nat, Nat.mod_eq_of_lt (a := v * 2 ^ k / 4294967296) (by omega), nl_set, nl_set]
    exact h4
theorem qshifted {x : List Nat} {k : Nat} (hx : Dg 4294967296 x) (hk : k < 32) (hl : x.length ≤ 1099511627775) :
    ∃ U : List Nat, U.length = x.length + 1 ∧ Dg 4294967296 U ∧ val 4294967296 U = val 4294967296 x * 2 ^ k ∧ Ev (quot_shifted.f (nl x) (k : Int)) (nl U) := by
  obtain ⟨U, h1, h2, h3, h4⟩ := shifted_loop x k hx hk (by omega) x.length 0 (List.replicate (x.length + 1) 0) (by omega) (by rw [List.length_replicate]) (Dg.replicate (by decide) _) (fun j _ => gd_replicate _ _) (by rw [gd_replicate]; exact Nat.pow_pos (by decide)) (by rw [val_replicate]; simp [val])
  refine ⟨U, h1, h2, h3, ?_⟩
  refine ev_eq quot_shifted.f_eq ?_
  rw [nl_length, succ_wrap (by omega), Int.toNat_natCast]
  refine ev_pos (by omega) (ev_pos (by omega) ?_)
  rw [show List.replicate (x.length + 1) (0 : Int) = nl (List.replicate (x.length + 1) 0) from nl_replicate _ 0]
  exact h4

theorem shr32 {v k : Nat} (hk : k < 32) : (v : Int).fdiv (2 ^ (min ((k : Nat) : Int).toNat 32)) = ((v / 2 ^ k : Nat) : Int) := by
  rw [Int.toNat_natCast, Nat.min_eq_left (a := k) (b := 32) (by omega), Int.fdiv_eq_ediv_of_nonneg _ (Int.le_of_lt (Int.pow_pos (by decide))), Int.natCast_ediv, Int.natCast_pow]; rfl
theorem shr64 {v k : Nat} (hk : k < 32) : (v : Int).fdiv (2 ^ (min ((k : Nat) : Int).toNat 64)) = ((v / 2 ^ k : Nat) : Int) := by
  rw [Int.toNat_natCast, Nat.min_eq_left (a := k) (b := 64) (by omega), Int.fdiv_eq_ediv_of_nonneg _ (Int.le_of_lt (Int.pow_pos (by decide))), Int.natCast_ediv, Int.natCast_pow]; rfl
end Go.Proofs.Yteidggfjcanbjaa.F
