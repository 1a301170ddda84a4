/- Products, powers, bits, small values; the document's differences, products and numbers of limbs. -/
import Derived.Test.YteidggfjcanbjaaQClockMoreN2
namespace Go.Proofs.Yteidggfjcanbjaa.F
open Go Go.Proofs.Yteidggfjcanbjaa.E
set_option linter.unusedVariables false
set_option linter.unusedSimpArgs false

/-! ### the document's difference -/
/-! ### how long decimals are -/
theorem dn_le_ln (n : Nat) : dn n ≤ 10 * ln n := by
  refine (dg_len b10 n _).mpr ?_
  have h := dg_lt b32 n
  have h2 : 4294967296 ^ ln n ≤ 10 ^ (10 * ln n) := by rw [Nat.pow_mul]; exact Nat.pow_le_pow_left (by decide) _
  exact Nat.lt_of_lt_of_le h h2

theorem len_mul {B : Nat} (hB : 2 ≤ B) (a b : Nat) : (dg B (a * b)).length ≤ (dg B a).length + (dg B b).length := by
  refine (dg_len hB _ _).mpr ?_
  rw [Nat.pow_add]
  exact Nat.mul_lt_mul'' (dg_lt hB a) (dg_lt hB b)
theorem len_add {B : Nat} (hB : 2 ≤ B) (a b : Nat) : (dg B (a + b)).length ≤ max (dg B a).length (dg B b).length + 1 := by
  refine (dg_len hB _ _).mpr ?_
  have h1 := Nat.lt_of_lt_of_le (dg_lt hB a) (Nat.pow_le_pow_right (n := B) (by omega) (Nat.le_max_left _ (dg B b).length))
  have h2 := Nat.lt_of_lt_of_le (dg_lt hB b) (Nat.pow_le_pow_right (n := B) (by omega) (Nat.le_max_right (dg B a).length _))
  rw [Nat.pow_succ]
  have := Nat.mul_le_mul_left (B ^ max (dg B a).length (dg B b).length) hB
  omega
theorem ln_mul (a b : Nat) : ln (a * b) ≤ ln a + ln b := len_mul b32 a b
theorem dn_mul (a b : Nat) : dn (a * b) ≤ dn a + dn b := len_mul b10 a b
theorem ln_add (a b : Nat) : ln (a + b) ≤ max (ln a) (ln b) + 1 := len_add b32 a b
theorem dn_add (a b : Nat) : dn (a + b) ≤ max (dn a) (dn b) + 1 := len_add b10 a b
theorem ln_mono {a b : Nat} (h : a ≤ b) : ln a ≤ ln b := dg_len_mono b32 h
theorem dn_mono {a b : Nat} (h : a ≤ b) : dn a ≤ dn b := dg_len_mono b10 h
theorem ln_small {n : Nat} (h : n < 18446744073709551616) : ln n ≤ 2 := (dg_len b32 n 2).mpr (by omega)
theorem dn_small {n : Nat} (h : n < 18446744073709551616) : dn n ≤ 20 := (dg_len b10 n 20).mpr (by omega)
theorem ln_val {l : List Nat} (hd : Dg 4294967296 l) : ln (val 4294967296 l) ≤ l.length := (dg_len b32 _ _).mpr (val_lt (by decide) hd)
theorem dn_val {l : List Nat} (hd : Dg 10 l) : dn (val 10 l) ≤ l.length := (dg_len b10 _ _).mpr (val_lt (by decide) hd)

/-! ### numbers of limbs -/
/-! ### the document's product -/
theorem u32_nat (n : Nat) : IntKind.u32.wrap (n : Int) = ((n % 4294967296 : Nat) : Int) := by rw [u32_def]; omega
theorem fdiv32 (n : Nat) : (n : Int).fdiv (2 ^ 32) = ((n / 4294967296 : Nat) : Int) := by rw [Int.fdiv_eq_ediv_of_nonneg _ (by decide)]; omega
theorem fdiv1 (n : Nat) : (n : Int).fdiv (2 ^ 1) = ((n / 2 : Nat) : Int) := by rw [Int.fdiv_eq_ediv_of_nonneg _ (by decide)]; omega
theorem fdiv16 (n : Nat) : (n : Int).fdiv (2 ^ 16) = ((n / 65536 : Nat) : Int) := by rw [Int.fdiv_eq_ediv_of_nonneg _ (by decide)]; omega
theorem fdiv8 (n : Nat) : (n : Int).fdiv (2 ^ 8) = ((n / 256 : Nat) : Int) := by rw [Int.fdiv_eq_ediv_of_nonneg _ (by decide)]; omega
/-! ### the program's product -/
theorem mul_step {c u v o : Nat} (hc : c < 4294967296) (hu : u < 4294967296) (hv : v < 4294967296) (ho : o < 4294967296) :
    IntKind.u64.wrap ((c : Int) + (IntKind.u64.wrap ((IntKind.u64.wrap ((IntKind.u64.wrap (u : Int)) * (IntKind.u64.wrap (v : Int)))) + (IntKind.u64.wrap (o : Int))))) = ((c + (u * v + o) : Nat) : Int) ∧ (c + (u * v + o)) / 4294967296 < 4294967296 := by
  have hp : u * v ≤ 4294967295 * 4294967295 := Nat.mul_le_mul (by omega) (by omega)
  obtain ⟨p, hpp⟩ : ∃ p, p = u * v := ⟨_, rfl⟩
  rw [wrap_u64_nat (n := u) (by omega), wrap_u64_nat (n := v) (by omega), wrap_u64_nat (n := o) (by omega), show (u : Int) * (v : Int) = ((u * v : Nat) : Int) from (Int.natCast_mul u v).symm]
  rw [← hpp] at hp ⊢
  rw [wrap_u64_nat (by omega), show (p : Int) + (o : Int) = ((p + o : Nat) : Int) from (Int.natCast_add _ _).symm, wrap_u64_nat (by omega), show (c : Int) + ((p + o : Nat) : Int) = ((c + (p + o) : Nat) : Int) from (Int.natCast_add _ _).symm, wrap_u64_nat (by omega)]
  exact ⟨rfl, by omega⟩
theorem mul_inner (x y : List Nat) (hx : Dg 4294967296 x) (hy : Dg 4294967296 y) (hlx : x.length ≤ 549755813888) (hly : y.length ≤ 549755813888) (i : Nat) (hi : i < x.length) (T : Nat) {r : List Int}
    (nxt : ∀ out, out.length = x.length + y.length → Dg 4294967296 out → (∀ j, i + 1 + y.length ≤ j → gd out j = 0) → val 4294967296 out = T + 4294967296 ^ i * (gd x i * val 4294967296 y) →
      Ev (times_Mul.l0 [] (nl y) (nl out) (nl x) (x.length : Int) ((i + 1 : Nat) : Int)) r) :
    ∀ (d j c : Nat) (out : List Nat), j + d = y.length → out.length = x.length + y.length → Dg 4294967296 out → (∀ j, i + y.length ≤ j → gd out j = 0) → c < 4294967296 → val 4294967296 out + 4294967296 ^ (i + j) * c = T + 4294967296 ^ i * (gd x i * val 4294967296 (y.take j)) →
      Ev (times_Mul.l1 [] (nl y) (nl out) (i : Int) ((gd x i : Nat) : Int) (c : Int) (nl x) (x.length : Int) (i : Int) (nl y) (y.length : Int) (j : Int)) r := by
  intro d
  induction d with
  | zero =>
    intro j c out hj ho hd hz hc hv
    have hj : j = y.length := by omega
    subst hj
    refine ev_loop times_Mul.l1_eq times_Mul.l1_step ?_
    refine ev_neg (by omega) ?_
    rw [nl_length, wrap_add (by omega), Int.toNat_natCast, u32_id (x := (c : Int)) (by omega) (by omega), nl_set, succ_wrap (by omega), nl_length]
    refine ev_pos (by omega) (ev_pos (by omega) ?_)
    have hs := val_set 4294967296 out (i + y.length) c (by omega)
    rw [hz _ (Nat.le_refl _), Nat.mul_zero, Nat.add_zero] at hs
    refine nxt (out.set (i + y.length) c) (by rw [List.length_set]; exact ho) (hd.set _ hc) ?_ ?_
    · intro j hj
      rw [gd_set _ _ _ _ (by omega), if_neg (by omega)]
      exact hz j (by omega)
    · rw [hs, hv, List.take_of_length_le (Nat.le_refl _)]
  | succ d ih =>
    intro j c out hj ho hd hz hc hv
    have hu := hx.gd (by decide) i
    have hw := hy.gd (by decide) j
    have ho2 := hd.gd (by decide) (i + j)
    refine ev_loop times_Mul.l1_eq times_Mul.l1_step ?_
    refine ev_pos (by omega) (ev_pos (by omega) (ev_pos (by rw [nl_length]; omega) ?_))
    rw [wrap_add (by omega)]
    refine ev_pos (by omega) (ev_pos (by rw [nl_length]; omega) (ev_pos (by omega) (ev_pos (by rw [nl_length]; omega) ?_)))
    rw [rd_nl, Int.toNat_natCast, getD_nl]
    obtain ⟨u, hu1⟩ : ∃ u, gd x i = u := ⟨_, rfl⟩
    obtain ⟨v, hv1⟩ : ∃ u, gd y j = u := ⟨_, rfl⟩
    obtain ⟨o, ho1⟩ : ∃ u, gd out (i + j) = u := ⟨_, rfl⟩
    have hst := mul_step hc hu hw ho2
    have ih := ih (j + 1) ((c + (gd x i * gd y j + gd out (i + j))) / 4294967296) (out.set (i + j) ((c + (gd x i * gd y j + gd out (i + j))) % 4294967296)) (by omega) (by rw [List.length_set]; exact ho) (hd.set _ (Nat.mod_lt _ (by decide)))
      (by intro q hq; rw [gd_set _ _ _ _ (by omega), if_neg (by omega)]; exact hz q hq) hst.2
    rw [hu1, hv1, ho1] at hst ih ⊢
    rw [hu1] at hu hv
    rw [hv1] at hw
    rw [ho1] at ho2
    rw [hst.1, u32_nat, fdiv32, nl_set, succ_wrap (by omega)]
    refine ih ?_
    have hs := val_set 4294967296 out (i + j) ((c + (u * v + o)) % 4294967296) (by omega)
    rw [ho1] at hs
    rw [val_take_succ, hv1]
    have hm := Nat.mod_add_div (c + (u * v + o)) 4294967296
    rw [show i + (j + 1) = i + j + 1 by omega, Nat.mul_add u, Nat.mul_add (4294967296 ^ i), show 4294967296 ^ i * (u * (4294967296 ^ j * v)) = 4294967296 ^ (i + j) * (u * v) by rw [Nat.pow_add, Nat.mul_assoc, Nat.mul_left_comm u], Nat.pow_succ]
    generalize 4294967296 ^ (i + j) = P at hv hs ⊢
    generalize 4294967296 ^ i * (u * val 4294967296 (y.take j)) = Q at hv ⊢
    generalize u * v = x at *
    generalize (c + (x + o)) % 4294967296 = md at *
    generalize (c + (x + o)) / 4294967296 = dv at *
    have e1 : P * (md + 4294967296 * dv) = P * c + P * x + P * o := by rw [hm, Nat.mul_add, Nat.mul_add]; omega
    rw [Nat.mul_add, ← Nat.mul_assoc] at e1
    omega
theorem mul_outer (x y : List Nat) (hx : Dg 4294967296 x) (hy : Dg 4294967296 y) (hlx : x.length ≤ 549755813888) (hly : y.length ≤ 549755813888) : ∀ (d i : Nat) (out : List Nat), i + d = x.length → out.length = x.length + y.length → Dg 4294967296 out → (∀ j, i + y.length ≤ j → gd out j = 0) → val 4294967296 out = val 4294967296 (x.take i) * val 4294967296 y →
    Ev (times_Mul.l0 [] (nl y) (nl out) (nl x) (x.length : Int) (i : Int)) (L (val 4294967296 x * val 4294967296 y)) := by
  intro d
  induction d with
  | zero =>
    intro i out hi ho hd hz hv
    refine ev_loop times_Mul.l0_eq times_Mul.l0_step ?_
    refine ev_neg (by omega) ?_
    rw [List.take_of_length_le (by omega)] at hv
    rw [← hv]
    exact (made_val (by omega) hd).bind (ev_now rfl)
  | succ d ih =>
    intro i out hi ho hd hz hv
    refine ev_loop times_Mul.l0_eq times_Mul.l0_step ?_
    refine ev_pos (by omega) (ev_pos (by omega) (ev_pos (by rw [nl_length]; omega) ?_))
    rw [rd_nl, nl_length]
    refine mul_inner x y hx hy hlx hly i (by omega) (val 4294967296 (x.take i) * val 4294967296 y) ?_ y.length 0 0 out (by omega) ho hd hz (by decide) (by rw [hv]; simp [val])
    intro out2 h1 h2 h3 h4
    refine ih (i + 1) out2 (by omega) h1 h2 h3 ?_
    rw [h4, val_take_succ]
    grind
theorem nmul {m n : Nat} (hm : ln m ≤ 549755813888) (hn : ln n ≤ 549755813888) : Ev (times_Mul.f (L m) (L n)) (L (m * n)) := by
  refine ev_eq times_Mul.f_eq ?_
  refine Ev.bind (limbs_nl (by rw [L_length]; omega)) (Ev.bind (limbs_nl (by rw [L_length]; omega)) ?_)
  rw [L_length, L_length, wrap_add (by omega), Int.toNat_natCast]
  refine ev_pos (by omega) (ev_pos (by omega) ?_)
  have h := mul_outer (dg 4294967296 m) (dg 4294967296 n) (Dg_dg b32 m) (Dg_dg b32 n) hm hn (ln m) 0 (List.replicate (ln m + ln n) 0) (by unfold ln; omega) (by rw [List.length_replicate]; rfl) (Dg.replicate (by decide) _) (fun j _ => gd_replicate _ _) (by rw [val_replicate]; simp [val])
  rw [val_dg b32, val_dg b32] at h
  rw [show List.replicate (ln m + ln n) (0 : Int) = nl (List.replicate (ln m + ln n) 0) from nl_replicate _ 0]
  exact h

/-! ### powers -/
theorem npow_loop : ∀ (k n out c : Nat), k < 9223372036854775808 → ln out + 2 * (k * c) ≤ 549755813888 → ln n ≤ c → Ev (times_Pow.l0 (k : Int) (L n) [] (L out)) (L (out * n ^ k)) := by
  intro k
  induction k using Nat.strongRecOn with
  | _ k ih =>
    intro n out c hk ho hn
    refine ev_loop times_Pow.l0_eq times_Pow.l0_step ?_
    rcases Nat.eq_zero_or_pos k with rfl | h0
    · exact ev_neg (by omega) (ev_now (by rw [Nat.pow_zero, Nat.mul_one]))
    · refine ev_pos (by omega) ?_
      rw [and_one hk]
      have e2 := fdiv1 k
      have hnn : ln (n * n) ≤ 2 * c := Nat.le_trans (ln_mul n n) (by omega)
      have hc1 : c ≤ k * c := by
        have := Nat.mul_le_mul_right c h0
        rw [Nat.succ_eq_add_one, Nat.zero_add, Nat.one_mul] at this
        exact this
      rw [e2]
      by_cases hodd : k % 2 = 1
      · refine ev_pos (by omega) (Ev.bind (nmul (by omega) (by omega)) ?_)
        have hon : ln (out * n) ≤ ln out + c := Nat.le_trans (ln_mul out n) (by omega)
        by_cases h1 : k = 1
        · refine ev_neg (by omega) ?_
          subst h1
          have := ih 0 (by omega) n (out * n) c (by omega) (by omega) hn
          rw [Nat.pow_zero, Nat.mul_one] at this
          rw [Nat.pow_one]
          exact this
        · refine ev_pos (by omega) (Ev.bind (nmul (by omega) (by omega)) ?_)
          have hk2 : k / 2 * (2 * c) = (k - 1) * c := by
            rw [← Nat.mul_assoc, show k / 2 * 2 = k - 1 by omega]
          have hk3 : (k - 1) * c + c = k * c := by
            rw [← Nat.succ_mul]; congr 1; omega
          have := ih (k / 2) (by omega) (n * n) (out * n) (2 * c) (by omega) (by omega) hnn
          have e3 : out * n * (n * n) ^ (k / 2) = out * n ^ k := by
            rw [Nat.mul_assoc, show (n * n) = n ^ 2 by rw [Nat.pow_two], ← Nat.pow_mul, ← Nat.pow_succ']
            rw [show (2 * (k / 2)).succ = k by omega]
          rw [e3] at this
          exact this
      · refine ev_neg (by omega) (ev_pos (by omega) (Ev.bind (nmul (by omega) (by omega)) ?_))
        have hk2 : k / 2 * (2 * c) = k * c := by
          rw [← Nat.mul_assoc, show k / 2 * 2 = k by omega]
        have := ih (k / 2) (by omega) (n * n) out (2 * c) (by omega) (by omega) hnn
        have e3 : out * (n * n) ^ (k / 2) = out * n ^ k := by
          rw [show (n * n) = n ^ 2 by rw [Nat.pow_two], ← Nat.pow_mul]
          rw [show (2 * (k / 2)) = k by omega]
        rw [e3] at this
        exact this
theorem npow {n k : Nat} (hk : k < 9223372036854775808) (h : 2 * (k * ln n) ≤ 274877906944) : Ev (times_Pow.f (L n) (k : Int)) (L (n ^ k)) := by
  refine ev_eq times_Pow.f_eq (Ev.bind (of_val (n := 1) (by decide)) ?_)
  have h1 : ln 1 ≤ 2 := ln_small (by decide)
  have := npow_loop k n 1 (ln n) hk (by omega) (Nat.le_refl _)
  rw [Nat.one_mul] at this
  exact this
theorem npow_neg {n : Nat} {k : Int} (hk : k ≤ 0) : Ev (times_Pow.f (L n) k) (L 1) := by
  refine ev_eq times_Pow.f_eq (Ev.bind (of_val (n := 1) (by decide)) ?_)
  refine ev_loop times_Pow.l0_eq times_Pow.l0_step ?_
  exact ev_neg (by omega) (ev_now rfl)
/-! ### bits -/
def bl (n : Nat) : Nat := if n = 0 then 0 else n.log2 + 1
theorem bl_le (n k : Nat) : bl n ≤ k ↔ n < 2 ^ k := by
  unfold bl
  by_cases h : n = 0
  · subst h; simp; exact Nat.pow_pos (by decide)
  · rw [if_neg h, ← Nat.log2_lt h]; omega
theorem bl_lt (n : Nat) : n < 2 ^ bl n := (bl_le n _).mp (Nat.le_refl _)
theorem bl_ge {n : Nat} (h : 0 < n) : 2 ^ (bl n - 1) ≤ n := by
  rcases Nat.lt_or_ge n (2 ^ (bl n - 1)) with h1 | h1
  · have := (bl_le n _).mpr h1
    have h2 : 0 < bl n := by unfold bl; rw [if_neg (by omega)]; omega
    omega
  · exact h1
theorem bl_eq {n k : Nat} (h1 : 2 ^ k ≤ n) (h2 : n < 2 ^ (k + 1)) : bl n = k + 1 := by
  have h3 := (bl_le n (k + 1)).mpr h2
  have h4 : ¬ bl n ≤ k := fun h => by have := (bl_le n k).mp h; omega
  omega
theorem bl_zero : bl 0 = 0 := rfl
theorem bl_pos {n : Nat} (h : 0 < n) : 0 < bl n := by unfold bl; rw [if_neg (by omega)]; omega
theorem bl_mono {m n : Nat} (h : m ≤ n) : bl m ≤ bl n := (bl_le m _).mpr (Nat.lt_of_le_of_lt h (bl_lt n))
theorem bl_shift {t low k : Nat} (ht : 0 < t) (hl : low < 2 ^ k) : bl (low + 2 ^ k * t) = k + bl t := by
  have h1 := bl_ge ht
  have h2 := bl_lt t
  have h3 := bl_pos ht
  obtain ⟨b, hb⟩ : ∃ b, bl t = b + 1 := ⟨bl t - 1, by omega⟩
  rw [hb] at h1 h2 ⊢
  rw [Nat.add_sub_cancel] at h1
  refine bl_eq (k := k + b) ?_ ?_
  · rw [Nat.pow_add]
    have := Nat.mul_le_mul_left (2 ^ k) h1
    omega
  · rw [show k + b + 1 = k + (b + 1) by omega, Nat.pow_add]
    have := Nat.mul_le_mul_left (2 ^ k) (Nat.succ_le_of_lt h2)
    rw [Nat.succ_eq_add_one, Nat.mul_add] at this
    omega
def lenTab : ByteArray := (⟨#[0, 1, 2, 2, 3, 3, 3, 3, 4, 4, 4, 4, 4, 4, 4, 4, 5, 5, 5, 5, 5, 5, 5, 5, 5, 5, 5, 5, 5, 5, 5, 5, 6, 6, 6, 6, 6, 6, 6, 6, 6, 6, 6, 6, 6, 6, 6, 6, 6, 6, 6, 6, 6, 6, 6, 6, 6, 6, 6, 6, 6, 6, 6, 6, 7, 7, 7, 7, 7, 7, 7, 7, 7, 7, 7, 7, 7, 7, 7, 7, 7, 7, 7, 7, 7, 7, 7, 7, 7, 7, 7, 7, 7, 7, 7, 7, 7, 7, 7, 7, 7, 7, 7, 7, 7, 7, 7, 7, 7, 7, 7, 7, 7, 7, 7, 7, 7, 7, 7, 7, 7, 7, 7, 7, 7, 7, 7, 7, 8, 8, 8, 8, 8, 8, 8, 8, 8, 8, 8, 8, 8, 8, 8, 8, 8, 8, 8, 8, 8, 8, 8, 8, 8, 8, 8, 8, 8, 8, 8, 8, 8, 8, 8, 8, 8, 8, 8, 8, 8, 8, 8, 8, 8, 8, 8, 8, 8, 8, 8, 8, 8, 8, 8, 8, 8, 8, 8, 8, 8, 8, 8, 8, 8, 8, 8, 8, 8, 8, 8, 8, 8, 8, 8, 8, 8, 8, 8, 8, 8, 8, 8, 8, 8, 8, 8, 8, 8, 8, 8, 8, 8, 8, 8, 8, 8, 8, 8, 8, 8, 8, 8, 8, 8, 8, 8, 8, 8, 8, 8, 8, 8, 8, 8, 8, 8, 8, 8, 8, 8, 8, 8, 8, 8, 8, 8, 8]⟩ : ByteArray)
def lenAt (x : Int) (b : Int) : M Int := if 0 ≤ IntKind.u8.wrap x then (if IntKind.u8.wrap x < (lenTab.size : Int) then M.ret (IntKind.i64.wrap (b + IntKind.i64.wrap (byteAt lenTab (IntKind.u8.wrap x)))) else M.none) else M.none
theorem len32_def (a : Int) : mbits_Len32.f a = if a ≥ 65536 then (if a.fdiv (2 ^ 16) ≥ 256 then lenAt ((a.fdiv (2 ^ 16)).fdiv (2 ^ 8)) (IntKind.i64.wrap (16 + 8)) else lenAt (a.fdiv (2 ^ 16)) 16) else (if a ≥ 256 then lenAt (a.fdiv (2 ^ 8)) (IntKind.i64.wrap (0 + 8)) else lenAt a 0) := mbits_Len32.f_eq
theorem lenAt_ok {t : Nat} (ht : t < 256) {b : Nat} (hb : b ≤ 24) : Ev (lenAt (t : Int) (b : Int)) ((b + bl t : Nat) : Int) := by
  have h8 := (bl_le t 8).mpr (by omega)
  have e : byteAt lenTab (t : Int) = (bl t : Int) := by
    have : ∀ j : Fin 256, byteAt lenTab (j.val : Int) = (bl j.val : Int) := by decide +kernel
    exact this ⟨t, ht⟩
  have hs : (lenTab.size : Int) = 256 := by decide +kernel
  unfold lenAt
  rw [u8_id (x := (t : Int)) (by omega) (by omega), e, hs]
  exact ev_pos (by omega) (ev_pos (by omega) (ev_now (by rw [wrap_nat (by omega), wrap_add (by omega)])))
theorem len32 {a : Nat} (ha : a < 4294967296) : Ev (mbits_Len32.f (a : Int)) ((bl a : Nat) : Int) := by
  have key : ∀ (s t : Nat), t < 256 → (s = 0 ∨ 0 < t) → s ≤ 24 → a / 2 ^ s = t → bl a = s + bl t := by
    intro s t ht h hs hat
    have hm := Nat.mod_add_div a (2 ^ s)
    rw [hat] at hm
    rcases h with rfl | h
    · rw [Nat.pow_zero] at hat; rw [← hat, Nat.div_one]; omega
    · have := bl_shift h (Nat.mod_lt a (Nat.pow_pos (n := s) (by decide : 0 < 2)))
      rw [hm] at this
      omega
  rw [len32_def]
  by_cases h1 : 65536 ≤ a
  · refine ev_pos (by omega) ?_
    rw [fdiv16]
    by_cases h2 : 16777216 ≤ a
    · refine ev_pos (by omega) ?_
      rw [fdiv8, show a / 65536 / 256 = a / 16777216 by omega, key 24 (a / 16777216) (by omega) (.inr (by omega)) (by omega) rfl]
      exact lenAt_ok (by omega) (b := 24) (by omega)
    · refine ev_neg (by omega) ?_
      rw [key 16 (a / 65536) (by omega) (.inr (by omega)) (by omega) rfl]
      exact lenAt_ok (by omega) (b := 16) (by omega)
  · refine ev_neg (by omega) ?_
    by_cases h2 : 256 ≤ a
    · refine ev_pos (by omega) ?_
      rw [fdiv8, key 8 (a / 256) (by omega) (.inr (by omega)) (by omega) rfl]
      exact lenAt_ok (by omega) (b := 8) (by omega)
    · refine ev_neg (by omega) ?_
      have := lenAt_ok (t := a) (by omega) (b := 0) (by omega)
      rw [Nat.zero_add] at this
      exact this
theorem nbits {n : Nat} (hl : ln n ≤ 1099511627776) : Ev (nat_Nat_Bits.f (L n)) ((bl n : Nat) : Int) := by
  refine ev_eq nat_Nat_Bits.f_eq ?_
  rw [L_length]
  rcases Nat.eq_zero_or_pos n with rfl | hn
  · exact ev_pos rfl (ev_now rfl)
  · have h0 : 0 < ln n := by unfold ln; rw [dg_pos b32 hn]; simp
    obtain ⟨m, hm⟩ : ∃ m, ln n = m + 1 := ⟨ln n - 1, by omega⟩
    have hdl : (dg 4294967296 n).length = m + 1 := hm
    rw [hm, pred_wrap (by omega)]
    refine ev_neg (by omega) (ev_pos (by omega) (ev_pos (by omega) ?_))
    unfold L
    have hg := (Dg_dg b32 n).gd (by decide) m
    rw [rd_nl, show (32 : Int) * (m : Int) = ((32 * m : Nat) : Int) by omega, wrap_nat (by omega)]
    refine Ev.bind (len32 hg) (ev_now ?_)
    have h1 := dg_last b32 hn
    rw [hdl, Nat.add_sub_cancel] at h1
    have h2 := val_split 4294967296 (dg 4294967296 n) m (by omega)
    rw [val_drop _ _ _ (by omega), List.drop_of_length_le (by omega), val_dg b32] at h2
    have h3 := val_lt (by decide) ((Dg_dg b32 n).take m)
    rw [List.length_take, Nat.min_eq_left (by omega)] at h3
    have e : (4294967296 : Nat) ^ m = 2 ^ (32 * m) := by rw [Nat.pow_mul]
    rw [e] at h2 h3
    have h4 := bl_shift h1 h3
    rw [show val 4294967296 [] = 0 from rfl, Nat.mul_zero, Nat.add_zero] at h2
    rw [← h2] at h4
    have h5 := (bl_le (gd (dg 4294967296 n) m) 32).mpr hg
    rw [wrap_add (by omega), h4]

/-! ### small values -/
theorem nsmall_big {n : Nat} (h : 18446744073709551616 ≤ n) : Ev (nat_Nat_Small.f (L n)) (0, false) := by
  refine ev_eq nat_Nat_Small.f_eq ?_
  rw [L_length]
  have : ¬ ln n ≤ 2 := fun h2 => by have := dg_len_le b32 h2; omega
  exact ev_pos (by omega) (ev_now rfl)
theorem nsmall {n : Nat} (h : n < 18446744073709551616) : Ev (nat_Nat_Small.f (L n)) ((n : Int), true) := by
  refine ev_eq nat_Nat_Small.f_eq ?_
  rw [L_length]
  have h2 := ln_small h
  refine ev_neg (by omega) ?_
  have shl0 : ∀ x : Nat, x < 4294967296 → IntKind.u64.wrap (IntKind.u64.wrap (x : Int) * 2 ^ (min (IntKind.i64.wrap (32 * 0)).toNat 64)) = (x : Int) := by
    intro x hx
    rw [wrap_u64_nat (by omega), wrap_id (by omega) (by omega)]
    show IntKind.u64.wrap ((x : Int) * 1) = _
    rw [Int.mul_one, wrap_u64_nat (by omega)]
  have shl1 : ∀ x : Nat, x < 4294967296 → IntKind.u64.wrap (IntKind.u64.wrap (x : Int) * 2 ^ (min (IntKind.i64.wrap (32 * 1)).toNat 64)) = ((4294967296 * x : Nat) : Int) := by
    intro x hx
    rw [wrap_u64_nat (by omega), wrap_id (by omega) (by omega)]
    show IntKind.u64.wrap ((x : Int) * 4294967296) = _
    rw [u64_id] <;> omega
  rcases Nat.eq_zero_or_pos n with rfl | hn
  · refine ev_loop nat_Nat_Small.l0_eq nat_Nat_Small.l0_step ?_
    exact ev_neg (by decide) (ev_now rfl)
  · by_cases h1 : n < 4294967296
    · have e : dg 4294967296 n = [n] := by rw [dg_pos b32 hn, Nat.div_eq_of_lt h1, Nat.mod_eq_of_lt h1]; rfl
      have el : L n = nl [n] := by unfold L; rw [e]
      have eln : ln n = 1 := by unfold ln; rw [e]; rfl
      rw [eln, el]
      refine ev_loop nat_Nat_Small.l0_eq nat_Nat_Small.l0_step ?_
      refine ev_pos (by omega) (ev_pos (by omega) (ev_pos (by rw [nl_length]; simp) (ev_pos (by rw [wrap_id] <;> omega) ?_)))
      rw [show (0 : Int) = ((0 : Nat) : Int) from rfl, rd_nl, gd_cons_zero, show (((0 : Nat) : Int)) = 0 from rfl, shl0 n h1]
      rw [show (0 : Int) = ((0 : Nat) : Int) from rfl, bits_or64 (by omega) (by omega), Nat.zero_or, succ_wrap (by omega)]
      refine ev_loop nat_Nat_Small.l0_eq nat_Nat_Small.l0_step ?_
      exact ev_neg (by omega) (ev_now rfl)
    · have e : dg 4294967296 n = [n % 4294967296, n / 4294967296] := by
        rw [dg_pos b32 hn, dg_pos b32 (by omega), Nat.div_eq_of_lt (a := n / 4294967296) (by omega), Nat.mod_eq_of_lt (a := n / 4294967296) (by omega)]; rfl
      have el : L n = nl [n % 4294967296, n / 4294967296] := by unfold L; rw [e]
      have eln : ln n = 2 := by unfold ln; rw [e]; rfl
      rw [eln, el]
      refine ev_loop nat_Nat_Small.l0_eq nat_Nat_Small.l0_step ?_
      refine ev_pos (by omega) (ev_pos (by omega) (ev_pos (by rw [nl_length]; simp) (ev_pos (by rw [wrap_id] <;> omega) ?_)))
      rw [show (0 : Int) = ((0 : Nat) : Int) from rfl, rd_nl, gd_cons_zero, show (((0 : Nat) : Int)) = 0 from rfl, shl0 _ (Nat.mod_lt _ (by decide))]
      rw [show (0 : Int) = ((0 : Nat) : Int) from rfl, bits_or64 (by omega) (by omega), Nat.zero_or, succ_wrap (by omega)]
      refine ev_loop nat_Nat_Small.l0_eq nat_Nat_Small.l0_step ?_
      refine ev_pos (by omega) (ev_pos (by omega) (ev_pos (by rw [nl_length]; simp) (ev_pos (by rw [wrap_id] <;> omega) ?_)))
      rw [rd_nl, gd_cons_succ, gd_cons_zero, show ((0 + 1 : Nat) : Int) = 1 from rfl, shl1 _ (by omega), bits_or64 (by omega) (by omega)]
      have e3 : n % 4294967296 ||| 4294967296 * (n / 4294967296) = n := by
        have := Nat.two_pow_add_eq_or_of_lt (i := 32) (b := n % 4294967296) (Nat.mod_lt _ (by decide)) (n / 4294967296)
        have h9 : 4294967296 * (n / 4294967296) + n % 4294967296 = (4294967296 * (n / 4294967296) ||| n % 4294967296) := this
        rw [Nat.or_comm]
        omega
      rw [e3, show IntKind.i64.wrap ((1 : Int) + 1) = ((2 : Nat) : Int) by rw [wrap_id] <;> omega]
      refine ev_loop nat_Nat_Small.l0_eq nat_Nat_Small.l0_step ?_
      exact ev_neg (by omega) (ev_now rfl)
end Go.Proofs.Yteidggfjcanbjaa.F
