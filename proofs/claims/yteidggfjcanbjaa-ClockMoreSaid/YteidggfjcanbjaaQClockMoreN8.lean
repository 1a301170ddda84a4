/- The long division (Knuth's D), quotients of numbers, halves, the greatest common divisor; the document's quotient. -/
import Derived.Test.YteidggfjcanbjaaQClockMoreN7
namespace Go.Proofs.Yteidggfjcanbjaa.F
open Go Go.Proofs.Yteidggfjcanbjaa.E
set_option linter.unusedVariables false
set_option linter.unusedSimpArgs false

theorem long_loop (v : List Nat) (n K X m : Nat) (hn : v.length = n + 2) (hK : K < 32) (hdv : Dg 4294967296 v) (htop : 2147483648 ≤ gd v (n + 1)) (hb : m ≤ 1099511627776) : ∀ (i : Nat) (u q : List Nat), u.length = m → i + (n + 2) ≤ m → i ≤ q.length → q.length ≤ 1099511627776 → Dg 4294967296 u → Dg 4294967296 q → val 4294967296 (u.drop i) < val 4294967296 v → val 4294967296 u + 4294967296 ^ i * (val 4294967296 v * val 4294967296 (q.drop i)) = X →
    ∃ (Q R : List Nat) (w : Nat), Q.length = q.length ∧ Dg 4294967296 Q ∧ R.length = n + 2 ∧ Dg 4294967296 R ∧ w < val 4294967296 v ∧ w + val 4294967296 v * val 4294967296 Q = X ∧ val 4294967296 R = w / 2 ^ K ∧ Ev (quot_long.l0 (K : Int) (nl u) (nl v) (nl q) ((i : Int) - 1)) (nl Q, nl R) := by
  intro i
  induction i with
  | zero =>
    intro u q hu hi hq hqb hdu hdq hlt hv
    rw [List.drop_zero] at hlt hv
    rw [Nat.pow_zero, Nat.one_mul] at hv
    have hvl := val_lt (by decide) hdv
    rw [hn] at hvl
    have hs := val_split 4294967296 u (n + 2) (by omega)
    have hz : val 4294967296 (u.drop (n + 2)) = 0 := by
      rcases Nat.eq_zero_or_pos (val 4294967296 (u.drop (n + 2))) with h | h
      · exact h
      · exfalso
        have h1 := Nat.mul_le_mul_left (4294967296 ^ (n + 2)) h
        generalize 4294967296 ^ (n + 2) = P at *
        omega
    rw [hz, Nat.mul_zero, Nat.add_zero] at hs
    obtain ⟨R, h1, h2, h3, h4⟩ := qback (hdu.take (n + 2)) hK (by rw [List.length_take]; omega)
    refine ⟨q, R, val 4294967296 u, rfl, hdq, by rw [h1, List.length_take]; omega, h2, hlt, hv, by rw [h3, ← hs], ?_⟩
    refine ev_loop quot_long.l0_eq quot_long.l0_step ?_
    refine ev_neg (by omega) (ev_pos (by omega) (ev_pos (by rw [nl_length, nl_length]; omega) ?_))
    rw [List.drop_zero, nl_length, hn, Int.toNat_natCast, nl_take]
    exact Ev.bind h4 (ev_now rfl)
  | succ i ih =>
    intro u q hu hi hq hqb hdu hdq hlt hv
    have c1 : (i : Int) ≥ 0 := Int.natCast_nonneg i
    have c3 : (i : Int) ≤ ((i + (n + 3) : Nat) : Int) := Int.ofNat_le.mpr (Nat.le_add_right _ _)
    have c3' : (i : Int) < ((i + (n + 3) : Nat) : Int) := Int.ofNat_lt.mpr (by omega)
    have c12 : (((i + 1 : Nat) : Int) - 1) = (i : Int) := by clear hv hlt; omega
    have c7 : i + (n + 3) ≤ u.length := by clear hv hlt; omega
    have c8 : u.length ≤ 1099511627776 := by clear hv hlt; omega
    have c9 : i + (n + 2) ≤ m := by clear hv hlt; omega
    have c10 : i < q.length := hq
    have c4 : ((i + (n + 3) : Nat) : Int) ≤ (u.length : Int) := Int.ofNat_le.mpr c7
    have c5 : (i : Int) < (q.length : Int) := Int.ofNat_lt.mpr c10
    have c6 : IntKind.i64.wrap ((i : Int) - 1) = (i : Int) - 1 := by clear hv hlt; exact wrap_id (by omega) (by omega)
    have ew : IntKind.i64.wrap ((IntKind.i64.wrap ((i : Int) + ((nl v).length : Int))) + 1) = ((i + (n + 3) : Nat) : Int) := by clear hv hlt; rw [nl_length, hn, wrap_add (by omega), succ_wrap (by omega)]; rfl
    obtain ⟨W, Qd, w1, w2, w3, w4, w5, w6⟩ := long_digit (j := i) hn c7 hdu hdv c8 htop hlt
    obtain ⟨Q, R, w, r1, r2, r3, r4, r5, r6, r7, r8⟩ := ih W (q.set i Qd) (w1.trans hu) c9 (by rw [List.length_set]; exact Nat.le_of_lt c10) (by rw [List.length_set]; exact hqb) w2 (hdq.set i w3) w4 (by
      rw [val_drop _ _ _ (by rw [List.length_set]; exact c10), drop_set_succ, gd_set _ _ _ _ c10, if_pos rfl, Nat.mul_add, Nat.mul_add, ← Nat.add_assoc, w5, ← hv, Nat.pow_succ, Nat.mul_assoc, Nat.mul_left_comm (val 4294967296 v) 4294967296])
    refine ⟨Q, R, w, by rw [r1, List.length_set], r2, r3, r4, r5, r6, r7, ?_⟩
    clear w4 w5 hv hlt r5 r6 r7 ih
    rw [c12]
    refine ev_loop quot_long.l0_eq quot_long.l0_step ?_
    refine ev_pos c1 (ev_pos (by rw [ew]; exact Int.natCast_nonneg _) (ev_pos (by rw [ew, nl_length]; exact c4) (ev_pos c1 (ev_pos (by rw [ew]; exact c3) (ev_pos (by rw [ew]; exact c3') ?_)))))
    refine w6 (f := fun a b => if 0 ≤ (i : Int) then (if (i : Int) < ((nl q).length : Int) then (quot_long.l0 (K : Int) a (nl v) ((nl q).set (i : Int).toNat b) (IntKind.i64.wrap ((i : Int) - 1))) else M.none) else M.none) ?_ _ ew
    refine ev_pos c1 (ev_pos (by rw [nl_length]; exact c5) ?_)
    rw [Int.toNat_natCast, nl_set, c6]
    exact r8

theorem leading {t : Nat} (ht : t < 4294967296) : Ev (mbits_LeadingZeros32.f (t : Int)) (((32 - bl t : Nat) : Int)) := by
  have h1 : bl t ≤ 32 := (bl_le t 32).mpr (by omega)
  refine ev_eq mbits_LeadingZeros32.f_eq (Ev.bind (len32 ht) (ev_now ?_))
  rw [wrap_id (by omega) (by omega)]
  omega

/-- numbers only: the divisor y of n + 2 limbs, the top one t, shifted by K -/
theorem shifted_top {y low t bt K P : Nat} (hy : y = low + P * t) (hl : low < P) (ht : 0 < t) (h1 : t + 1 ≤ 2 ^ bt) (h2 : 2 ^ (bt - 1) ≤ t) (hb : 0 < bt) (hK : bt + K = 32) :
    P ≤ y ∧ y * 2 ^ K < P * 4294967296 ∧ P * 2147483648 ≤ y * 2 ^ K := by
  have hp0 : 0 < 2 ^ K := Nat.pow_pos (by decide)
  have ht2 : (t + 1) * 2 ^ K ≤ 4294967296 := by
    have h3 := Nat.mul_le_mul_right (2 ^ K) h1
    rw [← Nat.pow_add, hK] at h3
    exact h3
  have ht3 : 2147483648 ≤ t * 2 ^ K := by
    have h3 := Nat.mul_le_mul_right (2 ^ K) h2
    rw [← Nat.pow_add, show bt - 1 + K = 31 by omega] at h3
    exact h3
  clear h1 h2
  generalize 2 ^ K = S at *
  refine ⟨?_, ?_, ?_⟩
  · have := Nat.mul_le_mul_left P ht
    rw [Nat.succ_eq_add_one, Nat.zero_add, Nat.mul_one] at this
    omega
  · have h3 : y < P * (t + 1) := by rw [Nat.mul_add, Nat.mul_one]; omega
    refine Nat.lt_of_lt_of_le (Nat.mul_lt_mul_of_pos_right h3 hp0) ?_
    rw [Nat.mul_assoc]
    exact Nat.mul_le_mul_left _ ht2
  · refine Nat.le_trans (Nat.mul_le_mul_left _ ht3) ?_
    rw [← Nat.mul_assoc]
    exact Nat.mul_le_mul_right _ (by omega)
theorem zero_high {Z low P h : Nat} (hs : Z = low + P * h) (hZ : Z < P) : h = 0 := by
  rcases Nat.eq_zero_or_pos h with h0 | h0
  · exact h0
  · exfalso
    have h1 := Nat.mul_le_mul_left P h0
    rw [Nat.succ_eq_add_one, Nat.zero_add, Nat.mul_one] at h1
    omega
theorem top_ge {Z low P g : Nat} (hs : Z = low + P * g) (hl : low < P) (hZ : P * 2147483648 ≤ Z) : 2147483648 ≤ g := by
  rcases Nat.lt_or_ge g 2147483648 with h | h
  · exfalso
    have h4 := Nat.mul_le_mul_left P (Nat.succ_le_of_lt h)
    rw [Nat.succ_eq_add_one, Nat.mul_add, Nat.mul_one] at h4
    omega
  · exact h
theorem start_lt {X S low A h P y : Nat} (hs : X * S = low + A * h) (hX : X < A * P) (hS : 0 < S) (hy : P ≤ y) : h < y * S := by
  have h2 : A * h < A * (y * S) := by
    refine Nat.lt_of_le_of_lt (by rw [hs]; exact Nat.le_add_left _ _) (Nat.lt_of_lt_of_le (Nat.mul_lt_mul_of_pos_right hX hS) ?_)
    rw [← Nat.mul_assoc]
    exact Nat.mul_le_mul_right _ (Nat.mul_le_mul_left _ hy)
  exact Nat.lt_of_mul_lt_mul_left h2
theorem unshift {X y Q w S : Nat} (hS : 0 < S) (hw : w < y * S) (h : w + y * S * Q = X * S) : Q = X / y ∧ w / S = X % y := by
  have e2 : y * S * Q = S * (y * Q) := by rw [Nat.mul_comm y, Nat.mul_assoc]
  rw [Nat.mul_comm X, e2] at h
  rw [Nat.mul_comm y] at hw
  have hle : y * Q ≤ X := by
    refine Nat.le_of_mul_le_mul_left ?_ hS
    rw [← h]; exact Nat.le_add_left _ _
  obtain ⟨d, hd⟩ : ∃ d, X = y * Q + d := ⟨X - y * Q, by omega⟩
  have hw2 : w = S * d := by rw [hd, Nat.mul_add] at h; omega
  have hdl : d < y := by
    rw [hw2] at hw
    exact Nat.lt_of_mul_lt_mul_left hw
  have hyp : 0 < y := by omega
  rw [hd, Nat.mul_add_div hyp, Nat.div_eq_of_lt hdl, Nat.add_zero, Nat.mul_add_mod, Nat.mod_eq_of_lt hdl, hw2, Nat.mul_div_cancel_left _ hS]
  exact ⟨rfl, rfl⟩
theorem last_val {y : List Nat} {n : Nat} (hn : y.length = n + 1) : val 4294967296 y = val 4294967296 (y.take n) + 4294967296 ^ n * gd y n := by
  have ys := val_split 4294967296 y n (by omega)
  rw [val_drop _ y n (by omega), List.drop_of_length_le (by omega)] at ys
  rw [ys]; simp only [val, Nat.mul_zero, Nat.add_zero]
theorem take_lt {y : List Nat} {n : Nat} (hy : Dg 4294967296 y) (hn : n ≤ y.length) : val 4294967296 (y.take n) < 4294967296 ^ n := by
  have h := val_lt (by decide) (hy.take n)
  rw [List.length_take, Nat.min_eq_left hn] at h
  exact h

theorem qlong {x y : List Nat} {n : Nat} (hx : Dg 4294967296 x) (hy : Dg 4294967296 y) (hn : y.length = n + 2) (hxy : y.length ≤ x.length) (hb : x.length ≤ 34359738368) (htop : 0 < gd y (n + 1)) :
    ∃ (Q R : List Nat), Q.length ≤ x.length ∧ Dg 4294967296 Q ∧ R.length ≤ x.length ∧ Dg 4294967296 R ∧ val 4294967296 Q = val 4294967296 x / val 4294967296 y ∧ val 4294967296 R = val 4294967296 x % val 4294967296 y ∧ Ev (quot_long.f (nl x) (nl y)) (nl Q, nl R) := by
  have ht := hy.gd (by decide) (n + 1)
  obtain ⟨t, htt⟩ : ∃ t, gd y (n + 1) = t := ⟨_, rfl⟩
  rw [htt] at ht htop
  have hbl : bl t ≤ 32 := (bl_le t 32).mpr ht
  have hbp := bl_pos htop
  obtain ⟨K, hK⟩ : ∃ K, 32 - bl t = K := ⟨_, rfl⟩
  have hK32 : K < 32 := by omega
  have hbK : bl t + K = 32 := by omega
  obtain ⟨U, u1, u2, u3, u4⟩ := qshifted hx hK32 (by omega)
  obtain ⟨V, v1, v2, v3, v4⟩ := qshifted hy hK32 (by omega)
  have hp0 : 0 < 2 ^ K := Nat.pow_pos (by decide)
  have ys := last_val (n := n + 1) hn
  rw [htt] at ys
  obtain ⟨g1, g2, g3⟩ := shifted_top ys (take_lt hy (by omega)) htop (bl_lt t) (bl_ge htop) hbp hbK
  have hs := val_split 4294967296 V (n + 2) (by omega)
  rw [v3] at hs
  have hz := zero_high hs (by rw [show n + 2 = n + 1 + 1 by rfl, Nat.pow_succ]; exact g2)
  rw [hz, Nat.mul_zero, Nat.add_zero] at hs
  have hvl : (V.take (n + 2)).length = n + 2 := by rw [List.length_take]; omega
  have hvt : 2147483648 ≤ gd (V.take (n + 2)) (n + 1) := by
    have h1 := last_val (n := n + 1) hvl
    rw [← hs] at h1
    exact top_ge h1 (take_lt (v2.take _) (by omega)) g3
  have hstart : val 4294967296 (U.drop (x.length - (n + 2) + 1)) < val 4294967296 (V.take (n + 2)) := by
    rw [← hs]
    have h1 := val_split 4294967296 U (x.length - (n + 2) + 1) (by omega)
    rw [u3] at h1
    have hxl := val_lt (by decide) hx
    refine start_lt h1 (P := 4294967296 ^ (n + 1)) ?_ hp0 g1
    rw [← Nat.pow_add, show x.length - (n + 2) + 1 + (n + 1) = x.length by omega]
    exact hxl
  clear g1 g2 g3 ys
  obtain ⟨Q, R, w, r1, r2, r3, r4, r5, r6, r7, r8⟩ := long_loop (V.take (n + 2)) n K (val 4294967296 x * 2 ^ K) (x.length + 1) hvl hK32 (v2.take _) hvt (by omega) (x.length - (n + 2) + 1) U (List.replicate (x.length - (n + 2) + 1) 0) u1 (by omega) (by rw [List.length_replicate]; exact Nat.le_refl _) (by rw [List.length_replicate]; omega) u2 (Dg.replicate (by decide) _) hstart (by
    rw [List.drop_of_length_le (by rw [List.length_replicate]; exact Nat.le_refl _), show val 4294967296 [] = 0 from rfl, Nat.mul_zero, Nat.mul_zero, Nat.add_zero]; exact u3)
  rw [List.length_replicate] at r1
  rw [← hs] at r5 r6
  obtain ⟨q1, q2⟩ := unshift hp0 r5 r6
  refine ⟨Q, R, by omega, r2, by omega, r4, q1, by rw [r7, q2], ?_⟩
  clear r5 r6 r7 q1 q2 hz hs hstart u3 v3 hp0
  have ey : IntKind.i64.wrap (((nl y).length : Int) - 1) = ((n + 1 : Nat) : Int) := by rw [nl_length, hn, wrap_id] <;> omega
  have eq : IntKind.i64.wrap ((IntKind.i64.wrap (((nl x).length : Int) - ((nl y).length : Int))) + 1) = ((x.length - (n + 2) + 1 : Nat) : Int) := by
    rw [nl_length, nl_length, hn, wrap_id (x := ((x.length : Nat) : Int) - ((n + 2 : Nat) : Int)) (by omega) (by omega), wrap_id] <;> omega
  refine ev_eq quot_long.f_eq ?_
  rw [ey, eq, rd_nl, htt]
  refine ev_pos (by omega) (ev_pos (by rw [nl_length]; omega) (Ev.bind (leading ht) ?_))
  rw [hK]
  refine Ev.bind u4 (Ev.bind v4 (ev_pos (by omega) (ev_pos (by rw [nl_length, nl_length]; omega) (ev_pos (by omega) (ev_pos (by omega) ?_)))))
  rw [List.drop_zero, Int.toNat_natCast, nl_length y, Int.toNat_natCast, hn, nl_take, show List.replicate (x.length - (n + 2) + 1) (0 : Int) = nl (List.replicate (x.length - (n + 2) + 1) 0) from nl_replicate _ 0, nl_length, List.length_replicate, wrap_id (by omega) (by omega)]
  exact r8

/-! ### numbers -/
theorem limbs_L {n : Nat} (h : ln n ≤ 1099511627776) : Ev (nat_Nat_Limbs.f (L n)) (L n) := limbs_nl (by rw [L_length]; exact h)
theorem qdiv0 {a : Nat} (ha : ln a ≤ 1099511627776) : Ev (quot_Div.f (L a) (L 0)) (([] : List Int), ([] : List Int), false) := by
  refine ev_eq quot_Div.f_eq ?_
  exact Ev.bind (limbs_L ha) (Ev.bind (limbs_L (n := 0) (by decide)) (ev_pos rfl (ev_now rfl)))
theorem qdiv {a b : Nat} (hb : 0 < b) (ha : ln a ≤ 34359738368) (hlb : ln b ≤ 34359738368) : Ev (quot_Div.f (L a) (L b)) (L (a / b), L (a % b), true) := by
  refine ev_eq quot_Div.f_eq ?_
  refine Ev.bind (limbs_L (n := a) (by omega)) (Ev.bind (limbs_L (n := b) (by omega)) ?_)
  have hb1 : 0 < ln b := by
    rcases Nat.eq_zero_or_pos (ln b) with h | h
    · exfalso
      have := (dg_len b32 b 0).mp (by unfold ln at h; omega)
      omega
    · exact h
  refine ev_neg (by rw [L_length]; omega) ?_
  by_cases hlt : ln a < ln b
  · have hab : a < b := len_cmp b32 hlt
    refine ev_pos (by rw [L_length, L_length]; omega) (ev_now ?_)
    rw [Nat.div_eq_of_lt hab, Nat.mod_eq_of_lt hab]; rfl
  · refine ev_neg (by rw [L_length, L_length]; omega) ?_
    by_cases h1 : ln b = 1
    · have hbB : b < 4294967296 := by
        have := (dg_len b32 b 1).mp (by unfold ln at h1; omega)
        omega
      obtain ⟨Q, q1, q2, q3, q4⟩ := qsmall (x := dg 4294967296 a) (d := b) (Dg_dg b32 a) hb hbB (by unfold ln at ha; omega)
      rw [val_dg b32] at q3 q4
      have hr : a % b < b := Nat.mod_lt _ hb
      have hrd : rdI (L b) 0 = (b : Int) := by
        have e : L b = nl (b :: dg 4294967296 (b / 4294967296)) := by unfold L; rw [dg_pos b32 hb, Nat.mod_eq_of_lt hbB]
        rw [e]
        exact rd_nl (b :: dg 4294967296 (b / 4294967296)) 0
      have hm := made_val (l := Q) (by rw [q1]; unfold ln at ha; omega) q2
      rw [q3] at hm
      refine ev_pos (by rw [L_length]; omega) (ev_pos (by omega) (ev_pos (by rw [L_length]; omega) ?_))
      rw [hrd]
      refine Ev.bind q4 (Ev.bind hm ?_)
      rw [wrap_u64_nat (by omega)]
      exact Ev.bind (of_val (by omega)) (ev_now rfl)
    · refine ev_neg (by rw [L_length]; omega) ?_
      have hl := dg_last b32 hb
      obtain ⟨n, hn⟩ : ∃ n, (dg 4294967296 b).length = n + 2 := ⟨ln b - 2, by unfold ln at *; omega⟩
      rw [hn] at hl
      obtain ⟨Q, R, q1, q2, q3, q4, q5, q6, q7⟩ := qlong (x := dg 4294967296 a) (y := dg 4294967296 b) (Dg_dg b32 a) (Dg_dg b32 b) hn (by unfold ln at hlt; omega) (by unfold ln at ha; omega) hl
      rw [val_dg b32, val_dg b32] at q5 q6
      have hm1 := made_val (l := Q) (by unfold ln at ha; omega) q2
      have hm2 := made_val (l := R) (by unfold ln at ha; omega) q4
      rw [q5] at hm1
      rw [q6] at hm2
      exact Ev.bind q7 (Ev.bind hm1 (Ev.bind hm2 (ev_now rfl)))

theorem qhalf0 {a : Nat} (ha : ln a ≤ 1099511627776) : Ev (quot_Half.f (L a) (L 0)) (([] : List Int), false) := by
  refine ev_eq quot_Half.f_eq ?_
  exact Ev.bind (qdiv0 ha) (ev_neg (by decide) (ev_now rfl))
theorem qhalf {a b : Nat} (hb : 0 < b) (ha : ln a ≤ 34359738368) (hlb : ln b ≤ 34359738368) : Ev (quot_Half.f (L a) (L b)) (L (a / b + if b ≤ 2 * (a % b) then 1 else 0), true) := by
  have hr : a % b < b := Nat.mod_lt _ hb
  have h1 := ln_mono (Nat.le_of_lt hr)
  have h2 := ln_add (a % b) (a % b)
  have h3 := ln_mono (Nat.div_le_self a b)
  refine ev_eq quot_Half.f_eq ?_
  refine Ev.bind (qdiv hb ha hlb) (ev_pos rfl (Ev.bind (nadd (by omega) (by omega)) (Ev.bind (ncmp (by omega) (by omega)) ?_)))
  by_cases h : b ≤ 2 * (a % b)
  · rw [if_pos h]
    refine ev_pos (cmpI_ge.mpr (by omega)) (Ev.bind (of_val (n := 1) (by decide)) (Ev.bind (nadd (by omega) (by have := ln_small (n := 1) (by decide); omega)) (ev_now rfl)))
  · rw [if_neg h, Nat.add_zero]
    exact ev_neg (by intro hc; have := cmpI_ge.mp hc; omega) (ev_now rfl)

theorem qgcd_loop (c : Nat) (hc : c ≤ 34359738368) : ∀ (b a : Nat), ln a ≤ c → ln b ≤ c → Ev (quot_Gcd.l0 (L a) (L b) []) (L (Nat.gcd a b)) := by
  intro b
  induction b using Nat.strongRecOn with
  | _ b ih =>
    intro a ha hb
    refine ev_loop quot_Gcd.l0_eq quot_Gcd.l0_step ?_
    refine Ev.bind (nbits (n := b) (by omega)) ?_
    rcases Nat.eq_zero_or_pos b with rfl | h
    · rw [bl_zero, Nat.gcd_zero_right]
      exact ev_neg (by decide) (ev_now rfl)
    · have hbp := bl_pos h
      have hr : a % b < b := Nat.mod_lt _ h
      have := ih (a % b) hr b hb (Nat.le_trans (ln_mono (Nat.le_of_lt hr)) hb)
      rw [Nat.gcd_comm b, ← Nat.gcd_rec, Nat.gcd_comm] at this
      exact ev_pos (by omega) (Ev.bind (qdiv h (by omega) (by omega)) this)
theorem qgcd {a b : Nat} (ha : ln a ≤ 34359738368) (hb : ln b ≤ 34359738368) : Ev (quot_Gcd.f (L a) (L b)) (L (Nat.gcd a b)) := by
  refine ev_eq quot_Gcd.f_eq ?_
  exact qgcd_loop _ (Nat.le_refl _) b a ha hb

/-! ### the document's quotient -/
end Go.Proofs.Yteidggfjcanbjaa.F
