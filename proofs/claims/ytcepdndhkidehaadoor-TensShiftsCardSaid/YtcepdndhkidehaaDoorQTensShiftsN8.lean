/- The long division (Knuth's D), quotients of numbers, halves, the greatest common divisor; the document's quotient. -/
import Derived.Test.YtcepdndhkidehaaDoorQTensShiftsN7
namespace Go.Proofs.YtcepdndhkidehaaDoor.F
open Go Go.Proofs.YtcepdndhkidehaaDoor.E
set_option linter.unusedVariables false
set_option linter.unusedSimpArgs false

/-- numbers only: the divisor y of n + 2 limbs, the top one t, shifted by K -/
theorem shifted_top {y low t bt K P : Nat} (hy : y = low + P * t) (hl : low < P) (ht : 0 < t) (h1 : t + 1 ≤ 2 ^ bt) (h2 : 2 ^ (bt - 1) ≤ t) (hb : 0 < bt) (hK : bt + K = 32) :
    P ≤ y ∧ y * 2 ^ K < P * 4294967296 ∧ P * 2147483648 ≤ y * 2 ^ K := by
  have hp0 : 0 < 2 ^ K := Nat.pow_pos (by decide)
  have ht2 : (t + 1) * 2 ^ K ≤ 4294967296 := by
    have h3 := Nat.mul_le_mul_right (2 ^ K) h1
    rw [← Nat.pow_add, hK] at h3
    exact h3
  have ht3 : 2147483648 ≤ t * 2 ^ K := by
    have h3 := Nat.mul_le_mul_right (2 ^ K) h2
    rw [← Nat.pow_add, show bt - 1 + K = 31 by omega] at h3
    exact h3
  clear h1 h2
  generalize 2 ^ K = S at *
  refine ⟨?_, ?_, ?_⟩
  · have := Nat.mul_le_mul_left P ht
    rw [Nat.succ_eq_add_one, Nat.zero_add, Nat.mul_one] at this
    omega
  · have h3 : y < P * (t + 1) := by rw [Nat.mul_add, Nat.mul_one]; omega
    refine Nat.lt_of_lt_of_le (Nat.mul_lt_mul_of_pos_right h3 hp0) ?_
    rw [Nat.mul_assoc]
    exact Nat.mul_le_mul_left _ ht2
  · refine Nat.le_trans (Nat.mul_le_mul_left _ ht3) ?_
    rw [← Nat.mul_assoc]
    exact Nat.mul_le_mul_right _ (by omega)
theorem zero_high {Z low P h : Nat} (hs : Z = low + P * h) (hZ : Z < P) : h = 0 := by
  rcases Nat.eq_zero_or_pos h with h0 | h0
  · exact h0
  · exfalso
    have h1 := Nat.mul_le_mul_left P h0
    rw [Nat.succ_eq_add_one, Nat.zero_add, Nat.mul_one] at h1
    omega
theorem top_ge {Z low P g : Nat} (hs : Z = low + P * g) (hl : low < P) (hZ : P * 2147483648 ≤ Z) : 2147483648 ≤ g := by
  rcases Nat.lt_or_ge g 2147483648 with h | h
  · exfalso
    have h4 := Nat.mul_le_mul_left P (Nat.succ_le_of_lt h)
    rw [Nat.succ_eq_add_one, Nat.mul_add, Nat.mul_one] at h4
    omega
  · exact h
theorem start_lt {X S low A h P y : Nat} (hs : X * S = low + A * h) (hX : X < A * P) (hS : 0 < S) (hy : P ≤ y) : h < y * S := by
  have h2 : A * h < A * (y * S) := by
    refine Nat.lt_of_le_of_lt (by rw [hs]; exact Nat.le_add_left _ _) (Nat.lt_of_lt_of_le (Nat.mul_lt_mul_of_pos_right hX hS) ?_)
    rw [← Nat.mul_assoc]
    exact Nat.mul_le_mul_right _ (Nat.mul_le_mul_left _ hy)
  exact Nat.lt_of_mul_lt_mul_left h2
theorem unshift {X y Q w S : Nat} (hS : 0 < S) (hw : w < y * S) (h : w + y * S * Q = X * S) : Q = X / y ∧ w / S = X % y := by
  have e2 : y * S * Q = S * (y * Q) := by rw [Nat.mul_comm y, Nat.mul_assoc]
  rw [Nat.mul_comm X, e2] at h
  rw [Nat.mul_comm y] at hw
  have hle : y * Q ≤ X := by
    refine Nat.le_of_mul_le_mul_left ?_ hS
    rw [← h]; exact Nat.le_add_left _ _
  obtain ⟨d, hd⟩ : ∃ d, X = y * Q + d := ⟨X - y * Q, by omega⟩
  have hw2 : w = S * d := by rw [hd, Nat.mul_add] at h; omega
  have hdl : d < y := by
    rw [hw2] at hw
    exact Nat.lt_of_mul_lt_mul_left hw
  have hyp : 0 < y := by omega
  rw [hd, Nat.mul_add_div hyp, Nat.div_eq_of_lt hdl, Nat.add_zero, Nat.mul_add_mod, Nat.mod_eq_of_lt hdl, hw2, Nat.mul_div_cancel_left _ hS]
  exact ⟨rfl, rfl⟩
theorem last_val {y : List Nat} {n : Nat} (hn : y.length = n + 1) : val 4294967296 y = val 4294967296 (y.take n) + 4294967296 ^ n * gd y n := by
  have ys := val_split 4294967296 y n (by omega)
  rw [val_drop _ y n (by omega), List.drop_of_length_le (by omega)] at ys
  rw [ys]; simp only [val, Nat.mul_zero, Nat.add_zero]
theorem take_lt {y : List Nat} {n : Nat} (hy : Dg 4294967296 y) (hn : n ≤ y.length) : val 4294967296 (y.take n) < 4294967296 ^ n := by
  have h := val_lt (by decide) (hy.take n)
  rw [List.length_take, Nat.min_eq_left hn] at h
  exact h

/-! ### numbers -/
theorem limbs_L {n : Nat} (h : ln n ≤ 1099511627776) : Ev (nat_Nat_Limbs.f (L n)) (L n) := limbs_nl (by rw [L_length]; exact h)
/-! ### the document's quotient -/
theorem rdiv_loop (a : List Nat) (b : Nat) (hd : Dg 10 a) (hb : 0 < b) (hl : a.length ≤ 1073741824) (hlb : dn b ≤ 1073741824) : ∀ (i : Nat) (q : List Nat), i ≤ a.length → q.length = a.length → Dg 10 q → (∀ j, j < i → gd q j = 0) → val 10 (q.drop i) = val 10 (a.drop i) / b →
    Ev (numeraryref02_Div.l0 (nl a) (D b) (nl q) (D (val 10 (a.drop i) % b)) ((i : Int) - 1)) (D (val 10 a / b), D (val 10 a % b)) := by
  intro i
  induction i with
  | zero =>
    intro q hi hq hdq hz hv
    rw [List.drop_zero, List.drop_zero] at hv
    rw [List.drop_zero]
    refine ev_loop numeraryref02_Div.l0_eq numeraryref02_Div.l0_step ?_
    have h1 := rtrim_val (l := q) (by omega) hdq
    rw [hv] at h1
    exact ev_neg (by omega) (Ev.bind h1 (ev_now rfl))
  | succ i ih =>
    intro q hi hq hdq hz hv
    have hg := hd.gd (by decide) i
    have hxd := val_drop 10 a i (by omega)
    obtain ⟨rest, hrest⟩ : ∃ r, val 10 (a.drop (i + 1)) % b = r := ⟨_, rfl⟩
    obtain ⟨quo, hquo⟩ : ∃ r, val 10 (a.drop (i + 1)) / b = r := ⟨_, rfl⟩
    have hm := Nat.mod_add_div (val 10 (a.drop (i + 1))) b
    have hrl : rest < b := by rw [← hrest]; exact Nat.mod_lt _ hb
    rw [hrest, hquo] at hm
    rw [hquo] at hv
    obtain ⟨g, hgg⟩ : ∃ g, gd a i = g := ⟨_, rfl⟩
    rw [hgg] at hxd hg
    have hxv : val 10 (a.drop i) = (10 * rest + g) + b * (10 * quo) := by
      rw [hxd, ← hm, Nat.mul_left_comm b]; omega
    have ht10 : (10 * rest + g) < 10 * b := by omega
    rw [show (((i + 1 : Nat) : Int) - 1) = (i : Int) by omega, hrest]
    refine ev_loop numeraryref02_Div.l0_eq numeraryref02_Div.l0_step ?_
    have hdr := dn_mono (Nat.le_of_lt hrl)
    have d10 := dn_small (n := 10) (by decide)
    have hdg := dn_small (n := g) (by omega)
    have hdm := dn_mul rest 10
    have hda := dn_add (rest * 10) g
    refine ev_pos (by omega) (Ev.bind (rtimes_D (by omega) (by decide)) (ev_pos (by omega) (ev_pos (by rw [nl_length]; omega) ?_)))
    rw [rd_nl, hgg, wrap_u64_nat (by omega)]
    have hln2 : dn (rest * 10) ≤ 549755813888 := by omega
    have hln3 : dn g ≤ 549755813888 := by omega
    refine Ev.bind (rof_val (by omega)) (Ev.bind (radd_D hln2 hln3) ?_)
    -- so many times the divisor is taken off
    have inner : ∀ (f c : Nat) (q' : List Nat), (10 * rest + g) - c * b ≤ f → c * b ≤ 10 * rest + g → c < 11 → q'.length = a.length → Dg 10 q' → (∀ j, j < i → gd q' j = 0) → gd q' i = c → q'.drop (i + 1) = q.drop (i + 1) →
        Ev (numeraryref02_Div.l1 (nl a) (D b) (nl q') (D ((10 * rest + g) - c * b)) (i : Int)) (D (val 10 a / b), D (val 10 a % b)) := by
      intro f
      induction f with
      | zero =>
        intro c q' hf hcb hc hq' hdq' hz' hg' hdr'
        refine ev_loop numeraryref02_Div.l1_eq numeraryref02_Div.l1_step ?_
        have hlt0 : (10 * rest + g) - c * b < b := by omega
        have hdt := dn_mono (Nat.le_of_lt hlt0)
        refine Ev.bind (rcmp_D (by omega) (by omega)) (ev_pos (cmpI_lt.mpr hlt0) ?_)
        have ht : 10 * rest + g = b * c + ((10 * rest + g) - c * b) := by rw [Nat.mul_comm b]; omega
        have e1 : val 10 (a.drop i) / b = c + 10 * quo := by
          rw [hxv, Nat.add_mul_div_left _ _ hb, ht, Nat.mul_add_div hb, Nat.div_eq_of_lt hlt0, Nat.add_zero]
        have e2 : val 10 (a.drop i) % b = (10 * rest + g) - c * b := by
          rw [hxv, Nat.add_mul_mod_self_left]
          conv => lhs; rw [ht]
          rw [Nat.mul_add_mod, Nat.mod_eq_of_lt hlt0]
        have := ih q' (by omega) hq' hdq' hz' (by rw [val_drop _ _ _ (by omega), hg', hdr', hv, e1])
        rw [e2] at this
        rw [wrap_id (by omega) (by omega)]
        exact this
      | succ f ihf =>
        intro c q' hf hcb hc hq' hdq' hz' hg' hdr'
        by_cases hlt0 : (10 * rest + g) - c * b < b
        · refine ev_loop numeraryref02_Div.l1_eq numeraryref02_Div.l1_step ?_
          have hdt := dn_mono (Nat.le_of_lt hlt0)
          refine Ev.bind (rcmp_D (by omega) (by omega)) (ev_pos (cmpI_lt.mpr hlt0) ?_)
          have ht : 10 * rest + g = b * c + ((10 * rest + g) - c * b) := by rw [Nat.mul_comm b]; omega
          have e1 : val 10 (a.drop i) / b = c + 10 * quo := by
            rw [hxv, Nat.add_mul_div_left _ _ hb, ht, Nat.mul_add_div hb, Nat.div_eq_of_lt hlt0, Nat.add_zero]
          have e2 : val 10 (a.drop i) % b = (10 * rest + g) - c * b := by
            rw [hxv, Nat.add_mul_mod_self_left]
            conv => lhs; rw [ht]
            rw [Nat.mul_add_mod, Nat.mod_eq_of_lt hlt0]
          have := ih q' (by omega) hq' hdq' hz' (by rw [val_drop _ _ _ (by omega), hg', hdr', hv, e1])
          rw [e2] at this
          rw [wrap_id (by omega) (by omega)]
          exact this
        · refine ev_loop numeraryref02_Div.l1_eq numeraryref02_Div.l1_step ?_
          have hcc : (c + 1) * b = c * b + b := Nat.succ_mul c b
          have hc9 : c < 9 := by
            rcases Nat.lt_or_ge c 9 with h | h
            · exact h
            · exfalso
              have := Nat.mul_le_mul_right b h
              omega
          have hdt := dn_mono (show (10 * rest + g) - c * b ≤ rest * 10 + g by omega)
          refine Ev.bind (rcmp_D (by omega) (by omega)) (ev_neg (by intro h; have := cmpI_lt.mp h; omega) ?_)
          refine Ev.bind (rsub_D (by omega) (by omega)) (ev_pos (by omega) (ev_pos (by rw [nl_length]; omega) (ev_pos (by omega) (ev_pos (by rw [nl_length]; omega) ?_))))
          rw [Int.toNat_natCast, getD_nl, hg', succ_wrap (by omega), nl_set, show (10 * rest + g) - c * b - b = (10 * rest + g) - (c + 1) * b by omega]
          exact ihf (c + 1) (q'.set i (c + 1)) (by omega) (by omega) (by omega) (by rw [List.length_set]; exact hq') (hdq'.set i (by omega)) (fun j hj => by rw [gd_set _ _ _ _ (by omega), if_neg (by omega)]; exact hz' j hj) (by rw [gd_set _ _ _ _ (by omega), if_pos rfl]) (by rw [drop_set_succ]; exact hdr')
    have := inner (10 * rest + g) 0 q (by omega) (by omega) (by omega) hq hdq (fun j hj => hz j (by omega)) (hz i (by omega)) rfl
    rw [Nat.zero_mul, Nat.sub_zero, Nat.mul_comm 10] at this
    exact this
theorem rdiv_D {a b : Nat} (hb : 0 < b) (ha : dn a ≤ 1073741824) (hlb : dn b ≤ 1073741824) : Ev (numeraryref02_Div.f (D a) (D b)) (D (a / b), D (a % b)) := by
  have := rdiv_loop (dg 10 a) b (Dg_dg b10 a) hb ha hlb (dg 10 a).length (List.replicate (dg 10 a).length 0) (Nat.le_refl _) (by rw [List.length_replicate]) (Dg.replicate (by decide) _) (fun j _ => gd_replicate _ _) (by rw [List.drop_of_length_le (by rw [List.length_replicate]; exact Nat.le_refl _), List.drop_of_length_le (Nat.le_refl _)]; exact (Nat.zero_div b).symm)
  rw [List.drop_of_length_le (Nat.le_refl _), show val 10 [] % b = 0 from Nat.zero_mod b, val_dg b10] at this
  unfold dn at ha
  refine ev_eq numeraryref02_Div.f_eq ?_
  rw [D_length, Int.toNat_natCast, wrap_id (by unfold dn; omega) (by unfold dn; omega)]
  refine ev_pos (by omega) (ev_pos (by unfold dn; omega) ?_)
  rw [show List.replicate (dn a) (0 : Int) = nl (List.replicate (dn a) 0) from nl_replicate _ 0]
  exact this
end Go.Proofs.YtcepdndhkidehaaDoor.F
