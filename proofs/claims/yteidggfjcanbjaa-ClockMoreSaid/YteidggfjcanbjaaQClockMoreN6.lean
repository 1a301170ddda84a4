/- Knuth's D: the guess of a digit is right or one too great; a digit times the divisor is taken off, and the divisor put back. -/
import Derived.Test.YteidggfjcanbjaaQClockMoreN5
namespace Go.Proofs.Yteidggfjcanbjaa.F
open Go Go.Proofs.Yteidggfjcanbjaa.E
set_option linter.unusedVariables false
set_option linter.unusedSimpArgs false

/-- plain numbers: U of three top digits u3 and what is below, V of two, v, and what is below -/
theorem guess_low {U V P u3 v q : Nat} (hV : v * P ≤ V) (hU : U < (u3 + 1) * P) (h : q ≤ U / V) (hV0 : 0 < V) : q * v ≤ u3 := by
  have h1 : q * V ≤ U := by rw [← Nat.le_div_iff_mul_le hV0]; exact h
  have h2 : q * v * P ≤ q * V := by rw [Nat.mul_assoc]; exact Nat.mul_le_mul_left q hV
  have h3 : q * v * P < (u3 + 1) * P := by omega
  have := Nat.lt_of_mul_lt_mul_right h3
  omega
theorem guess_high {U V P u3 v q : Nat} (hV : V < (v + 1) * P) (hU : u3 * P ≤ U) (hq : q * v ≤ u3) (hqv : q ≤ v) (hV0 : 0 < V) : q ≤ U / V + 1 := by
  cases q with
  | zero => exact Nat.zero_le _
  | succ q =>
    have h1 : q * (v + 1) ≤ u3 := by
      have e1 : (q + 1) * v = q * v + v := Nat.succ_mul q v
      have e2 : q * (v + 1) = q * v + q := Nat.mul_succ q v
      omega
    have h2 : q * V ≤ U := by
      refine Nat.le_trans (Nat.mul_le_mul_left q (Nat.le_of_lt hV)) ?_
      rw [← Nat.mul_assoc]
      exact Nat.le_trans (Nat.mul_le_mul_right P h1) hU
    have := (Nat.le_div_iff_mul_le hV0).mpr h2
    omega

def guessDec (u v : List Int) (n q r : Int) : M Int := if 0 ≤ IntKind.i64.wrap (n - 1) then (if IntKind.i64.wrap (n - 1) < (v.length : Int) then (if IntKind.u64.wrap (r + IntKind.u64.wrap (rdI v (IntKind.i64.wrap (n - 1)))) ≥ 4294967296 then M.ret (IntKind.u64.wrap (q - 1)) else quot_guess.l0 u v n (IntKind.u64.wrap (q - 1)) (IntKind.u64.wrap (r + IntKind.u64.wrap (rdI v (IntKind.i64.wrap (n - 1)))))) else M.none) else M.none
theorem guess_loop (u v : List Nat) (n : Nat) (hn : v.length = n + 2) (hu : u.length = n + 3) (hdu : Dg 4294967296 u) (hdv : Dg 4294967296 v) (v1 v2 u2 top Q : Nat) (hv1 : gd v (n + 1) = v1) (hv2 : gd v n = v2) (hu2 : gd u n = u2) (hb : n ≤ 1099511627776)
    (hlow : ∀ q, q ≤ Q → q * (4294967296 * v1 + v2) ≤ 4294967296 * top + u2) (hQ : Q < 4294967296) (htop : top < 4294967296 * v1 + 4294967296) :
    ∀ (q r : Nat), q * v1 + r = top → r < 4294967296 → Q ≤ q → q ≤ 4294967297 →
      ∃ q' r', q' < 4294967296 ∧ Q ≤ q' ∧ q' * v1 + r' = top ∧ q' * v2 ≤ 4294967296 * r' + u2 ∧ Ev (quot_guess.l0 (nl u) (nl v) ((n + 2 : Nat) : Int) (q : Int) (r : Int)) (q' : Int) := by
  have bv1 := hdv.gd (by decide) (n + 1)
  have bv2 := hdv.gd (by decide) n
  have bu2 := hdu.gd (by decide) n
  rw [hv1] at bv1
  rw [hv2] at bv2
  rw [hu2] at bu2
  intro q
  induction q using Nat.strongRecOn with
  | _ q ih =>
    intro r hr hrb hqQ hqB
    -- one less
    have dec : Q < q → ∃ q' r', q' < 4294967296 ∧ Q ≤ q' ∧ q' * v1 + r' = top ∧ q' * v2 ≤ 4294967296 * r' + u2 ∧ Ev (guessDec (nl u) (nl v) ((n + 2 : Nat) : Int) (q : Int) (r : Int)) (q' : Int) := by
      intro hlt
      obtain ⟨p, rfl⟩ : ∃ p, q = p + 1 := ⟨q - 1, by omega⟩
      have hp : p * v1 + (r + v1) = top := by
        have : (p + 1) * v1 = p * v1 + v1 := Nat.succ_mul p v1
        omega
      have e1 : IntKind.i64.wrap (((n + 2 : Nat) : Int) - 1) = ((n + 1 : Nat) : Int) := by rw [wrap_id] <;> omega
      have e2 : IntKind.u64.wrap ((r : Int) + IntKind.u64.wrap ((v1 : Nat) : Int)) = ((r + v1 : Nat) : Int) := by
        rw [wrap_u64_nat (by omega), show (r : Int) + (v1 : Int) = ((r + v1 : Nat) : Int) by omega, wrap_u64_nat (by omega)]
      have e3 : IntKind.u64.wrap (((p + 1 : Nat) : Int) - 1) = (p : Int) := by
        rw [show ((p + 1 : Nat) : Int) - 1 = (p : Int) by omega, wrap_u64_nat (by omega)]
      by_cases hbig : 4294967296 ≤ r + v1
      · have hpB : p < 4294967296 := by
          rcases Nat.lt_or_ge p 4294967296 with h | h
          · exact h
          · have := Nat.mul_le_mul_right v1 h
            omega
        refine ⟨p, r + v1, hpB, by omega, hp, ?_, ?_⟩
        · have h1 : p * v2 ≤ 4294967295 * 4294967295 := Nat.mul_le_mul (by omega) (by omega)
          omega
        · unfold guessDec
          rw [e1]
          refine ev_pos (by omega) (ev_pos (by rw [nl_length]; omega) ?_)
          rw [rd_nl, hv1, e2, e3]
          exact ev_pos (by omega) (ev_now rfl)
      · obtain ⟨q', r', h1, h2, h3, h4, h5⟩ := ih p (by omega) (r + v1) hp (by omega) (by omega) (by omega)
        refine ⟨q', r', h1, h2, h3, h4, ?_⟩
        unfold guessDec
        rw [e1]
        refine ev_pos (by omega) (ev_pos (by rw [nl_length]; omega) ?_)
        rw [rd_nl, hv1, e2, e3]
        exact ev_neg (by omega) h5
    by_cases hqb : 4294967296 ≤ q
    · obtain ⟨q', r', h1, h2, h3, h4, h5⟩ := dec (by omega)
      refine ⟨q', r', h1, h2, h3, h4, ?_⟩
      refine ev_loop quot_guess.l0_eq quot_guess.l0_step ?_
      exact ev_pos (by omega) h5
    · have e1 : IntKind.i64.wrap (((n + 2 : Nat) : Int) - 2) = (n : Int) := by rw [wrap_id] <;> omega
      have hqv2 : q * v2 ≤ 4294967295 * 4294967295 := Nat.mul_le_mul (by omega) (by omega)
      have e2 : IntKind.u64.wrap ((q : Int) * IntKind.u64.wrap ((v2 : Nat) : Int)) = ((q * v2 : Nat) : Int) := by
        rw [wrap_u64_nat (by omega), show (q : Int) * (v2 : Int) = ((q * v2 : Nat) : Int) from (Int.natCast_mul q v2).symm, wrap_u64_nat (by omega)]
      have e3 : IntKind.u64.wrap ((BitVec.ofInt IntKind.u64.bits (IntKind.u64.wrap ((r : Int) * 2 ^ 32)) ||| BitVec.ofInt IntKind.u64.bits (IntKind.u64.wrap ((u2 : Nat) : Int))).toNat) = ((4294967296 * r + u2 : Nat) : Int) := by
        have := two_limbs hrb bu2
        rw [wrap_u64_nat (n := r) (by omega)] at this
        exact this
      have red : ∀ {x : Int}, Ev (if ((q * v2 : Nat) : Int) > ((4294967296 * r + u2 : Nat) : Int) then guessDec (nl u) (nl v) ((n + 2 : Nat) : Int) (q : Int) (r : Int) else M.ret (q : Int)) x → Ev (quot_guess.l0 (nl u) (nl v) ((n + 2 : Nat) : Int) (q : Int) (r : Int)) x := by
        intro x h
        refine ev_loop quot_guess.l0_eq quot_guess.l0_step ?_
        rw [e1]
        refine ev_neg (by omega) (ev_pos (by omega) (ev_pos (by rw [nl_length]; omega) (ev_pos (by omega) (ev_pos (by rw [nl_length]; omega) ?_))))
        rw [rd_nl, rd_nl, hv2, hu2, e2, e3]
        exact h
      by_cases hc : 4294967296 * r + u2 < q * v2
      · have hlt : Q < q := by
          rcases Nat.lt_or_ge Q q with h | h
          · exact h
          · have h1 := hlow q h
            rw [Nat.mul_add, Nat.mul_left_comm] at h1
            have h2 : 4294967296 * (q * v1) + 4294967296 * r = 4294967296 * top := by rw [← Nat.mul_add, hr]
            omega
        obtain ⟨q', r', h1, h2, h3, h4, h5⟩ := dec hlt
        refine ⟨q', r', h1, h2, h3, h4, red (ev_pos (by omega) h5)⟩
      · exact ⟨q, r, by omega, hqQ, hr, by omega, red (ev_neg (by omega) (ev_now rfl))⟩
theorem qguess {u v : List Nat} {n : Nat} (hn : v.length = n + 2) (hu : u.length = n + 3) (hdu : Dg 4294967296 u) (hdv : Dg 4294967296 v) (hb : n ≤ 1099511627776) (htop : 2147483648 ≤ gd v (n + 1)) (hlt : val 4294967296 u < 4294967296 * val 4294967296 v) :
    ∃ q, q < 4294967296 ∧ val 4294967296 u / val 4294967296 v ≤ q ∧ q ≤ val 4294967296 u / val 4294967296 v + 1 ∧ Ev (quot_guess.f (nl u) (nl v)) (q : Int) := by
  have bv1 := hdv.gd (by decide) (n + 1)
  have bv2 := hdv.gd (by decide) n
  have bu2 := hdu.gd (by decide) n
  have bu1 := hdu.gd (by decide) (n + 1)
  have bu0 := hdu.gd (by decide) (n + 2)
  have sv := val_split 4294967296 v n (by omega)
  rw [val_drop _ v n (by omega), val_drop _ v (n + 1) (by omega), List.drop_of_length_le (by omega)] at sv
  have su := val_split 4294967296 u n (by omega)
  rw [val_drop _ u n (by omega), val_drop _ u (n + 1) (by omega), val_drop _ u (n + 2) (by omega), List.drop_of_length_le (by omega)] at su
  simp only [val, Nat.mul_zero, Nat.add_zero] at sv su
  have lv := val_lt (by decide) (hdv.take n)
  have lu := val_lt (by decide) (hdu.take n)
  rw [List.length_take, Nat.min_eq_left (by omega)] at lv lu
  obtain ⟨v1, hv1⟩ : ∃ x, gd v (n + 1) = x := ⟨_, rfl⟩
  obtain ⟨v2, hv2⟩ : ∃ x, gd v n = x := ⟨_, rfl⟩
  obtain ⟨u2, hu2⟩ : ∃ x, gd u n = x := ⟨_, rfl⟩
  obtain ⟨u1, hu1⟩ : ∃ x, gd u (n + 1) = x := ⟨_, rfl⟩
  obtain ⟨u0, hu0⟩ : ∃ x, gd u (n + 2) = x := ⟨_, rfl⟩
  rw [hv1, hv2] at sv
  rw [hu2, hu1, hu0] at su
  rw [hv1] at bv1 htop
  rw [hv2] at bv2
  rw [hu2] at bu2
  rw [hu1] at bu1
  rw [hu0] at bu0
  obtain ⟨V, hV⟩ : ∃ x, val 4294967296 v = x := ⟨_, rfl⟩
  obtain ⟨U, hU⟩ : ∃ x, val 4294967296 u = x := ⟨_, rfl⟩
  rw [hV] at sv hlt ⊢
  rw [hU] at su hlt ⊢
  generalize val 4294967296 (v.take n) = a at *
  generalize val 4294967296 (u.take n) = c at *
  have hP0 : 0 < 4294967296 ^ n := Nat.pow_pos (by decide)
  generalize 4294967296 ^ n = P at *
  have hV1 : (4294967296 * v1 + v2) * P ≤ V := by rw [sv, Nat.mul_comm P, Nat.add_comm v2]; omega
  have hV2 : V < (4294967296 * v1 + v2 + 1) * P := by rw [sv, Nat.add_mul, Nat.one_mul, Nat.mul_comm P, Nat.add_comm v2]; omega
  have hU1 : (4294967296 * (4294967296 * u0 + u1) + u2) * P ≤ U := by rw [su, Nat.mul_comm P, show u2 + 4294967296 * (u1 + 4294967296 * u0) = 4294967296 * (4294967296 * u0 + u1) + u2 by omega]; omega
  have hU2 : U < (4294967296 * (4294967296 * u0 + u1) + u2 + 1) * P := by rw [show (4294967296 * (4294967296 * u0 + u1) + u2 + 1) * P = (4294967296 * (4294967296 * u0 + u1) + u2) * P + P from Nat.succ_mul _ _, su, Nat.mul_comm P, show u2 + 4294967296 * (u1 + 4294967296 * u0) = 4294967296 * (4294967296 * u0 + u1) + u2 by omega]; omega
  have hV0 : 0 < V := by
    refine Nat.lt_of_lt_of_le ?_ hV1
    exact Nat.mul_pos (by omega) hP0
  have hQ : U / V < 4294967296 := by rw [Nat.div_lt_iff_lt_mul hV0]; exact hlt
  have hu0v : u0 ≤ v1 := by
    rcases Nat.lt_or_ge v1 u0 with h | h
    · exfalso
      have h1 : 4294967296 * V ≤ U := by
        refine Nat.le_trans ?_ hU1
        refine Nat.le_trans (Nat.mul_le_mul_left 4294967296 (Nat.le_of_lt hV2)) ?_
        rw [← Nat.mul_assoc]
        exact Nat.mul_le_mul_right P (by omega)
      omega
    · exact h
  have htp : 4294967296 * u0 + u1 < 4294967296 * v1 + 4294967296 := by omega
  have hlow : ∀ q, q ≤ U / V → q * (4294967296 * v1 + v2) ≤ 4294967296 * (4294967296 * u0 + u1) + u2 := fun q hq => guess_low hV1 hU2 hq hV0
  have hv10 : 0 < v1 := by omega
  have hq0 : (4294967296 * u0 + u1) / v1 ≤ 4294967297 := by
    have h1 : (4294967296 * u0 + u1) / v1 < 4294967298 := by
      rw [Nat.div_lt_iff_lt_mul hv10]
      omega
    omega
  have hQq : U / V ≤ (4294967296 * u0 + u1) / v1 := by
    rw [Nat.le_div_iff_mul_le hv10]
    have h1 := hlow (U / V) (Nat.le_refl _)
    rw [Nat.mul_add, Nat.mul_left_comm] at h1
    omega
  obtain ⟨q', r', h1, h2, h3, h4, h5⟩ := guess_loop u v n hn hu hdu hdv v1 v2 u2 (4294967296 * u0 + u1) (U / V) hv1 hv2 hu2 hb hlow hQ htp ((4294967296 * u0 + u1) / v1) ((4294967296 * u0 + u1) % v1) (by have := Nat.div_add_mod (4294967296 * u0 + u1) v1; rw [Nat.mul_comm]; exact this) (by have := Nat.mod_lt (4294967296 * u0 + u1) hv10; omega) hQq hq0
  refine ⟨q', h1, h2, ?_, ?_⟩
  · refine guess_high hV2 hU1 ?_ (by omega) hV0
    rw [Nat.mul_add, Nat.mul_left_comm, ← h3, Nat.mul_add]
    omega
  · have e1 : IntKind.i64.wrap (((n + 2 : Nat) : Int) - 1) = ((n + 1 : Nat) : Int) := by rw [wrap_id] <;> omega
    refine ev_eq quot_guess.f_eq ?_
    rw [nl_length, nl_length, hn, hu, e1]
    rw [rd_nl, rd_nl, rd_nl, hv1, hu0, hu1, wrap_u64_nat (n := v1) (by omega), two_limbs bu0 bu1, tdiv_nat, tmod_nat, wrap_u64_nat (by omega)]
    exact ev_pos (by omega) (ev_pos (by omega) (ev_pos (by omega) (ev_pos (by omega) (ev_pos (by omega) (ev_pos (by omega) (ev_pos (by omega) (ev_pos (by omega) (ev_pos (by omega) (ev_pos (by omega) h5)))))))))

/-! ### a digit times the divisor is taken off -/
theorem less_loop (v U : List Nat) (n q : Nat) (hn : v.length = n) (hU : U.length = n + 1) (hdv : Dg 4294967296 v) (hdU : Dg 4294967296 U) (hq : q < 4294967296) (hb : n ≤ 1099511627776) : ∀ (d i c b : Nat) (cur : List Nat), i + d = n → cur.length = n + 1 → Dg 4294967296 cur → c < 4294967296 → b ≤ 1 → cur.drop i = U.drop i → val 4294967296 (cur.take i) + q * val 4294967296 (v.take i) = val 4294967296 (U.take i) + 4294967296 ^ i * (c + b) →
    ∃ (R : List Nat) (e : Nat), R.length = n + 1 ∧ Dg 4294967296 R ∧ e ≤ 1 ∧ val 4294967296 R + q * val 4294967296 v = val 4294967296 U + 4294967296 ^ (n + 1) * e ∧ Ev (quot_less.l0 (nl cur) (nl v) (q : Int) (c : Int) (b : Int) (nl v) (n : Int) (i : Int)) ((e : Int) == 1, nl R) := by
  have step : ∀ {c b x g : Nat}, c < 4294967296 → b ≤ 1 → x < 4294967296 → g < 4294967296 → (c + q * x) / 4294967296 < 4294967296 ∧ IntKind.u64.wrap ((c : Int) + (IntKind.u64.wrap ((q : Int) * (IntKind.u64.wrap (x : Int))))) = ((c + q * x : Nat) : Int) := by
    intro c b x g hc hb hx hg
    have hp : q * x ≤ 4294967295 * 4294967295 := Nat.mul_le_mul (by omega) (by omega)
    rw [wrap_u64_nat (n := x) (by omega), show (q : Int) * (x : Int) = ((q * x : Nat) : Int) from (Int.natCast_mul q x).symm]
    generalize q * x = p at *
    rw [wrap_u64_nat (by omega), show (c : Int) + (p : Int) = ((c + p : Nat) : Int) by omega, wrap_u64_nat (by omega)]
    exact ⟨by omega, rfl⟩
  intro d
  induction d with
  | zero =>
    intro i c b cur hi hc1 hdc hc hb1 hdr hv
    have hi : i = n := by omega
    subst hi
    have hg := hdc.gd (by decide) i
    have hgU : gd cur i = gd U i := by
      have h1 := gd_drop cur i 0
      have h2 := gd_drop U i 0
      rw [hdr, h2] at h1
      simpa using h1.symm
    have hs := sub32_nat hg hc hb1
    obtain ⟨g, hg1⟩ : ∃ x, gd cur i = x := ⟨_, rfl⟩
    rw [hg1] at hs hg hgU
    obtain ⟨dd, hdd⟩ : ∃ x, x = (if g < c + b then g + 4294967296 - c - b else g - c - b) := ⟨_, rfl⟩
    obtain ⟨e, he⟩ : ∃ x, x = (if g < c + b then 1 else 0) := ⟨_, rfl⟩
    rw [← hdd, ← he] at hs
    have hde : dd + c + b = g + 4294967296 * e ∧ e ≤ 1 ∧ dd < 4294967296 := by rw [hdd, he]; split <;> omega
    obtain ⟨hde, he1, hdl⟩ := hde
    refine ⟨cur.set i dd, e, by rw [List.length_set]; exact hc1, hdc.set i hdl, he1, ?_, ?_⟩
    · have s1 := val_set 4294967296 cur i dd (by omega)
      have s2 := val_split 4294967296 cur i (by omega)
      rw [val_drop _ cur i (by omega), List.drop_of_length_le (by omega)] at s2
      have s3 := val_split 4294967296 U i (by omega)
      rw [val_drop _ U i (by omega), List.drop_of_length_le (by omega)] at s3
      simp only [val, Nat.mul_zero, Nat.add_zero] at s2 s3
      rw [← hgU] at s3
      rw [hg1] at s1 s2
      rw [List.take_of_length_le (l := v) (by omega)] at hv
      rw [Nat.pow_succ]
      generalize 4294967296 ^ i = P at *
      generalize q * val 4294967296 v = W at *
      have e1 : P * (dd + c + b) = P * (g + 4294967296 * e) := by rw [hde]
      rw [Nat.mul_add, Nat.mul_add, Nat.mul_add, ← Nat.mul_assoc] at e1
      rw [Nat.mul_add] at hv
      omega
    · refine ev_loop quot_less.l0_eq quot_less.l0_step ?_
      refine ev_neg (by omega) ?_
      rw [nl_length, nl_length, hn, hc1]
      refine ev_pos (by omega) (ev_pos (by omega) ?_)
      rw [Int.toNat_natCast, getD_nl, hg1, u32_id (x := (c : Int)) (by omega) (by omega)]
      refine Ev.bind hs (ev_pos (by omega) (ev_pos (by omega) (ev_now ?_)))
      rw [nl_set]; rfl
  | succ d ih =>
    intro i c b cur hi hc1 hdc hc hb1 hdr hv
    have hg := hdc.gd (by decide) i
    have hx := hdv.gd (by decide) i
    have hgU : gd cur i = gd U i := by
      have h1 := gd_drop cur i 0
      have h2 := gd_drop U i 0
      rw [hdr, h2] at h1
      simpa using h1.symm
    have hst := step hc hb1 hx hg
    have hs := sub32_nat hg (Nat.mod_lt (c + q * gd v i) (by decide : 0 < 4294967296)) hb1
    obtain ⟨g, hg1⟩ : ∃ x, gd cur i = x := ⟨_, rfl⟩
    obtain ⟨x, hx1⟩ : ∃ y, gd v i = y := ⟨_, rfl⟩
    rw [hg1] at hs hg hgU
    rw [hx1] at hx hst hs
    have hm := Nat.mod_add_div (c + q * x) 4294967296
    have hml := Nat.mod_lt (c + q * x) (by decide : 0 < 4294967296)
    obtain ⟨pm, hpm⟩ : ∃ y, (c + q * x) % 4294967296 = y := ⟨_, rfl⟩
    obtain ⟨pd, hpd⟩ : ∃ y, (c + q * x) / 4294967296 = y := ⟨_, rfl⟩
    rw [hpm] at hs hm hml
    rw [hpd] at hm hst
    obtain ⟨dd, hdd⟩ : ∃ y, y = (if g < pm + b then g + 4294967296 - pm - b else g - pm - b) := ⟨_, rfl⟩
    obtain ⟨e, he⟩ : ∃ y, y = (if g < pm + b then 1 else 0) := ⟨_, rfl⟩
    rw [← hdd, ← he] at hs
    have hde : dd + pm + b = g + 4294967296 * e ∧ e ≤ 1 ∧ dd < 4294967296 := by rw [hdd, he]; split <;> omega
    obtain ⟨hde, he1, hdl⟩ := hde
    obtain ⟨R, e', h1, h2, h3, h4, h5⟩ := ih (i + 1) pd e (cur.set i dd) (by omega) (by rw [List.length_set]; exact hc1) (hdc.set i hdl) hst.1 he1
      (by
        rw [drop_set_succ]
        have h1 : (cur.drop i).drop 1 = (U.drop i).drop 1 := by rw [hdr]
        rw [List.drop_drop, List.drop_drop] at h1
        exact h1)
      (by
        rw [take_set_succ _ _ _ (by omega), val_snoc, List.length_take, Nat.min_eq_left (by omega), val_take_succ, val_take_succ, hx1, ← hgU, Nat.pow_succ, Nat.mul_add q, Nat.mul_left_comm q]
        generalize 4294967296 ^ i = P at *
        generalize q * val 4294967296 (v.take i) = W at *
        generalize q * x = z at *
        have e1 : P * (dd + pm + b) = P * (g + 4294967296 * e) := by rw [hde]
        have e2 : P * (pm + 4294967296 * pd) = P * (c + z) := by rw [hm]
        rw [Nat.mul_add, Nat.mul_add, Nat.mul_add, ← Nat.mul_assoc] at e1
        rw [Nat.mul_add, Nat.mul_add, ← Nat.mul_assoc] at e2
        rw [Nat.mul_add] at hv ⊢
        omega)
    refine ⟨R, e', h1, h2, h3, h4, ?_⟩
    refine ev_loop quot_less.l0_eq quot_less.l0_step ?_
    refine ev_pos (by omega) (ev_pos (by omega) (ev_pos (by rw [nl_length]; omega) (ev_pos (by omega) (ev_pos (by rw [nl_length]; omega) ?_))))
    rw [rd_nl, Int.toNat_natCast, getD_nl, hg1, hx1, hst.2, u32_nat, hpm, fdiv32, hpd]
    refine Ev.bind hs (ev_pos (by omega) (ev_pos (by rw [nl_length]; omega) ?_))
    rw [nl_set, succ_wrap (by omega)]
    exact h5
theorem qless {v U : List Nat} {n q : Nat} (hn : v.length = n) (hU : U.length = n + 1) (hdv : Dg 4294967296 v) (hdU : Dg 4294967296 U) (hq : q < 4294967296) (hb : n ≤ 1099511627776) :
    ∃ (R : List Nat) (e : Nat), R.length = n + 1 ∧ Dg 4294967296 R ∧ e ≤ 1 ∧ val 4294967296 R + q * val 4294967296 v = val 4294967296 U + 4294967296 ^ (n + 1) * e ∧ Ev (quot_less.f (nl U) (nl v) (q : Int)) ((e : Int) == 1, nl R) := by
  obtain ⟨R, e, h1, h2, h3, h4, h5⟩ := less_loop v U n q hn hU hdv hdU hq hb n 0 0 0 U (by omega) hU hdU (by omega) (by omega) rfl (by simp [val])
  refine ⟨R, e, h1, h2, h3, h4, ?_⟩
  refine ev_eq quot_less.f_eq ?_
  rw [nl_length, hn]
  exact h5

/-! ### the divisor is put back -/
theorem more_loop (v U : List Nat) (n : Nat) (hn : v.length = n) (hU : U.length = n + 1) (hdv : Dg 4294967296 v) (hdU : Dg 4294967296 U) (hb : n ≤ 1099511627776) : ∀ (d i c : Nat) (cur : List Nat), i + d = n → cur.length = n + 1 → Dg 4294967296 cur → c ≤ 1 → cur.drop i = U.drop i → val 4294967296 (cur.take i) + 4294967296 ^ i * c = val 4294967296 (U.take i) + val 4294967296 (v.take i) →
    ∃ (R : List Nat) (e : Nat), R.length = n + 1 ∧ Dg 4294967296 R ∧ val 4294967296 R + 4294967296 ^ (n + 1) * e = val 4294967296 U + val 4294967296 v ∧ Ev (quot_more.l0 (nl cur) (nl v) (c : Int) (nl v) (n : Int) (i : Int)) ((), nl R) := by
  intro d
  induction d with
  | zero =>
    intro i c cur hi hc1 hdc hc hdr hv
    have hi : i = n := by omega
    subst hi
    have hg := hdc.gd (by decide) i
    have hgU : gd cur i = gd U i := by
      have h1 := gd_drop cur i 0
      have h2 := gd_drop U i 0
      rw [hdr, h2] at h1
      simpa using h1.symm
    obtain ⟨g, hg1⟩ : ∃ x, gd cur i = x := ⟨_, rfl⟩
    rw [hg1] at hg hgU
    refine ⟨cur.set i ((g + c) % 4294967296), (g + c) / 4294967296, by rw [List.length_set]; exact hc1, hdc.set i (Nat.mod_lt _ (by decide)), ?_, ?_⟩
    · have s1 := val_set 4294967296 cur i ((g + c) % 4294967296) (by omega)
      have s2 := val_split 4294967296 cur i (by omega)
      rw [val_drop _ cur i (by omega), List.drop_of_length_le (by omega)] at s2
      have s3 := val_split 4294967296 U i (by omega)
      rw [val_drop _ U i (by omega), List.drop_of_length_le (by omega)] at s3
      simp only [val, Nat.mul_zero, Nat.add_zero] at s2 s3
      rw [← hgU] at s3
      rw [hg1] at s1 s2
      rw [List.take_of_length_le (l := v) (by omega)] at hv
      have hm := Nat.mod_add_div (g + c) 4294967296
      rw [Nat.pow_succ]
      generalize (g + c) % 4294967296 = md at *
      generalize (g + c) / 4294967296 = dv at *
      generalize 4294967296 ^ i = P at *
      have e1 : P * (md + 4294967296 * dv) = P * (g + c) := by rw [hm]
      rw [Nat.mul_add, Nat.mul_add, ← Nat.mul_assoc] at e1
      omega
    · refine ev_loop quot_more.l0_eq quot_more.l0_step ?_
      refine ev_neg (by omega) ?_
      rw [nl_length, nl_length, hn, hc1]
      refine ev_pos (by omega) (ev_pos (by omega) (ev_pos (by omega) (ev_pos (by omega) (ev_now ?_))))
      rw [Int.toNat_natCast, getD_nl, hg1, show (g : Int) + (c : Int) = ((g + c : Nat) : Int) by omega, u32_nat, nl_set]
  | succ d ih =>
    intro i c cur hi hc1 hdc hc hdr hv
    have hg := hdc.gd (by decide) i
    have hx := hdv.gd (by decide) i
    have hgU : gd cur i = gd U i := by
      have h1 := gd_drop cur i 0
      have h2 := gd_drop U i 0
      rw [hdr, h2] at h1
      simpa using h1.symm
    have hs := add32_nat hg hx hc
    obtain ⟨g, hg1⟩ : ∃ x, gd cur i = x := ⟨_, rfl⟩
    obtain ⟨x, hx1⟩ : ∃ y, gd v i = y := ⟨_, rfl⟩
    rw [hg1] at hs hg hgU
    rw [hx1] at hx hs
    obtain ⟨R, e', h1, h2, h4, h5⟩ := ih (i + 1) ((g + x + c) / 4294967296) (cur.set i ((g + x + c) % 4294967296)) (by omega) (by rw [List.length_set]; exact hc1) (hdc.set i (Nat.mod_lt _ (by decide))) (by omega)
      (by
        rw [drop_set_succ]
        have h1 : (cur.drop i).drop 1 = (U.drop i).drop 1 := by rw [hdr]
        rw [List.drop_drop, List.drop_drop] at h1
        exact h1)
      (by
        rw [take_set_succ _ _ _ (by omega), val_snoc, List.length_take, Nat.min_eq_left (by omega), val_take_succ, val_take_succ, hx1, ← hgU, Nat.pow_succ]
        have hm := Nat.mod_add_div (g + x + c) 4294967296
        generalize (g + x + c) % 4294967296 = md at *
        generalize (g + x + c) / 4294967296 = dv at *
        generalize 4294967296 ^ i = P at *
        have e1 : P * (md + 4294967296 * dv) = P * (g + x + c) := by rw [hm]
        rw [Nat.mul_add, Nat.mul_add, Nat.mul_add, ← Nat.mul_assoc] at e1
        omega)
    refine ⟨R, e', h1, h2, h4, ?_⟩
    refine ev_loop quot_more.l0_eq quot_more.l0_step ?_
    refine ev_pos (by omega) (ev_pos (by omega) (ev_pos (by rw [nl_length]; omega) (ev_pos (by omega) (ev_pos (by rw [nl_length]; omega) ?_))))
    rw [rd_nl, Int.toNat_natCast, getD_nl, hg1, hx1]
    refine Ev.bind hs (ev_pos (by omega) (ev_pos (by rw [nl_length]; omega) ?_))
    rw [nl_set, succ_wrap (by omega)]
    exact h5
theorem qmore {v U : List Nat} {n : Nat} (hn : v.length = n) (hU : U.length = n + 1) (hdv : Dg 4294967296 v) (hdU : Dg 4294967296 U) (hb : n ≤ 1099511627776) :
    ∃ (R : List Nat) (e : Nat), R.length = n + 1 ∧ Dg 4294967296 R ∧ val 4294967296 R + 4294967296 ^ (n + 1) * e = val 4294967296 U + val 4294967296 v ∧ Ev (quot_more.f (nl U) (nl v)) ((), nl R) := by
  obtain ⟨R, e, h1, h2, h4, h5⟩ := more_loop v U n hn hU hdv hdU hb n 0 0 U (by omega) hU hdU (by omega) rfl (by simp [val])
  refine ⟨R, e, h1, h2, h4, ?_⟩
  refine ev_eq quot_more.f_eq ?_
  rw [nl_length, hn]
  exact h5
end Go.Proofs.Yteidggfjcanbjaa.F
