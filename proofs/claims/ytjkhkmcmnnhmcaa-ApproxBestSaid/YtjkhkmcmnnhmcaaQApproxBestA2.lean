/- The best fraction: of two fractions with the determinant one no fraction between them has a lesser denominator than both together. -/
import Derived.Test.YtjkhkmcmnnhmcaaQApproxBestA1
namespace Go.Proofs.Ytjkhkmcmnnhmcaa.F
open Go Go.Proofs.Ytjkhkmcmnnhmcaa.E
set_option linter.unusedVariables false
set_option linter.unusedSimpArgs false
/-- n over q is nearer to a over b than y over d; or as near, and q is lesser; or the same, and n isn't greater. -/
def Nearer (a b n q y d : Nat) : Prop := ad (a * q) (n * b) * d < ad (a * d) (y * b) * q ∨ (ad (a * q) (n * b) * d = ad (a * d) (y * b) * q ∧ (q < d ∨ (q = d ∧ n ≤ y)))
theorem Nearer.trans {a b n q y d z e : Nat} (hq : 0 < q) (hd : 0 < d) (he : 0 < e) (h : Nearer a b n q y d) (k : Nearer a b y d z e) : Nearer a b n q z e := by
  unfold Nearer at *
  generalize ad (a * q) (n * b) = A at *
  generalize ad (a * d) (y * b) = B at *
  generalize ad (a * e) (z * b) = C at *
  have e1 : A * e * d = A * d * e := Nat.mul_right_comm _ _ _
  have e2 : C * q * d = C * d * q := Nat.mul_right_comm _ _ _
  have e3 : B * q * e = B * e * q := Nat.mul_right_comm _ _ _
  rcases h with h | ⟨h, h'⟩
  · have h1 : A * d * e < B * q * e := Nat.mul_lt_mul_of_pos_right h he
    have h2 : B * e * q ≤ C * d * q := Nat.mul_le_mul_right _ (by rcases k with k | ⟨k, _⟩ <;> omega)
    exact .inl (Nat.lt_of_mul_lt_mul_right (a := d) (by omega))
  · have h1 : A * d * e = B * q * e := by rw [h]
    rcases k with k | ⟨k, k'⟩
    · have h2 : B * e * q < C * d * q := Nat.mul_lt_mul_of_pos_right k hq
      exact .inl (Nat.lt_of_mul_lt_mul_right (a := d) (by omega))
    · have h2 : B * e * q = C * d * q := by rw [k]
      exact .inr ⟨Nat.eq_of_mul_eq_mul_right hd (by omega), by omega⟩
theorem ad_at {x y k : Nat} {z : Int} (hz : z = 1 ∨ z = -1) (h : (x : Int) - (y : Int) = z * (k : Int)) : ad x y = k := by
  unfold ad
  rcases hz with rfl | rfl <;> omega
/-- One side of `between`: the fraction stands behind the second one. -/
theorem beyond {p q s t N D y d u v a b : Nat} {z : Int} (hz : z = 1 ∨ z = -1) (hdet : (p : Int) * (t : Int) - (s : Int) * (q : Int) = z) (ha : a = p * N + s * D) (hb : b = q * N + t * D) (hN : 0 < N) (hq : 0 < q) (ht : 0 < t) (hv : 0 < v)
    (e1 : y + u * p = v * s) (e2 : d + u * q = v * t) : Nearer a b s t y d := by
  have f1 : ad (a * t) (s * b) = N := by
    refine ad_at hz ?_
    have : ((a * t : Nat) : Int) - ((s * b : Nat) : Int) = ((p : Int) * (t : Int) - (s : Int) * (q : Int)) * (N : Int) := by
      rw [ha, hb]; push_cast; grind
    rw [this, hdet]
  have f2 : ad (a * d) (y * b) = N * v + D * u := by
    refine ad_at hz ?_
    have g1 : (y : Int) = (v : Int) * (s : Int) - (u : Int) * (p : Int) := by
      have : ((y + u * p : Nat) : Int) = ((v * s : Nat) : Int) := by rw [e1]
      push_cast at this; omega
    have g2 : (d : Int) = (v : Int) * (t : Int) - (u : Int) * (q : Int) := by
      have : ((d + u * q : Nat) : Int) = ((v * t : Nat) : Int) := by rw [e2]
      push_cast at this; omega
    have : ((a * d : Nat) : Int) - ((y * b : Nat) : Int) = ((p : Int) * (t : Int) - (s : Int) * (q : Int)) * ((N * v + D * u : Nat) : Int) := by
      rw [ha, hb]; push_cast; rw [g1, g2]; grind
    rw [this, hdet]
  unfold Nearer
  rw [f1, f2]
  have h1 : N * d + N * (u * q) = N * (v * t) := by rw [← Nat.mul_add, e2]
  have h2 : (N * v + D * u) * t = N * (v * t) + D * u * t := by rw [Nat.add_mul, Nat.mul_assoc]
  rw [h2]
  rcases Nat.eq_zero_or_pos u with rfl | hu
  · rw [Nat.zero_mul, Nat.add_zero] at e1 e2
    rw [Nat.mul_zero, Nat.zero_mul, Nat.add_zero, ← e2]
    refine .inr ⟨rfl, ?_⟩
    have : 1 * t ≤ v * t := Nat.mul_le_mul_right _ hv
    by_cases c : v = 1
    · subst c; exact .inr ⟨by omega, by omega⟩
    · left
      have : 2 * t ≤ v * t := Nat.mul_le_mul_right _ (by omega)
      omega
  · left
    have : 0 < N * (u * q) := Nat.mul_pos hN (Nat.mul_pos hu hq)
    omega
theorem between {p q s t N D y d a b : Nat} {z : Int} (hz : z = 1 ∨ z = -1) (hdet : (p : Int) * (t : Int) - (s : Int) * (q : Int) = z) (ha : a = p * N + s * D) (hb : b = q * N + t * D) (hN : 0 < N) (hD : 0 < D) (hq : 0 < q) (ht : 0 < t) (hd : 0 < d) (hlt : d < q + t) :
    Nearer a b s t y d ∨ Nearer a b p q y d := by
  have hzz : z * z = 1 := by rcases hz with rfl | rfl <;> rfl
  obtain ⟨al, hal⟩ : ∃ al : Int, al = z * ((y : Int) * t - (s : Int) * d) := ⟨_, rfl⟩
  obtain ⟨be, hbe⟩ : ∃ be : Int, be = z * ((p : Int) * d - (q : Int) * y) := ⟨_, rfl⟩
  have r1 : al * (p : Int) + be * (s : Int) = (y : Int) := by
    have : al * (p : Int) + be * (s : Int) = z * ((p : Int) * (t : Int) - (s : Int) * (q : Int)) * (y : Int) := by rw [hal, hbe]; grind
    rw [this, hdet, hzz, Int.one_mul]
  have r2 : al * (q : Int) + be * (t : Int) = (d : Int) := by
    have : al * (q : Int) + be * (t : Int) = z * ((p : Int) * (t : Int) - (s : Int) * (q : Int)) * (d : Int) := by rw [hal, hbe]; grind
    rw [this, hdet, hzz, Int.one_mul]
  clear hal hbe
  rcases (by omega : 0 < al ∨ al ≤ 0) with ca | ca
  · rcases (by omega : 0 < be ∨ be ≤ 0) with cb | cb
    · exfalso
      have h1 : 1 * (q : Int) ≤ al * (q : Int) := Int.mul_le_mul_of_nonneg_right ca (by omega)
      have h2 : 1 * (t : Int) ≤ be * (t : Int) := Int.mul_le_mul_of_nonneg_right cb (by omega)
      omega
    · right
      obtain ⟨v, rfl⟩ : ∃ v : Nat, al = (v : Int) := ⟨al.toNat, by omega⟩
      obtain ⟨u, rfl⟩ : ∃ u : Nat, be = -(u : Int) := ⟨(-be).toNat, by omega⟩
      have hdet2 : (s : Int) * (q : Int) - (p : Int) * (t : Int) = -z := by rw [← hdet]; omega
      refine beyond (p := s) (q := t) (s := p) (t := q) (N := D) (D := N) (z := -z) (u := u) (v := v) (by omega) hdet2 (by omega) (by omega) hD ht hq (by omega) ?_ ?_
      · rw [Int.neg_mul] at r1
        have : ((y + u * s : Nat) : Int) = ((v * p : Nat) : Int) := by push_cast; omega
        exact Int.ofNat_inj.mp this
      · rw [Int.neg_mul] at r2
        have : ((d + u * t : Nat) : Int) = ((v * q : Nat) : Int) := by push_cast; omega
        exact Int.ofNat_inj.mp this
  · left
    obtain ⟨u, rfl⟩ : ∃ u : Nat, al = -(u : Int) := ⟨(-al).toNat, by omega⟩
    have cb : 0 < be := by
      rcases (by omega : 0 < be ∨ be ≤ 0) with cb | cb
      · exact cb
      · exfalso
        have h1 : be * (t : Int) ≤ 0 := Int.mul_nonpos_of_nonpos_of_nonneg cb (by omega)
        have h2 : 0 ≤ (u : Int) * (q : Int) := Int.mul_nonneg (by omega) (by omega)
        rw [Int.neg_mul] at r2
        omega
    obtain ⟨v, rfl⟩ : ∃ v : Nat, be = (v : Int) := ⟨be.toNat, by omega⟩
    refine beyond (p := p) (q := q) (s := s) (t := t) (N := N) (D := D) (z := z) (u := u) (v := v) hz hdet ha hb hN hq ht (by omega) ?_ ?_
    · rw [Int.neg_mul] at r1
      have : ((y + u * p : Nat) : Int) = ((v * s : Nat) : Int) := by push_cast; omega
      exact Int.ofNat_inj.mp this
    · rw [Int.neg_mul] at r2
      have : ((d + u * q : Nat) : Int) = ((v * t : Nat) : Int) := by push_cast; omega
      exact Int.ofNat_inj.mp this
theorem choice {r : List Int × List Int} {a b p q s t : Nat} (hr : RQ r a b 1000) (hb : 0 < b) (hq : 0 < q) (ht : 0 < t) (lp : ln p ≤ 1000) (lq : ln q ≤ 1000) (ls : ln s ≤ 1000) (lt : ln t ≤ 1000) :
    (Ev (approx_nearer.f r (L p, L q) (L s, L t)) (L p, L q) ∧ Nearer a b p q s t) ∨ (Ev (approx_nearer.f r (L p, L q) (L s, L t)) (L s, L t) ∧ Nearer a b s t p q) := by
  obtain ⟨r1, g1, v1⟩ := ratio_of (a := p) (b := q) (c := 1000) hq (by decide) lp lq
  obtain ⟨r2, g2, v2⟩ := ratio_of (a := s) (b := t) (c := 1000) ht (by decide) ls lt
  obtain ⟨w1, k1, u1⟩ := ratio_away hr g1 hb hq (by decide) (by decide)
  obtain ⟨w2, k2, u2⟩ := ratio_away hr g2 hb ht (by decide) (by decide)
  have hc := ratio_cmp k1 k2 (Nat.mul_pos hb hq) (Nat.mul_pos hb ht) (by decide) (by decide)
  have f1 : Ev (approx_fraction_ratio.f (L p, L q)) r1 := ev_eq approx_fraction_ratio.f_eq (Ev.bind v1 (ev_now rfl))
  have f2 : Ev (approx_fraction_ratio.f (L s, L t)) r2 := ev_eq approx_fraction_ratio.f_eq (Ev.bind v2 (ev_now rfl))
  have e1 : ad (a * q) (p * b) * (b * t) = ad (a * q) (p * b) * t * b := by rw [Nat.mul_comm b, Nat.mul_assoc]
  have e2 : ad (a * t) (s * b) * (b * q) = ad (a * t) (s * b) * q * b := by rw [Nat.mul_comm b, Nat.mul_assoc]
  rw [e1, e2] at hc
  have step : ∀ {R : List Int × List Int}, Ev (if cmpI (ad (a * q) (p * b) * t * b) (ad (a * t) (s * b) * q * b) = 0 then (M.bind (nat_Cmp.f (L q) (L t)) fun t6 => (if t6 = 0 then (M.bind (nat_Cmp.f (L p) (L s)) fun t7 => (if t7 > 0 then (M.ret (L s, L t)) else (M.ret (L p, L q)))) else (if t6 > 0 then (M.ret (L s, L t)) else (M.ret (L p, L q))))) else (if cmpI (ad (a * q) (p * b) * t * b) (ad (a * t) (s * b) * q * b) = 0 then (M.bind (nat_Cmp.f (L p) (L s)) fun t8 => (if t8 > 0 then (M.ret (L s, L t)) else (M.ret (L p, L q)))) else (if cmpI (ad (a * q) (p * b) * t * b) (ad (a * t) (s * b) * q * b) > 0 then (M.ret (L s, L t)) else (M.ret (L p, L q))))) R →
      Ev (approx_nearer.f r (L p, L q) (L s, L t)) R := fun h => ev_eq approx_nearer.f_eq (Ev.bind f1 (Ev.bind u1 (Ev.bind f2 (Ev.bind u2 (Ev.bind hc h)))))
  unfold Nearer
  generalize ad (a * q) (p * b) * t = X at *
  generalize ad (a * t) (s * b) * q = Y at *
  have hlt : X * b < Y * b ↔ X < Y := Nat.mul_lt_mul_right hb
  have hgt : Y * b < X * b ↔ Y < X := Nat.mul_lt_mul_right hb
  rcases Nat.lt_trichotomy X Y with c | c | c
  · exact .inl ⟨step (ev_neg (fun h => by have := cmpI_eq0.mp h; have := hlt.mpr c; omega) (ev_neg (fun h => by have := cmpI_eq0.mp h; have := hlt.mpr c; omega) (ev_neg (fun h => by have := cmpI_gt.mp h; have := hlt.mpr c; omega) (ev_now rfl)))), .inl c⟩
  · subst c
    rcases Nat.lt_trichotomy q t with d | d | d
    · exact .inl ⟨step (ev_pos (cmpI_self _) (Ev.bind (ncmp (by omega) (by omega)) (ev_neg (fun h => by have := cmpI_eq0.mp h; omega) (ev_neg (fun h => by have := cmpI_gt.mp h; omega) (ev_now rfl))))), .inr ⟨rfl, .inl d⟩⟩
    · subst d
      rcases Nat.lt_or_ge s p with e | e
      · exact .inr ⟨step (ev_pos (cmpI_self _) (Ev.bind (ncmp (by omega) (by omega)) (ev_pos (cmpI_self _) (Ev.bind (ncmp (by omega) (by omega)) (ev_pos (cmpI_gt.mpr e) (ev_now rfl)))))), .inr ⟨rfl, .inr ⟨rfl, by omega⟩⟩⟩
      · exact .inl ⟨step (ev_pos (cmpI_self _) (Ev.bind (ncmp (by omega) (by omega)) (ev_pos (cmpI_self _) (Ev.bind (ncmp (by omega) (by omega)) (ev_neg (fun h => by have := cmpI_gt.mp h; omega) (ev_now rfl)))))), .inr ⟨rfl, .inr ⟨rfl, e⟩⟩⟩
    · exact .inr ⟨step (ev_pos (cmpI_self _) (Ev.bind (ncmp (by omega) (by omega)) (ev_neg (fun h => by have := cmpI_eq0.mp h; omega) (ev_pos (cmpI_gt.mpr d) (ev_now rfl))))), .inr ⟨rfl, .inl d⟩⟩
  · exact .inr ⟨step (ev_neg (fun h => by have := cmpI_eq0.mp h; have := hgt.mpr c; omega) (ev_neg (fun h => by have := cmpI_eq0.mp h; have := hgt.mpr c; omega) (ev_pos (cmpI_gt.mpr (hgt.mpr c)) (ev_now rfl)))), .inl c⟩
/-- The best fraction: none with a denominator that may be is nearer, and of those as near none has a lesser denominator, or the same one and a lesser numerator. -/
theorem best_all {n d m : Nat} (hd : 0 < d) (hg : Nat.gcd n d = 1) (hm1 : 1 ≤ m) (hm : m ≤ 999999999) (hn : ln n ≤ 500) (hld : ln d ≤ 500) :
    ∃ x q : Nat, Ev (approx_Best.f (L n, L d) (m : Int)) (L x, (q : Int), true) ∧ 1 ≤ q ∧ q ≤ m ∧ ln x ≤ 1000 ∧ ∀ y e, 1 ≤ e → e ≤ m → Nearer n d x q y e := by
  have lm := ln_small (n := m) (by omega)
  have l1 := ln_small (n := 1) (by decide)
  have hr : RQ (L n, L d) n d 1000 := ⟨n, d, rfl, hd, hg, rfl, by omega, by omega⟩
  have loop : ∀ (v u h0 k0 h1 k1 : Nat), n = h1 * u + h0 * v → d = k1 * u + k0 * v → Nat.gcd u v = 1 → (0 < u ∨ (h1 = 1 ∧ k1 = 0)) → ln u ≤ 500 → ln v ≤ 500 →
      (∃ z : Int, (z = 1 ∨ z = -1) ∧ (h1 : Int) * (k0 : Int) - (h0 : Int) * (k1 : Int) = z) → k0 ≤ m → k1 ≤ m → ((k1 = 0 ∧ k0 = 1) ∨ (0 < k1 ∧ v < u)) →
      ∃ x q : Nat, Ev (approx_Best.l0 (L n) (L d) [] (L m) (L h0) (L k0) (L h1) (L k1) (L u) (L v)) (L x, (q : Int), true) ∧ 1 ≤ q ∧ q ≤ m ∧ ln x ≤ 1000 ∧ ∀ y e, 1 ≤ e → e ≤ m → Nearer n d x q y e := by
    intro v
    induction v using Nat.strongRecOn with
    | _ v ih =>
      intro u h0 k0 h1 k1 e1 e2 hg2 hu lu lv hdet hk0 hk1 hk
      rcases Nat.eq_zero_or_pos v with rfl | hv
      · rw [Nat.gcd_zero_right] at hg2
        subst hg2
        rw [Nat.mul_one, Nat.mul_zero, Nat.add_zero] at e1 e2
        subst e1; subst e2
        refine ⟨n, d, best_end (by omega), hd, hk1, by omega, fun y e he _ => ?_⟩
        unfold Nearer
        rw [show ad (n * d) (n * d) = 0 by unfold ad; omega, Nat.zero_mul]
        rcases Nat.eq_zero_or_pos (ad (n * e) (y * d) * d) with h0 | h0
        · refine .inr ⟨h0.symm, ?_⟩
          have h1 : ad (n * e) (y * d) = 0 := by
            rcases Nat.mul_eq_zero.mp h0 with h | h
            · exact h
            · omega
          have h2 : n * e = y * d := by unfold ad at h1; omega
          have hdv : d ∣ e := by
            have : d ∣ n * e := ⟨y, by rw [h2, Nat.mul_comm]⟩
            exact Nat.Coprime.dvd_of_dvd_mul_left (by rw [Nat.Coprime, Nat.gcd_comm]; exact hg) this
          have hle := Nat.le_of_dvd (by omega) hdv
          by_cases c : d = e
          · subst c; exact .inr ⟨rfl, Nat.le_of_eq (Nat.eq_of_mul_eq_mul_right hd h2)⟩
          · exact .inl (by omega)
        · exact .inl h0
      · have hm1 := Nat.div_add_mod u v
        have hr2 : u % v < v := Nat.mod_lt _ hv
        have b1 : h0 ≤ n := by rw [e1]; exact Nat.le_trans (Nat.le_mul_of_pos_right h0 hv) (Nat.le_add_left _ _)
        have b3 : h1 ≤ n + 1 := by
          rcases hu with hu | ⟨hu, _⟩
          · rw [e1]; exact Nat.le_succ_of_le (Nat.le_trans (Nat.le_mul_of_pos_right h1 hu) (Nat.le_add_right _ _))
          · omega
        have x1 := ln_mono b1
        have x2 := ln_mono hk0
        have x3 := ln_mono b3
        have x4 := ln_mono hk1
        have x5 := ln_add n 1
        have x6 := ln_mono (Nat.le_of_lt hr2)
        by_cases hle : k1 * (u / v) + k0 ≤ m
        · have e3 : k1 * u + k0 * v = v * (k1 * (u / v) + k0) + k1 * (u % v) := by
            conv => lhs; rw [← hm1]
            rw [Nat.mul_add, Nat.mul_add, Nat.mul_left_comm, Nat.mul_comm k0]; omega
          have e4 : h1 * u + h0 * v = v * (h1 * (u / v) + h0) + h1 * (u % v) := by
            conv => lhs; rw [← hm1]
            rw [Nat.mul_add, Nat.mul_add, Nat.mul_left_comm, Nat.mul_comm h0]; omega
          obtain ⟨z, hz, hdet⟩ := hdet
          obtain ⟨x, q, hev, r1, r2, r3, r4⟩ := ih (u % v) hr2 v h1 k1 (h1 * (u / v) + h0) (k1 * (u / v) + k0) (by rw [e1, e4, Nat.mul_comm v]) (by rw [e2, e3, Nat.mul_comm v])
            (by rw [Nat.gcd_comm, ← Nat.gcd_rec, Nat.gcd_comm]; exact hg2) (.inl hv) lv (by omega)
            ⟨-z, by omega, by push_cast; rw [← hdet]; grind⟩ hk1 hle
            (.inr ⟨by
              rcases hk with ⟨h, h'⟩ | ⟨h, h'⟩
              · rw [h', Nat.add_comm]; exact Nat.le_add_right 1 _
              · exact Nat.lt_of_lt_of_le (Nat.mul_pos h (Nat.div_pos (Nat.le_of_lt h') hv)) (Nat.le_add_right _ _), hr2⟩)
          exact ⟨x, q, best_step hv (by omega) (by omega) (by omega) (by omega) (by omega) (by omega) (by omega) hle hev, r1, r2, r3, r4⟩
        · have hk1p : 0 < k1 := by
            rcases hk with ⟨h, h'⟩ | ⟨h, _⟩
            · exfalso; apply hle; rw [h, Nat.zero_mul, Nat.zero_add]; exact hk0
            · exact h
          obtain ⟨k, hkk⟩ : ∃ k, k = (m - k0) / k1 := ⟨_, rfl⟩
          have d1 := Nat.div_add_mod (m - k0) k1
          have d2 := Nat.mod_lt (m - k0) hk1p
          rw [← hkk] at d1
          have ht1 : k1 * k + k0 ≤ m := by omega
          have ht2 : m < k1 + (k1 * k + k0) := by omega
          have ht0 : 0 < k1 * k + k0 := by
            rcases Nat.eq_zero_or_pos (k1 * k + k0) with h | h
            · exfalso; omega
            · exact h
          have hklt : k < u / v := by
            have : k1 * k < k1 * (u / v) := by omega
            exact Nat.lt_of_mul_lt_mul_left this
          have hkv : (k + 1) * v ≤ u := Nat.le_trans (Nat.mul_le_mul_right v hklt) (Nat.div_mul_le_self u v)
          obtain ⟨N, hN⟩ : ∃ N, u = N + k * v := ⟨u - k * v, by rw [Nat.add_mul] at hkv; omega⟩
          have hN0 : 0 < N := by rw [Nat.add_mul, Nat.one_mul] at hkv; omega
          have lk : ln k ≤ 2 := Nat.le_trans (ln_mono (by rw [hkk]; exact Nat.le_trans (Nat.div_le_self _ _) (Nat.sub_le m k0))) lm
          have ls1 := ln_mul h1 k
          have ls2 := ln_add (h1 * k) h0
          have lt1 := ln_mono ht1
          obtain ⟨z, hz, hdet⟩ := hdet
          have hdet2 : (h1 : Int) * ((k1 * k + k0 : Nat) : Int) - ((h1 * k + h0 : Nat) : Int) * (k1 : Int) = z := by
            rw [← hdet]; push_cast; grind
          have ea : n = h1 * N + (h1 * k + h0) * v := by rw [e1, hN]; grind
          have eb : d = k1 * N + (k1 * k + k0) * v := by rw [e2, hN]; grind
          have betw : ∀ y e, 1 ≤ e → e ≤ m → Nearer n d (h1 * k + h0) (k1 * k + k0) y e ∨ Nearer n d h1 k1 y e := fun y e he1 he2 => between hz hdet2 ea eb hN0 hv hk1p ht0 he1 (by omega)
          have hbp := bl_pos hv
          have lq := ln_mono (Nat.div_le_self u v)
          have lq1 := ln_mul k1 (u / v)
          have lq2 := ln_add (k1 * (u / v)) k0
          have hsub := nsub_ge (m := m) (n := k0) (by omega) hk0
          have lsub := ln_mono (Nat.sub_le m k0)
          have hdv := qdiv (a := m - k0) (b := k1) hk1p (by omega) (by omega)
          rw [← hkk] at hdv
          have go : ∀ x q : Nat, q ≤ m → Ev (approx_nearer.f (L n, L d) (L h1, L k1) (L (h1 * k + h0), L (k1 * k + k0))) (L x, L q) → Ev (approx_Best.l0 (L n) (L d) [] (L m) (L h0) (L k0) (L h1) (L k1) (L u) (L v)) (L x, (q : Int), true) := fun x q hqm h =>
            ev_loop approx_Best.l0_eq approx_Best.l0_step (Ev.bind (nbits (by omega)) (ev_pos (by omega) (Ev.bind (qdiv hv (by omega) (by omega)) (Ev.bind (more (by omega) (by omega) (by omega) (by omega) (by omega)) (Ev.bind (ncmp (by omega) (by omega)) (ev_pos (cmpI_gt.mpr (by omega)) (Ev.bind hsub (Ev.bind hdv (Ev.bind (more (by omega) (by omega) (by omega) (by omega) (by omega)) (Ev.bind h (Ev.bind (nsmall (n := q) (by omega)) (ev_now (by rw [wrap_nat (by omega)])))))))))))))
          rcases choice (p := h1) (q := k1) (s := h1 * k + h0) (t := k1 * k + k0) hr hd hk1p ht0 (by omega) (by omega) (by omega) (by omega) with ⟨c1, c2⟩ | ⟨c1, c2⟩
          · refine ⟨h1, k1, go h1 k1 hk1 c1, hk1p, hk1, by omega, fun y e he1 he2 => ?_⟩
            rcases betw y e he1 he2 with h | h
            · exact c2.trans hk1p ht0 he1 h
            · exact h
          · refine ⟨_, _, go _ _ ht1 c1, ht0, ht1, by omega, fun y e he1 he2 => ?_⟩
            rcases betw y e he1 he2 with h | h
            · exact h
            · exact c2.trans ht0 hk1p he1 h
  obtain ⟨x, q, hev, r⟩ := loop d n 0 1 1 0 (by omega) (by omega) hg (.inr ⟨rfl, rfl⟩) hn hld ⟨1, .inl rfl, by decide⟩ hm1 (by omega) (.inl ⟨rfl, rfl⟩)
  refine ⟨x, q, ev_eq approx_Best.f_eq (ev_neg (by omega) (ev_neg (by omega) ?_)), r⟩
  rw [wrap_u64_nat (by omega)]
  exact Ev.bind (of_val (by omega)) (Ev.bind (of_val (n := 1) (by decide)) (Ev.bind (of_val (n := 1) (by decide)) (Ev.bind (terms_pos hd (by omega)) hev)))
end Go.Proofs.Ytjkhkmcmnnhmcaa.F
