/- The best fraction of every number, with denominators of up to 60, is the document's, which tries all; with limits that may not be there is none. -/
import Derived.Test.YtjkhkmcmnnhmcaaQApproxBestA2
namespace Go.Proofs.Ytjkhkmcmnnhmcaa.Pure
open Go Go.Proofs.Ytjkhkmcmnnhmcaa.E Go.Proofs.Ytjkhkmcmnnhmcaa.F
set_option linter.unusedVariables false
set_option linter.unusedSimpArgs false
theorem best_bad {r : List Int × List Int} {m : Int} (h : m < 1 ∨ 999999999 < m) : Ev (approx_Best.f r m) (([] : List Int), 0, false) := by
  refine ev_eq approx_Best.f_eq ?_
  by_cases c : m < 1
  · exact ev_pos c (ev_now rfl)
  · exact ev_neg c (ev_pos (by omega) (ev_now rfl))
theorem nearer_scale {a b n d x q y e : Nat} (hb : 0 < b) (hd : 0 < d) (h : n * b = a * d) (k : Nearer n d x q y e) : Nearer a b x q y e := by
  have s : ∀ u v : Nat, ad (a * u) (v * b) * d = ad (n * u) (v * d) * b := by
    intro u v
    rw [ad_mul, ad_mul]
    congr 1
    · rw [Nat.mul_right_comm, ← h, Nat.mul_right_comm]
    · rw [Nat.mul_right_comm]
  have s1 := s q x
  have s2 := s e y
  unfold Nearer at *
  generalize ad (a * q) (x * b) = A at *
  generalize ad (a * e) (y * b) = B at *
  generalize ad (n * q) (x * d) = C at *
  generalize ad (n * e) (y * d) = E at *
  have e1 : A * e * d = C * e * b := by rw [Nat.mul_right_comm, s1, Nat.mul_right_comm]
  have e2 : B * q * d = E * q * b := by rw [Nat.mul_right_comm, s2, Nat.mul_right_comm]
  rcases k with k | ⟨k, k'⟩
  · left
    have : C * e * b < E * q * b := Nat.mul_lt_mul_of_pos_right k hb
    rw [← e1, ← e2] at this
    exact Nat.lt_of_mul_lt_mul_right this
  · right
    refine ⟨Nat.eq_of_mul_eq_mul_right hd ?_, k'⟩
    rw [e1, e2, k]
theorem nearer_anti {a b x q y e : Nat} (h : Nearer a b x q y e) (k : Nearer a b y e x q) : q = e ∧ x = y := by
  unfold Nearer at *
  omega
theorem nearer_self (a b x q : Nat) : Nearer a b x q x q := .inr ⟨rfl, .inr ⟨rfl, Nat.le_refl _⟩⟩
/-- What is nearest over a denominator is the whole number below, or the next one. -/
theorem floor_or {a b x q : Nat} (hb : 0 < b) (hq : 0 < q) (h : ∀ y, Nearer a b x q y q) : x = a * q / b ∨ x = a * q / b + 1 := by
  have d1 := Nat.div_add_mod (a * q) b
  have d2 := Nat.mod_lt (a * q) hb
  have h1 := h (a * q / b)
  have h2 := h (a * q / b + 1)
  unfold Nearer at h1 h2
  have g1 : ad (a * q) (x * b) ≤ ad (a * q) (a * q / b * b) := by
    rcases h1 with h | ⟨h, _⟩
    · exact Nat.le_of_lt (Nat.lt_of_mul_lt_mul_right h)
    · exact Nat.le_of_eq (Nat.eq_of_mul_eq_mul_right hq h)
  have g2 : ad (a * q) (x * b) ≤ ad (a * q) ((a * q / b + 1) * b) := by
    rcases h2 with h | ⟨h, _⟩
    · exact Nat.le_of_lt (Nat.lt_of_mul_lt_mul_right h)
    · exact Nat.le_of_eq (Nat.eq_of_mul_eq_mul_right hq h)
  clear h1 h2 h
  generalize a * q / b = f at *
  generalize a * q % b = r at *
  generalize a * q = A at *
  rw [Nat.mul_comm b] at d1
  rw [Nat.add_mul, Nat.one_mul] at g2
  rcases Nat.lt_trichotomy x f with c | c | c
  · exfalso
    have : (x + 1) * b ≤ f * b := Nat.mul_le_mul_right _ c
    rw [Nat.add_mul, Nat.one_mul] at this
    unfold ad at g1
    omega
  · exact .inl c
  · rcases Nat.lt_or_ge (f + 1) x with e | e
    · exfalso
      have : (f + 2) * b ≤ x * b := Nat.mul_le_mul_right _ e
      rw [Nat.add_mul] at this
      unfold ad at g2
      omega
    · right; omega
theorem away22 {a d y q : Nat} (ha : dn a ≤ 100) (hd : dn d ≤ 100) (hy : dn y ≤ 100) (hq : q < 18446744073709551616) : Ev (numeraryref22_away.f (D a, D d) (D y) (q : Int)) (D (ad (a * q) (y * d)), D (d * q)) := by
  have lq := dn_small hq
  refine ev_eq numeraryref22_away.f_eq ?_
  rw [wrap_u64_nat hq]
  exact Ev.bind (rof_val hq) (Ev.bind (raway08 (by omega) (by omega) (by omega) (by omega)) (ev_now rfl))
theorem newer {a d y q bn bq : Nat} (hd : 0 < d) (hb : 0 < bq) (hq : 0 < q) (ho : bq < q ∨ (bq = q ∧ bn ≤ y)) :
    (cmpI (ad (a * q) (y * d) * (d * bq)) (ad (a * bq) (bn * d) * (d * q)) < 0 ∧ Nearer a d y q bn bq) ∨ (¬ cmpI (ad (a * q) (y * d) * (d * bq)) (ad (a * bq) (bn * d) * (d * q)) < 0 ∧ Nearer a d bn bq y q) := by
  have e1 : ad (a * q) (y * d) * (d * bq) = ad (a * q) (y * d) * bq * d := by rw [Nat.mul_comm d, Nat.mul_assoc]
  have e2 : ad (a * bq) (bn * d) * (d * q) = ad (a * bq) (bn * d) * q * d := by rw [Nat.mul_comm d, Nat.mul_assoc]
  rw [cmpI_lt, e1, e2, Nat.mul_lt_mul_right hd]
  unfold Nearer
  omega
theorem dn_near {a d y q : Nat} (ha : dn a ≤ 20) (hd : dn d ≤ 20) (hy : dn y ≤ 30) (hq : dn q ≤ 20) : dn (ad (a * q) (y * d)) ≤ 100 ∧ dn (d * q) ≤ 100 := by
  have h1 := dn_mul a q
  have h2 := dn_mul y d
  have h3 := dn_mul d q
  have h4 := ad_le (a * q) (y * d)
  have h5 := dn_mono h4
  have h6 : dn (max (a * q) (y * d)) ≤ 60 := by
    rcases Nat.le_total (a * q) (y * d) with h | h
    · rw [Nat.max_eq_right h]; omega
    · rw [Nat.max_eq_left h]; omega
  exact ⟨by omega, by omega⟩
theorem step0 {a d f q bn bq : Nat} {most : Int} {R : List Int × Int} (ha : dn a ≤ 20) (hd : dn d ≤ 20) (hf : dn f ≤ 30) (hbn : dn bn ≤ 30) (hd0 : 0 < d) (hq0 : 0 < q) (hq : q ≤ 100) (hb : 0 < bq) (hbq : bq ≤ q) (ho : bq < q ∨ (bq = q ∧ bn ≤ f))
    (h : ∀ n m, (n = f ∧ m = q) ∨ (n = bn ∧ m = bq) → Nearer a d n m f q → Nearer a d n m bn bq → Ev (numeraryref22_Best.l1 most (D a) (D d) (D n) (m : Int) (D (ad (a * m) (n * d))) (D (d * m)) (q : Int) (D f) 1) R) :
    Ev (numeraryref22_Best.l1 most (D a) (D d) (D bn) (bq : Int) (D (ad (a * bq) (bn * d))) (D (d * bq)) (q : Int) (D f) 0) R := by
  have lq := dn_small (n := q) (by omega)
  have lb := dn_small (n := bq) (by omega)
  obtain ⟨p1, p2⟩ := dn_near ha hd hf lq
  obtain ⟨p3, p4⟩ := dn_near ha hd hbn lb
  refine ev_loop numeraryref22_Best.l1_eq numeraryref22_Best.l1_step (ev_pos (by decide) (ev_neg (by decide) (Ev.bind (away22 (by omega) (by omega) (by omega) (by omega)) (ev_pos (by omega) (Ev.bind (rcmp08 (by omega) (by omega) (by omega) (by omega)) ?_)))))
  rcases newer (a := a) (d := d) (y := f) (q := q) (bn := bn) (bq := bq) hd0 hb hq0 ho with ⟨c1, c2⟩ | ⟨c1, c2⟩
  · exact ev_pos c1 (h f q (.inl ⟨rfl, rfl⟩) (nearer_self _ _ _ _) c2)
  · exact ev_neg c1 (h bn bq (.inr ⟨rfl, rfl⟩) c2 (nearer_self _ _ _ _))
theorem step1 {a d f q bn bq : Nat} {most : Int} {R : List Int × Int} (ha : dn a ≤ 20) (hd : dn d ≤ 20) (hf : dn f ≤ 29) (hbn : dn bn ≤ 30) (hd0 : 0 < d) (hq0 : 0 < q) (hq : q ≤ 100) (hb : 0 < bq) (hbq : bq ≤ q) (ho : bq < q ∨ (bq = q ∧ bn ≤ f + 1))
    (h : ∀ n m, (n = f + 1 ∧ m = q) ∨ (n = bn ∧ m = bq) → Nearer a d n m (f + 1) q → Nearer a d n m bn bq → Ev (numeraryref22_Best.l0 most (D a) (D d) (D n) (m : Int) (D (ad (a * m) (n * d))) (D (d * m)) ((q + 1 : Nat) : Int)) R) :
    Ev (numeraryref22_Best.l1 most (D a) (D d) (D bn) (bq : Int) (D (ad (a * bq) (bn * d))) (D (d * bq)) (q : Int) (D f) 1) R := by
  have lq := dn_small (n := q) (by omega)
  have lb := dn_small (n := bq) (by omega)
  have l1 := dn_small (n := 1) (by decide)
  have lf := dn_add f 1
  have lf1 : dn (f + 1) ≤ 30 := by omega
  obtain ⟨p1, p2⟩ := dn_near ha hd lf1 lq
  obtain ⟨p3, p4⟩ := dn_near ha hd hbn lb
  have hadd := radd_D (m := f) (n := 1) (by omega) (by omega)
  rw [show D 1 = ([1] : List Int) by decide] at hadd
  have last : ∀ n m, (n = f + 1 ∧ m = q) ∨ (n = bn ∧ m = bq) → Nearer a d n m (f + 1) q → Nearer a d n m bn bq → Ev (numeraryref22_Best.l1 most (D a) (D d) (D n) (m : Int) (D (ad (a * m) (n * d))) (D (d * m)) (q : Int) (D f) (IntKind.i64.wrap (1 + 1))) R := by
    intro n m h1 h2 h3
    refine ev_loop numeraryref22_Best.l1_eq numeraryref22_Best.l1_step (ev_neg (by decide) ?_)
    rw [show IntKind.i64.wrap ((q : Int) + 1) = ((q + 1 : Nat) : Int) by rw [wrap_id (by omega) (by omega)]; omega]
    exact h n m h1 h2 h3
  refine ev_loop numeraryref22_Best.l1_eq numeraryref22_Best.l1_step (ev_pos (by decide) (ev_pos rfl (Ev.bind hadd (Ev.bind (away22 (by omega) (by omega) (by omega) (by omega)) (ev_pos (by omega) (Ev.bind (rcmp08 (by omega) (by omega) (by omega) (by omega)) ?_))))))
  rcases newer (a := a) (d := d) (y := f + 1) (q := q) (bn := bn) (bq := bq) hd0 hb hq0 ho with ⟨c1, c2⟩ | ⟨c1, c2⟩
  · exact ev_pos c1 (last (f + 1) q (.inl ⟨rfl, rfl⟩) (nearer_self _ _ _ _) c2)
  · exact ev_neg c1 (last bn bq (.inr ⟨rfl, rfl⟩) c2 (nearer_self _ _ _ _))
theorem ref_best {a d k : Nat} (ha : a < 18446744073709551616) (hd : d < 18446744073709551616) (hd0 : 0 < d) (hk1 : 1 ≤ k) (hk : k ≤ 60) :
    ∃ bn bq : Nat, Ev (numeraryref22_Best.f (D a, D d) (k : Int)) (D bn, (bq : Int)) ∧ 1 ≤ bq ∧ bq ≤ k ∧ dn bn ≤ 30 ∧ ∀ e, 1 ≤ e → e ≤ k → Nearer a d bn bq (a * e / d) e ∧ Nearer a d bn bq (a * e / d + 1) e := by
  have la := dn_small ha
  have ld := dn_small hd
  have floor : ∀ q : Nat, q ≤ 60 → dn (a * q / d) ≤ 25 := by
    intro q hq
    have h1 : a * q / d ≤ 10 ^ 25 := by
      refine Nat.le_trans (Nat.div_le_self _ _) (Nat.le_trans (Nat.mul_le_mul (Nat.le_of_lt ha) hq) (by decide))
    refine (dg_len b10 _ _).mpr (Nat.lt_of_le_of_lt (Nat.le_trans (Nat.div_le_self _ _) (Nat.mul_le_mul (Nat.le_of_lt ha) hq)) (by decide))
  have divs : ∀ q : Nat, q ≤ 60 → ∀ {x7 : Int} {x6 x8 x8' : List Int} {R : List Int × Int}, (q : Int) ≤ (k : Int) → Ev (numeraryref22_Best.l1 (k : Int) (D a) (D d) x6 x7 x8 x8' (q : Int) (D (a * q / d)) 0) R → Ev (numeraryref22_Best.l0 (k : Int) (D a) (D d) x6 x7 x8 x8' (q : Int)) R := by
    intro q hq x7 x6 x8 x8' R hle h
    have l1 := dn_mul a q
    have l2 := dn_small (n := q) (by omega)
    exact ev_loop numeraryref22_Best.l0_eq numeraryref22_Best.l0_step (ev_pos hle (Ev.bind (rtimes_D (by omega) (by omega)) (Ev.bind (rdiv_D hd0 (by omega) (by omega)) h)))
  -- from the second denominator on
  have loop : ∀ j q bn bq : Nat, q + j = k + 1 → 2 ≤ q → 1 ≤ bq → bq < q → dn bn ≤ 30 → (∀ e, 1 ≤ e → e < q → Nearer a d bn bq (a * e / d) e ∧ Nearer a d bn bq (a * e / d + 1) e) →
      ∃ n m : Nat, Ev (numeraryref22_Best.l0 (k : Int) (D a) (D d) (D bn) (bq : Int) (D (ad (a * bq) (bn * d))) (D (d * bq)) (q : Int)) (D n, (m : Int)) ∧ 1 ≤ m ∧ m ≤ k ∧ dn n ≤ 30 ∧ ∀ e, 1 ≤ e → e ≤ k → Nearer a d n m (a * e / d) e ∧ Nearer a d n m (a * e / d + 1) e := by
    intro j
    induction j with
    | zero =>
      intro q bn bq hj hq hb hbq hbn hall
      exact ⟨bn, bq, ev_loop numeraryref22_Best.l0_eq numeraryref22_Best.l0_step (ev_neg (by omega) (ev_now rfl)), hb, by omega, hbn, fun e h1 h2 => hall e h1 (by omega)⟩
    | succ j ih =>
      intro q bn bq hj hq hb hbq hbn hall
      have lf := floor q (by omega)
      have l1 := dn_small (n := 1) (by decide)
      have lf1 := dn_add (a * q / d) 1
      -- which one is best now
      have pick : ∃ n1 m1 n2 m2 : Nat, 1 ≤ m2 ∧ m2 ≤ q ∧ dn n2 ≤ 30 ∧ Nearer a d n2 m2 (a * q / d) q ∧ Nearer a d n2 m2 (a * q / d + 1) q ∧ Nearer a d n2 m2 bn bq ∧ (∀ R, Ev (numeraryref22_Best.l0 (k : Int) (D a) (D d) (D n2) (m2 : Int) (D (ad (a * m2) (n2 * d))) (D (d * m2)) ((q + 1 : Nat) : Int)) R → Ev (numeraryref22_Best.l0 (k : Int) (D a) (D d) (D bn) (bq : Int) (D (ad (a * bq) (bn * d))) (D (d * bq)) (q : Int)) R) := by
        rcases newer (a := a) (d := d) (y := a * q / d) (q := q) (bn := bn) (bq := bq) hd0 hb (by omega) (.inl hbq) with ⟨c1, c2⟩ | ⟨c1, c2⟩
        · rcases newer (a := a) (d := d) (y := a * q / d + 1) (q := q) (bn := a * q / d) (bq := q) hd0 (by omega) (by omega) (.inr ⟨rfl, by omega⟩) with ⟨d1, d2⟩ | ⟨d1, d2⟩
          · refine ⟨0, 0, a * q / d + 1, q, by omega, Nat.le_refl _, by omega, d2, nearer_self _ _ _ _, d2.trans (by omega) (by omega) hb c2, fun R h => divs q (by omega) (by omega) ?_⟩
            refine step0 la ld (by omega) hbn hd0 (by omega) (by omega) hb (by omega) (.inl hbq) ?_
            intro n m hnm k1 k2
            rcases hnm with ⟨rfl, rfl⟩ | ⟨rfl, rfl⟩
            · refine step1 la ld (by omega) (by omega) hd0 (by omega) (by omega) (by omega) (Nat.le_refl _) (.inr ⟨rfl, by omega⟩) ?_
              intro n m hnm k3 k4
              rcases hnm with ⟨rfl, rfl⟩ | ⟨rfl, rfl⟩
              · exact h
              · exfalso; have := nearer_anti k3 d2; omega
            · exfalso; have := nearer_anti k1 c2; omega
          · refine ⟨0, 0, a * q / d, q, by omega, Nat.le_refl _, by omega, nearer_self _ _ _ _, d2, c2, fun R h => divs q (by omega) (by omega) ?_⟩
            refine step0 la ld (by omega) hbn hd0 (by omega) (by omega) hb (by omega) (.inl hbq) ?_
            intro n m hnm k1 k2
            rcases hnm with ⟨rfl, rfl⟩ | ⟨rfl, rfl⟩
            · refine step1 la ld (by omega) (by omega) hd0 (by omega) (by omega) (by omega) (Nat.le_refl _) (.inr ⟨rfl, by omega⟩) ?_
              intro n m hnm k3 k4
              rcases hnm with ⟨rfl, rfl⟩ | ⟨rfl, rfl⟩
              · exfalso; have := nearer_anti k4 d2; omega
              · exact h
            · exfalso; have := nearer_anti k1 c2; omega
        · rcases newer (a := a) (d := d) (y := a * q / d + 1) (q := q) (bn := bn) (bq := bq) hd0 hb (by omega) (.inl hbq) with ⟨d1, d2⟩ | ⟨d1, d2⟩
          · refine ⟨0, 0, a * q / d + 1, q, by omega, Nat.le_refl _, by omega, d2.trans (by omega) hb (by omega) c2, nearer_self _ _ _ _, d2, fun R h => divs q (by omega) (by omega) ?_⟩
            refine step0 la ld (by omega) hbn hd0 (by omega) (by omega) hb (by omega) (.inl hbq) ?_
            intro n m hnm k1 k2
            rcases hnm with ⟨rfl, rfl⟩ | ⟨rfl, rfl⟩
            · exfalso; have := nearer_anti k2 c2; omega
            · refine step1 la ld (by omega) (by omega) hd0 (by omega) (by omega) (by omega) (by omega) (.inl hbq) ?_
              intro n m hnm k3 k4
              rcases hnm with ⟨rfl, rfl⟩ | ⟨rfl, rfl⟩
              · exact h
              · exfalso; have := nearer_anti k3 d2; omega
          · refine ⟨0, 0, bn, bq, hb, by omega, hbn, c2, d2, nearer_self _ _ _ _, fun R h => divs q (by omega) (by omega) ?_⟩
            refine step0 la ld (by omega) hbn hd0 (by omega) (by omega) hb (by omega) (.inl hbq) ?_
            intro n m hnm k1 k2
            rcases hnm with ⟨rfl, rfl⟩ | ⟨rfl, rfl⟩
            · exfalso; have := nearer_anti k2 c2; omega
            · refine step1 la ld (by omega) (by omega) hd0 (by omega) (by omega) (by omega) (by omega) (.inl hbq) ?_
              intro n m hnm k3 k4
              rcases hnm with ⟨rfl, rfl⟩ | ⟨rfl, rfl⟩
              · exfalso; have := nearer_anti k4 d2; omega
              · exact h
      obtain ⟨_, _, n2, m2, p1, p2, p3, p4, p5, p6, p7⟩ := pick
      obtain ⟨n, m, hev, r⟩ := ih (q + 1) n2 m2 (by omega) (by omega) p1 (by omega) p3 (fun e h1 h2 => by
        rcases Nat.lt_or_ge e q with c | c
        · have := hall e h1 c
          exact ⟨p6.trans p1 hb h1 this.1, p6.trans p1 hb h1 this.2⟩
        · obtain rfl : e = q := by omega
          exact ⟨p4, p5⟩)
      exact ⟨n, m, p7 _ hev, r⟩
  -- the first one
  have lf := floor 1 (by decide)
  have l1 := dn_small (n := 1) (by decide)
  have lf1 := dn_add (a * 1 / d) 1
  have first : ∀ R, Ev (numeraryref22_Best.l1 (k : Int) (D a) (D d) (D (a * 1 / d)) ((1 : Nat) : Int) (D (ad (a * 1) (a * 1 / d * d))) (D (d * 1)) ((1 : Nat) : Int) (D (a * 1 / d)) 1) R → Ev (numeraryref22_Best.f (D a, D d) (k : Int)) R := by
    intro R h
    refine ev_eq numeraryref22_Best.f_eq (divs 1 (by decide) (by omega) ?_)
    exact ev_loop numeraryref22_Best.l1_eq numeraryref22_Best.l1_step (ev_pos (by decide) (ev_neg (by decide) (Ev.bind (away22 (by omega) (by omega) (by omega) (by decide)) (ev_neg (by decide) (ev_pos (by decide) h)))))
  have one : ∃ n m : Nat, m = 1 ∧ dn n ≤ 30 ∧ Nearer a d n m (a * 1 / d) 1 ∧ Nearer a d n m (a * 1 / d + 1) 1 ∧ ∀ R, Ev (numeraryref22_Best.l0 (k : Int) (D a) (D d) (D n) (m : Int) (D (ad (a * m) (n * d))) (D (d * m)) ((1 + 1 : Nat) : Int)) R → Ev (numeraryref22_Best.f (D a, D d) (k : Int)) R := by
    rcases newer (a := a) (d := d) (y := a * 1 / d + 1) (q := 1) (bn := a * 1 / d) (bq := 1) hd0 (by decide) (by decide) (.inr ⟨rfl, by omega⟩) with ⟨d1, d2⟩ | ⟨d1, d2⟩
    · refine ⟨a * 1 / d + 1, 1, rfl, by omega, d2, nearer_self _ _ _ _, fun R h => first R ?_⟩
      refine step1 la ld (by omega) (by omega) hd0 (by decide) (by decide) (by decide) (Nat.le_refl _) (.inr ⟨rfl, by omega⟩) ?_
      intro n m hnm k3 k4
      rcases hnm with ⟨rfl, rfl⟩ | ⟨rfl, rfl⟩
      · exact h
      · exfalso; have := nearer_anti k3 d2; omega
    · refine ⟨a * 1 / d, 1, rfl, by omega, nearer_self _ _ _ _, d2, fun R h => first R ?_⟩
      refine step1 la ld (by omega) (by omega) hd0 (by decide) (by decide) (by decide) (Nat.le_refl _) (.inr ⟨rfl, by omega⟩) ?_
      intro n m hnm k3 k4
      rcases hnm with ⟨rfl, rfl⟩ | ⟨rfl, rfl⟩
      · exfalso; have := nearer_anti k4 d2; omega
      · exact h
  obtain ⟨n0, m0, rfl, o1, o2, o3, o4⟩ := one
  obtain ⟨n, m, hev, r⟩ := loop (k - 1) 2 n0 1 (by omega) (by decide) (by decide) (by decide) o1 (fun e h1 h2 => by
    obtain rfl : e = 1 := by omega
    exact ⟨o2, o3⟩)
  exact ⟨n, m, o4 _ hev, r⟩
theorem ApproxBest (a0 : Int) (h0 : (Lit.int .u64 a0).wf = true) (a1 : Int) (h1 : (Lit.int .u64 a1).wf = true) (a2 : Int) (h2 : (Lit.int .i64 a2).wf = true) : Ev (numerarylaw22_ApproxBest.f a0 a1 a2) true := by
  obtain ⟨h0a, h0b⟩ := wf_u64 h0
  obtain ⟨h1a, h1b⟩ := wf_u64 h1
  obtain ⟨a, rfl⟩ : ∃ n : Nat, a0 = (n : Int) := ⟨a0.toNat, by omega⟩
  obtain ⟨b, rfl⟩ : ∃ n : Nat, a1 = (n : Int) := ⟨a1.toNat, by omega⟩
  obtain ⟨k, hk, hk1, hk2⟩ : ∃ k : Nat, IntKind.i64.wrap (1 + ((mxI 0 a2).tmod 60)) = (k : Int) ∧ 1 ≤ k ∧ k ≤ 60 := by
    have h : 0 ≤ mxI 0 a2 := by unfold mxI; split <;> omega
    refine ⟨1 + ((mxI 0 a2) % 60).toNat, ?_, by omega, by omega⟩
    rw [Int.tmod_eq_emod_of_nonneg h, wrap_id (by omega) (by omega)]; omega
  obtain ⟨d, r, hd, hr, hof⟩ := of22 (a := a) (b := b) (by omega) (by omega)
  have hd0 : 0 < d := by omega
  obtain ⟨n', d', rfl, p1, g, e1, la, lb⟩ := hr
  obtain ⟨x, p, hbest, hp1, hpk, lx, hall⟩ := best_all (n := n') (d := d') (m := k) p1 g hk1 (by omega) (by omega) (by omega)
  obtain ⟨bn, bq, hrb, hb1, hb2, lbn, hrall⟩ := ref_best (a := a) (d := d) (k := k) (by omega) (by omega) hd0 hk1 hk2
  have hall2 : ∀ y e, 1 ≤ e → e ≤ k → Nearer a d x p y e := fun y e h1 h2 => nearer_scale hd0 p1 e1 (hall y e h1 h2)
  have heq : p = bq ∧ x = bn := by
    refine nearer_anti (hall2 bn bq hb1 hb2) ?_
    rcases floor_or hd0 (by omega) (fun y => hall2 y p hp1 hpk) with h | h
    · have := (hrall p hp1 hpk).1; rw [← h] at this; exact this
    · have := (hrall p hp1 hpk).2; rw [← h] at this; exact this
  obtain ⟨rfl, rfl⟩ := heq
  have tail : Ev (M.bind (approx_Best.f (L n', L d') (IntKind.i64.wrap (1 + ((mxI 0 a2).tmod 60)))) fun t4 => (M.bind (numeraryref22_Best.f (D a, D d) (IntKind.i64.wrap (1 + ((mxI 0 a2).tmod 60)))) fun t5 => (M.bind (numerarylaw22_wakes.f ()) fun t6 => (if t6 = true then (if t4.2.2 = true then (if t4.2.1 = t5.2 then (M.bind (numerarylaw22_digits.f t4.1) fun t7 => (M.bind (numeraryref02_Cmp.f t7 t5.1) fun t8 => (M.ret (decide (t8 = 0))))) else (M.ret false)) else (M.ret false)) else (M.ret false))))) true := by
    rw [hk]
    exact Ev.bind hbest (Ev.bind hrb (Ev.bind wakes22 (ev_pos rfl (ev_pos rfl (ev_pos rfl (Ev.bind (digits22 (by omega)) (Ev.bind (rcmp_D (by omega) (by omega)) (ev_now (by rw [cmpI_self]; rfl)))))))))
  refine ev_eq numerarylaw22_ApproxBest.f_eq (Ev.bind hof ?_)
  have b0 := nbits (n := 0) (by decide)
  rw [bl_zero] at b0
  by_cases c1 : 1 ≤ a2
  · by_cases c2 : a2 ≤ 999999999
    · obtain ⟨m, rfl⟩ : ∃ n : Nat, a2 = (n : Int) := ⟨a2.toNat, by omega⟩
      obtain ⟨x2, p2, hbest2, _⟩ := best_all (n := n') (d := d') (m := m) p1 g (by omega) (by omega) (by omega) (by omega)
      exact Ev.bind hbest2 (ev_pos c1 (ev_neg (by simp [c2]) (ev_neg (by simp) tail)))
    · exact Ev.bind (best_bad (.inr (by omega))) (ev_pos c1 (ev_neg (by simp [c2]) (ev_pos (by simp) (Ev.bind b0 (ev_neg (by decide) (ev_neg (by decide) tail))))))
  · exact Ev.bind (best_bad (.inl (by omega))) (ev_neg c1 (ev_neg (by simp) (ev_pos (by simp) (Ev.bind b0 (ev_neg (by decide) (ev_neg (by decide) tail))))))
end Go.Proofs.Ytjkhkmcmnnhmcaa.Pure
