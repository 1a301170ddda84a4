/- The whole numbers of a continued fraction, put together, are the number; cut off they are the first ones. -/
import Derived.Test.YtjkhkmcmnnhmcaaQApproxTermsA1
namespace Go.Proofs.Ytjkhkmcmnnhmcaa.Pure
open Go Go.Proofs.Ytjkhkmcmnnhmcaa.E Go.Proofs.Ytjkhkmcmnnhmcaa.F
set_option linter.unusedVariables false
/-- The whole numbers of a continued fraction. -/
def cf : Nat → Nat → Nat → List Nat
  | 0, _, _ => []
  | f + 1, u, v => if v = 0 then [] else u / v :: cf f v (u % v)
theorem cf_zero (f u : Nat) : cf f u 0 = [] := by cases f <;> simp [cf]
theorem cf_pos {f u v : Nat} (hv : 0 < v) : cf (f + 1) u v = u / v :: cf f v (u % v) := if_neg (by omega)
theorem bl_half {a b : Nat} (h : 2 * a < b) : bl a + 1 ≤ bl b := by
  rcases Nat.eq_zero_or_pos a with rfl | ha
  · have := bl_pos (n := b) (by omega)
    rw [bl_zero]; omega
  · have h1 := bl_shift (t := a) (low := 0) (k := 1) ha (by decide)
    rw [Nat.zero_add] at h1
    have h2 := bl_mono (Nat.le_of_lt h)
    rw [show 2 * a = 2 ^ 1 * a by omega, h1] at h2
    omega
theorem cf_len : ∀ (f u v : Nat), v < f → (cf f u v).length ≤ 2 * bl v := by
  intro f
  induction f using Nat.strongRecOn with
  | _ f ih =>
    intro u v hf
    rcases Nat.eq_zero_or_pos v with rfl | hv
    · rw [cf_zero]; simp
    · have hb := bl_pos hv
      obtain ⟨g, rfl⟩ : ∃ g, f = g + 1 := ⟨f - 1, by omega⟩
      rw [cf_pos hv]
      have hr := Nat.mod_lt u hv
      rcases Nat.eq_zero_or_pos (u % v) with h0 | h0
      · rw [h0, cf_zero]; simp; omega
      · obtain ⟨k, rfl⟩ : ∃ k, g = k + 1 := ⟨g - 1, by omega⟩
        rw [cf_pos h0]
        have hr2 := Nat.mod_lt v h0
        have h3 : 2 * (v % (u % v)) < v := by
          have h4 := Nat.div_add_mod v (u % v)
          have h5 : 1 ≤ v / (u % v) := (Nat.le_div_iff_mul_le h0).mpr (by omega)
          have h6 := Nat.mul_le_mul_left (u % v) h5
          omega
        have h7 := bl_half h3
        have h8 := ih k (by omega) (u % v) (v % (u % v)) (by omega)
        simp only [List.length_cons]
        omega
theorem cf_ln {c : Nat} : ∀ (f u v : Nat), ln u ≤ c → ln v ≤ c → ∀ q ∈ cf f u v, ln q ≤ c
  | 0, _, _, _, _, q, h => by cases h
  | f + 1, u, v, hu, hv, q, h => by
    rcases Nat.eq_zero_or_pos v with rfl | hp
    · rw [cf_zero] at h; cases h
    · rw [cf_pos hp] at h
      rcases List.mem_cons.mp h with rfl | h
      · exact Nat.le_trans (ln_mono (Nat.div_le_self u v)) hu
      · exact cf_ln f v (u % v) hv (Nat.le_trans (ln_mono (Nat.le_of_lt (Nat.mod_lt u hp))) hv) q h
theorem terms {m : Int} : ∀ (f u v : Nat) (out : List (List Int)), v < f → ln u ≤ 1000 → ln v ≤ 1000 → out.length + (cf f u v).length ≤ 1000 → Ev (approx_Terms.l0 m out (L u) (L v)) (out ++ ((cf f u v).map L).take (m - out.length).toNat) := by
  intro f
  induction f with
  | zero => intro u v out h; omega
  | succ f ih =>
    intro u v out hf lu lv hl
    by_cases hm : (out.length : Int) < m
    · rcases Nat.eq_zero_or_pos v with rfl | hv
      · rw [cf_zero, List.map_nil, List.take_nil, List.append_nil]
        exact ev_loop approx_Terms.l0_eq approx_Terms.l0_step (ev_pos hm (Ev.bind (qdiv0 (by omega)) (ev_pos rfl (ev_now rfl))))
      · have hr := Nat.mod_lt u hv
        rw [cf_pos hv] at hl ⊢
        simp only [List.length_cons] at hl
        refine terms_step hv (by omega) (by omega) hm (by omega) ?_
        have := ih v (u % v) (out ++ [L (u / v)]) (by omega) lv (Nat.le_trans (ln_mono (Nat.le_of_lt hr)) lv) (by simp only [List.length_append, List.length_cons, List.length_nil]; omega)
        obtain ⟨k, hk⟩ : ∃ k : Nat, (m - (out.length : Int)).toNat = k + 1 := ⟨(m - (out.length : Int)).toNat - 1, by omega⟩
        rw [hk, List.map_cons, List.take_succ_cons]
        rw [show (m - ((out ++ [L (u / v)]).length : Int)).toNat = k by simp only [List.length_append, List.length_cons, List.length_nil]; omega, List.append_assoc] at this
        exact this
    · rw [show (m - (out.length : Int)).toNat = 0 by omega, List.take_zero, List.append_nil]
      exact ev_loop approx_Terms.l0_eq approx_Terms.l0_step (ev_neg hm (ev_now rfl))
theorem rd_mapL (xs : List Nat) (i : Nat) : rdT (.agg (.lst (.int .u32))) (xs.map L) (i : Int) = L (xs.getD i 0) := by
  unfold rdT
  rw [Int.toNat_natCast, List.getD_eq_getElem?_getD, List.getD_eq_getElem?_getD, List.getElem?_map]
  cases xs[i]? <;> rfl
theorem lowest_unique {t : List Int × List Int} {u v c : Nat} (h : RQ t u v c) (hv : 0 < v) (g : Nat.gcd u v = 1) : t = (L u, L v) := by
  obtain ⟨n, d, rfl, hd, hg, e, _, _⟩ := h
  have d1 : d ∣ v := by
    have : d ∣ n * v := ⟨u, by rw [e, Nat.mul_comm]⟩
    exact Nat.Coprime.dvd_of_dvd_mul_left (by rw [Nat.Coprime, Nat.gcd_comm]; exact hg) this
  have d2 : v ∣ d := by
    have : v ∣ u * d := ⟨n, by rw [← e, Nat.mul_comm]⟩
    exact Nat.Coprime.dvd_of_dvd_mul_left (by rw [Nat.Coprime, Nat.gcd_comm]; exact g) this
  have hdv := Nat.dvd_antisymm d1 d2
  subst hdv
  rw [Nat.eq_of_mul_eq_mul_right hd e]
theorem back {a2 : Int} {rn rd : List Int} {res : Bool} : ∀ (f u v : Nat) (pre : List Nat), v < f → Nat.gcd u v = 1 → ln u ≤ 1000 → ln v ≤ 1000 → (pre ≠ [] → v ≤ u) → pre.length + (cf f u v).length ≤ 1000 →
    Ev (numerarylaw22_ApproxTerms.l0 a2 rn rd ((pre ++ cf f u v).map L) (L u) (L v) ((pre.length : Int) - 1)) res →
    Ev (numerarylaw22_ApproxTerms.l0 a2 rn rd ((pre ++ cf f u v).map L) (L 1) [] (((pre ++ cf f u v).length : Int) - 1)) res := by
  intro f
  induction f with
  | zero => intro u v pre h; omega
  | succ f ih =>
    intro u v pre hf hg lu lv hq hl h
    rcases Nat.eq_zero_or_pos v with rfl | hv
    · rw [Nat.gcd_zero_right] at hg
      subst hg
      rw [cf_zero, List.append_nil] at h ⊢
      exact h
    · have hr := Nat.mod_lt u hv
      have hlr := ln_mono (Nat.le_of_lt hr)
      have l1 := ln_small (n := 1) (by decide)
      have lq := ln_mono (Nat.div_le_self u v)
      have hlen := hl
      rw [cf_pos hv] at h hl ⊢
      simp only [List.length_cons] at hl
      have e : pre ++ u / v :: cf f v (u % v) = (pre ++ [u / v]) ++ cf f v (u % v) := by rw [List.append_assoc]; rfl
      rw [e] at h ⊢
      have hall : ((pre ++ [u / v] ++ cf f v (u % v)).map L).length = pre.length + 1 + (cf f v (u % v)).length := by simp only [List.length_map, List.length_append, List.length_cons, List.length_nil]
      refine ih v (u % v) (pre ++ [u / v]) (by omega) (by rw [Nat.gcd_comm, ← Nat.gcd_rec, Nat.gcd_comm]; exact hg) lv (by omega) (fun _ => Nat.le_of_lt hr) (by simp only [List.length_append, List.length_cons, List.length_nil]; omega) ?_
      rw [show (((pre ++ [u / v]).length : Int) - 1) = (pre.length : Int) by simp only [List.length_append, List.length_cons, List.length_nil]; omega]
      have hat : (pre ++ [u / v] ++ cf f v (u % v)).getD pre.length 0 = u / v := by
        rw [List.getD_eq_getElem?_getD, List.append_assoc, List.getElem?_append_right (Nat.le_refl _), Nat.sub_self]; rfl
      obtain ⟨x, hx, vx⟩ := ratio_of (a := u / v) (b := 1) (c := 1000) (by decide) (by decide) (by omega) (by omega)
      obtain ⟨y, hy, vy⟩ := ratio_of (a := u % v) (b := v) (c := 1000) hv (by decide) (by omega) lv
      obtain ⟨s, hs, vs⟩ := ratio_add hx hy (by decide) hv (by decide) (by decide)
      have hs2 : s = (L u, L v) := by
        refine lowest_unique (c := 2001) (hs.trans (by omega) ?_) hv hg
        rw [Nat.one_mul, Nat.mul_one, Nat.mul_comm (u / v), Nat.div_add_mod]
      subst hs2
      have hw : IntKind.i64.wrap ((pre.length : Int) - 1) = (pre.length : Int) - 1 := wrap_id (by omega) (by omega)
      refine ev_loop numerarylaw22_ApproxTerms.l0_eq numerarylaw22_ApproxTerms.l0_step (ev_pos (by omega) (ev_pos (by omega) (ev_pos (by omega) ?_)))
      rw [rd_mapL, hat, hw]
      refine Ev.bind (of_val (n := 1) (by decide)) (Ev.bind vx (Ev.bind vy (Ev.bind vs (Ev.bind (terms_pos hv (by omega)) ?_))))
      have hwl : IntKind.i64.wrap ((((pre ++ [u / v] ++ cf f v (u % v)).map L).length : Int) - 1) = (((pre ++ [u / v] ++ cf f v (u % v)).map L).length : Int) - 1 := wrap_id (by omega) (by omega)
      rw [hwl]
      by_cases c1 : (pre.length : Int) < (((pre ++ [u / v] ++ cf f v (u % v)).map L).length : Int) - 1
      · refine ev_pos c1 ?_
        by_cases c2 : (pre.length : Int) > 0
        · have hqp : 0 < u / v := Nat.div_pos (hq (by intro h; rw [h] at c2; simp at c2)) hv
          have hbp := bl_pos hqp
          exact ev_pos c2 (ev_pos (by omega) (ev_pos (by omega) (Ev.bind (nbits (by omega)) (ev_neg (by omega) h))))
        · exact ev_neg c2 h
      · exact ev_neg c1 h
theorem ApproxTerms (a0 : Int) (h0 : (Lit.int .u64 a0).wf = true) (a1 : Int) (h1 : (Lit.int .u64 a1).wf = true) (a2 : Int) (h2 : (Lit.int .i64 a2).wf = true) : Ev (numerarylaw22_ApproxTerms.f a0 a1 a2) true := by
  obtain ⟨h0a, h0b⟩ := wf_u64 h0
  obtain ⟨h1a, h1b⟩ := wf_u64 h1
  obtain ⟨h2a, h2b⟩ := wf_i64 h2
  obtain ⟨a, rfl⟩ : ∃ n : Nat, a0 = (n : Int) := ⟨a0.toNat, by omega⟩
  obtain ⟨b, rfl⟩ : ∃ n : Nat, a1 = (n : Int) := ⟨a1.toNat, by omega⟩
  obtain ⟨d0, r, hd, hr, hof⟩ := of22 (a := a) (b := b) (by omega) (by omega)
  have hd0 : 0 < d0 := by omega
  obtain ⟨n, d, rfl, p1, g, e1, la, lb⟩ := hr
  have hr : RQ (L n, L d) n d 1000 := ⟨n, d, rfl, p1, g, rfl, by omega, by omega⟩
  have hbl : bl d ≤ 64 := Nat.le_trans (bl_le_ln d) (by omega)
  have hlen := cf_len (d + 1) n d (by omega)
  obtain ⟨xs, hxs⟩ : ∃ xs, cf (d + 1) n d = xs := ⟨_, rfl⟩
  have hne : 0 < xs.length := by rw [← hxs, cf_pos p1]; simp
  have hsz : ∀ q ∈ xs, ln q ≤ 1000 := by rw [← hxs]; exact cf_ln (d + 1) n d (by omega) (by omega)
  have ht : ∀ m : Int, Ev (approx_Terms.f (L n, L d) m) ((xs.map L).take m.toNat) := by
    intro m
    have := terms (m := m) (d + 1) n d [] (by omega) (by omega) (by omega) (by simp; omega)
    rw [hxs, List.nil_append, show (m - (([] : List (List Int)).length : Int)).toNat = m.toNat by simp] at this
    exact ev_eq approx_Terms.f_eq (Ev.bind (terms_pos p1 (by omega)) this)
  rw [hxs] at hlen
  have hall := ht 200
  rw [List.take_of_length_le (by rw [List.length_map]; omega)] at hall
  obtain ⟨s, hs, vs⟩ := ratio_of (a := n) (b := d) (c := 1000) p1 (by decide) (by omega) (by omega)
  have hml : ((xs.map L).length : Int) = (xs.length : Int) := by rw [List.length_map]
  refine ev_eq numerarylaw22_ApproxTerms.f_eq (Ev.bind hof (Ev.bind hall (Ev.bind wakes22 (ev_neg (by simp) (ev_neg (by omega) (ev_neg (by omega) (Ev.bind (of_val (n := 1) (by decide)) ?_)))))))
  rw [hml, wrap_id (by omega) (by omega)]
  have hb := back (a2 := a2) (rn := L n) (rd := L d) (res := true) (d + 1) n d [] (by omega) g (by omega) (by omega) (fun h => absurd rfl h) (by rw [hxs]; simp; omega)
  rw [hxs, List.nil_append] at hb
  refine hb ?_
  refine ev_loop numerarylaw22_ApproxTerms.l0_eq numerarylaw22_ApproxTerms.l0_step (ev_neg (by simp) ?_)
  have hk : (((xs.map L).take a2.toNat).length : Int) = mnI (mxI 0 a2) ((xs.map L).length : Int) := by
    rw [List.length_take, List.length_map]; unfold mnI mxI; split <;> split <;> omega
  refine Ev.bind vs (Ev.bind (ht a2) (ev_neg (by simp) (Ev.bind (ratio_eq hs hr p1 p1 (by decide) (by decide) rfl) (ev_neg (by decide) (ev_neg (fun h => h hk) ?_)))))
  rw [← List.map_take]
  have loop : ∀ e i, i + e = (xs.take a2.toNat).length → Ev (numerarylaw22_ApproxTerms.l1 (xs.map L) ((xs.take a2.toNat).map L) (((xs.take a2.toNat).map L).length : Int) (i : Int)) true := by
    intro e
    have hle : (xs.take a2.toNat).length ≤ xs.length := by rw [List.length_take]; omega
    induction e with
    | zero =>
      intro i hi
      exact ev_loop numerarylaw22_ApproxTerms.l1_eq numerarylaw22_ApproxTerms.l1_step (ev_neg (by rw [List.length_map]; omega) (ev_now rfl))
    | succ e ih =>
      intro i hi
      refine ev_loop numerarylaw22_ApproxTerms.l1_eq numerarylaw22_ApproxTerms.l1_step (ev_pos (by rw [List.length_map]; omega) (ev_pos (by omega) (ev_pos (by rw [List.length_map]; omega) (ev_pos (by omega) (ev_pos (by rw [List.length_map]; omega) ?_)))))
      have e2 : (xs.take a2.toNat).getD i 0 = xs.getD i 0 := by
        rw [List.getD_eq_getElem?_getD, List.getD_eq_getElem?_getD, List.getElem?_take, if_pos (by rw [List.length_take] at hi; omega)]
      have e3 : ln (xs.getD i 0) ≤ 1000 := by
        rw [List.getD_eq_getElem?_getD, List.getElem?_eq_getElem (by omega : i < xs.length)]
        exact hsz _ (List.getElem_mem _)
      rw [rd_mapL, rd_mapL, e2, succ_wrap (by omega)]
      exact Ev.bind (ncmp (by omega) (by omega)) (ev_neg (by rw [cmpI_self]; decide) (ih (i + 1) (by omega)))
  exact loop _ 0 (Nat.zero_add _)
end Go.Proofs.Ytjkhkmcmnnhmcaa.Pure
