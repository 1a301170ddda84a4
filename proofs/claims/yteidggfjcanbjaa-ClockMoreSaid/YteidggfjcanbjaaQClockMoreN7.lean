/- Quotients of numbers, halves, and the greatest common divisor; the document's quotient. -/
import Derived.Test.YteidggfjcanbjaaQClockMoreN6
namespace Go.Proofs.Yteidggfjcanbjaa.F
open Go Go.Proofs.Yteidggfjcanbjaa.E
set_option linter.unusedVariables false
set_option linter.unusedSimpArgs false

/-! ### shifted back -/
theorem back_loop (x : List Nat) (k : Nat) (hx : Dg 4294967296 x) (hk : k < 32) (hl : x.length ≤ 1099511627776) : ∀ (d i : Nat) (out : List Nat), i + d = x.length → out.length = x.length → Dg 4294967296 out → 2 ^ k * val 4294967296 (out.take i) + gd x 0 % 2 ^ k = val 4294967296 (x.take i) + 4294967296 ^ i * (gd x i % 2 ^ k) →
    ∃ R : List Nat, R.length = x.length ∧ Dg 4294967296 R ∧ val 4294967296 R = val 4294967296 x / 2 ^ k ∧ Ev (quot_back.l0 (nl x) (k : Int) (nl out) (x.length : Int) (i : Int)) (nl R) := by
  have hp0 : 0 < 2 ^ k := Nat.pow_pos (by decide)
  have hpp : (2 : Nat) ^ k * 2 ^ (32 - k) = 4294967296 := by rw [← Nat.pow_add, show k + (32 - k) = 32 by omega]
  intro d
  induction d with
  | zero =>
    intro i out hi ho hd hv
    rw [List.take_of_length_le (by omega), List.take_of_length_le (by omega), gd_ge (l := x) (i := i) (by omega), Nat.zero_mod, Nat.mul_zero, Nat.add_zero] at hv
    refine ⟨out, ho, hd, ?_, ?_⟩
    · rw [← hv, Nat.mul_add_div hp0, Nat.div_eq_of_lt (Nat.mod_lt _ hp0), Nat.add_zero]
    · refine ev_loop quot_back.l0_eq quot_back.l0_step ?_
      exact ev_neg (by omega) (ev_now rfl)
  | succ d ih =>
    intro i out hi ho hd hv
    have hg := hx.gd (by decide) i
    have hg2 := hx.gd (by decide) (i + 1)
    obtain ⟨g, hg1⟩ : ∃ y, gd x i = y := ⟨_, rfl⟩
    obtain ⟨h, hh1⟩ : ∃ y, gd x (i + 1) = y := ⟨_, rfl⟩
    rw [hg1] at hg hv
    rw [hh1] at hg2
    have hgk : g / 2 ^ k < 2 ^ (32 - k) := by rw [Nat.div_lt_iff_lt_mul hp0, Nat.mul_comm, hpp]; exact hg
    have hor : g / 2 ^ k ||| 2 ^ (32 - k) * (h % 2 ^ k) = g / 2 ^ k + 2 ^ (32 - k) * (h % 2 ^ k) := or_low hgk
    have hlt : g / 2 ^ k + 2 ^ (32 - k) * (h % 2 ^ k) < 4294967296 := by
      have h1 := Nat.mul_le_mul_left (2 ^ (32 - k)) (Nat.succ_le_of_lt (Nat.mod_lt h hp0))
      rw [Nat.succ_eq_add_one, Nat.mul_add, Nat.mul_comm _ (2 ^ k), hpp] at h1
      omega
    have b1 : g / 2 ^ k < 4294967296 := Nat.lt_of_le_of_lt (Nat.div_le_self _ _) hg
    have b2 : 2 ^ (32 - k) * (h % 2 ^ k) < 4294967296 := Nat.lt_of_le_of_lt (Nat.le_add_left _ _) hlt
    obtain ⟨R, h1, h2, h3, h4⟩ := ih (i + 1) (out.set i (g / 2 ^ k + 2 ^ (32 - k) * (h % 2 ^ k))) (by omega) (by rw [List.length_set]; exact ho) (hd.set i hlt)
      (by
        rw [take_set_succ _ _ _ (by omega), val_snoc, List.length_take, Nat.min_eq_left (by omega), val_take_succ, hg1, hh1, Nat.pow_succ]
        have hm := Nat.mod_add_div g (2 ^ k)
        have e1 : 2 ^ k * (4294967296 ^ i * (g / 2 ^ k + 2 ^ (32 - k) * (h % 2 ^ k))) = 4294967296 ^ i * (2 ^ k * (g / 2 ^ k)) + 4294967296 ^ i * 4294967296 * (h % 2 ^ k) := by
          rw [Nat.mul_left_comm, Nat.mul_add, Nat.mul_add, ← Nat.mul_assoc (2 ^ k) (2 ^ (32 - k)), hpp, ← Nat.mul_assoc (4294967296 ^ i) 4294967296]
        rw [Nat.mul_add, e1]
        have e2 : 4294967296 ^ i * (g % 2 ^ k + 2 ^ k * (g / 2 ^ k)) = 4294967296 ^ i * g := by rw [hm]
        rw [Nat.mul_add] at e2
        omega)
    refine ⟨R, h1, h2, h3, ?_⟩
    clear hv ih h1 h2 h3
    refine ev_loop quot_back.l0_eq quot_back.l0_step ?_
    refine ev_pos (by omega) (ev_pos (by omega) (ev_pos (by rw [nl_length]; omega) (ev_pos (by omega) (ev_pos (by omega) (ev_pos (by rw [nl_length]; omega) ?_)))))
    rw [rd_nl, hg1, shr32 hk, Int.toNat_natCast (n := i), nl_set, succ_wrap (by omega), nl_length]
    by_cases hlast : i + 1 < x.length
    · refine ev_pos (by omega) (ev_pos (by omega) (ev_pos (by (try simp only [nl_length, L_length, D_length, rd_nl, getD_nl, List.length_append, List.length_cons, List.length_nil, List.length_set, List.length_replicate, List.length_take, List.length_drop, Nat.zero_add, ge_iff_le, gt_iff_lt]); omega) (ev_pos (by omega) (ev_pos (by omega) (ev_pos (by omega) (ev_pos (by omega) (ev_pos (by (try simp only [nl_length, L_length, D_length, rd_nl, getD_nl, List.length_append, List.length_cons, List.length_nil, List.length_set, List.length_replicate, List.length_take, List.length_drop, Nat.zero_add, ge_iff_le, gt_iff_lt]); omega) ?_)))))))
      rw [rd_nl, getD_nl, gd_set _ _ _ _ (by omega), if_pos rfl, hh1]
      have e3 : IntKind.u32.wrap ((IntKind.u64.wrap ((IntKind.u64.wrap ((h : Nat) : Int)) * 2 ^ 32)).fdiv (2 ^ (min ((k : Nat) : Int).toNat 64))) = ((2 ^ (32 - k) * (h % 2 ^ k) : Nat) : Int) := by
        rw [wrap_u64_nat (n := h) (by omega), show ((h : Nat) : Int) * 2 ^ 32 = ((h * 4294967296 : Nat) : Int) by omega, wrap_u64_nat (n := h * 4294967296) (by omega), shr64 hk]
        have : h * 4294967296 / 2 ^ k = h * 2 ^ (32 - k) := by
          rw [← hpp, Nat.mul_left_comm, Nat.mul_div_cancel_left _ hp0]
        rw [this, u32_nat]
        congr 1
        rw [Nat.mul_comm h, show (4294967296 : Nat) = 2 ^ (32 - k) * 2 ^ k by rw [Nat.mul_comm, hpp], Nat.mul_mod_mul_left]
      rw [e3, bits_or32 b1 b2, hor, nl_set, List.set_set]
      exact h4
    · refine ev_neg (by omega) ?_
      have : h = 0 := by rw [← hh1]; exact gd_ge (by omega)
      rw [this, Nat.zero_mod, Nat.mul_zero, Nat.add_zero] at h4
      exact h4
theorem qback {x : List Nat} {k : Nat} (hx : Dg 4294967296 x) (hk : k < 32) (hl : x.length ≤ 1099511627776) :
    ∃ R : List Nat, R.length = x.length ∧ Dg 4294967296 R ∧ val 4294967296 R = val 4294967296 x / 2 ^ k ∧ Ev (quot_back.f (nl x) (k : Int)) (nl R) := by
  obtain ⟨R, h1, h2, h3, h4⟩ := back_loop x k hx hk hl x.length 0 (List.replicate x.length 0) (by omega) (by rw [List.length_replicate]) (Dg.replicate (by decide) _) (by simp [val])
  refine ⟨R, h1, h2, h3, ?_⟩
  refine ev_eq quot_back.f_eq ?_
  rw [nl_length, Int.toNat_natCast]
  refine ev_pos (by omega) (ev_pos (by omega) ?_)
  rw [show List.replicate x.length (0 : Int) = nl (List.replicate x.length 0) from nl_replicate _ 0]
  exact h4

/-! ### one digit of a long quotient -/
theorem long_digit {u v : List Nat} {n j : Nat} (hn : v.length = n + 2) (hj : j + (n + 3) ≤ u.length) (hdu : Dg 4294967296 u) (hdv : Dg 4294967296 v) (hb : u.length ≤ 1099511627776) (htop : 2147483648 ≤ gd v (n + 1)) (hlt : val 4294967296 (u.drop (j + 1)) < val 4294967296 v) :
    ∃ (W : List Nat) (Q : Nat), W.length = u.length ∧ Dg 4294967296 W ∧ Q < 4294967296 ∧ val 4294967296 (W.drop j) < val 4294967296 v ∧ val 4294967296 W + 4294967296 ^ j * (val 4294967296 v * Q) = val 4294967296 u ∧
      ∀ {α : Type} {f : List Int → Int → M α} {r : α}, Ev (f (nl W) (Q : Int)) r → ∀ E : Int, E = ((j + (n + 3) : Nat) : Int) →
        Ev (M.bind (quot_guess.f (((nl u).drop ((j : Nat) : Int).toNat).take (E.toNat - ((j : Nat) : Int).toNat)) (nl v)) fun t1 => if 0 < E.toNat - ((j : Nat) : Int).toNat then M.bind (quot_less.f (((nl u).drop ((j : Nat) : Int).toNat).take (E.toNat - ((j : Nat) : Int).toNat)) (nl v) t1) fun t2 => if t2.1 = true then (if 0 < E.toNat - ((j : Nat) : Int).toNat then M.bind (quot_more.f ((((nl u).take ((j : Nat) : Int).toNat ++ t2.2 ++ (nl u).drop (((j : Nat) : Int).toNat + (E.toNat - ((j : Nat) : Int).toNat))).drop ((j : Nat) : Int).toNat).take (E.toNat - ((j : Nat) : Int).toNat)) (nl v)) fun t3 => f (((nl u).take ((j : Nat) : Int).toNat ++ t2.2 ++ (nl u).drop (((j : Nat) : Int).toNat + (E.toNat - ((j : Nat) : Int).toNat))).take ((j : Nat) : Int).toNat ++ t3.2 ++ ((nl u).take ((j : Nat) : Int).toNat ++ t2.2 ++ (nl u).drop (((j : Nat) : Int).toNat + (E.toNat - ((j : Nat) : Int).toNat))).drop (((j : Nat) : Int).toNat + (E.toNat - ((j : Nat) : Int).toNat))) (IntKind.u32.wrap (IntKind.u64.wrap (t1 - 1))) else M.none) else f ((nl u).take ((j : Nat) : Int).toNat ++ t2.2 ++ (nl u).drop (((j : Nat) : Int).toNat + (E.toNat - ((j : Nat) : Int).toNat))) (IntKind.u32.wrap t1) else M.none) r := by
  have ept : ∀ w : List Nat, ((nl w).drop j).take (n + 3) = nl ((w.take (j + (n + 3))).drop j) := by
    intro w; rw [nl_drop, nl_take, List.drop_take, show j + (n + 3) - j = n + 3 by omega]
  obtain ⟨p, hp⟩ : ∃ p, (u.take (j + (n + 3))).drop j = p := ⟨_, rfl⟩
  have hpl : p.length = n + 3 := by rw [← hp, List.length_drop, List.length_take]; omega
  have hdp : Dg 4294967296 p := by rw [← hp]; exact (hdu.take _).drop _
  have hus : u = u.take j ++ p ++ u.drop (j + (n + 3)) := by
    have h1 : u.take (j + (n + 3)) = (u.take (j + (n + 3))).take j ++ (u.take (j + (n + 3))).drop j := (List.take_append_drop j _).symm
    rw [List.take_take, Nat.min_eq_left (by omega), hp] at h1
    rw [← h1, List.take_append_drop]
  have hud : u.drop j = p ++ u.drop (j + (n + 3)) := by
    have h1 : List.drop j u = List.drop j (u.take j ++ p ++ u.drop (j + (n + 3))) := congrArg (List.drop j) hus
    rw [List.append_assoc, List.drop_append_of_le_length (by rw [List.length_take]; omega), List.drop_of_length_le (l := u.take j) (by rw [List.length_take]; omega), List.nil_append] at h1
    exact h1
  have hvd : val 4294967296 (u.drop j) = val 4294967296 p + 4294967296 ^ (n + 3) * val 4294967296 (u.drop (j + (n + 3))) := by rw [hud, val_append, hpl]
  have hvl := val_lt (by decide) hdv
  rw [hn] at hvl
  have hgj := hdu.gd (by decide) j
  have hdrop := val_drop 4294967296 u j (by omega)
  have hz : val 4294967296 (u.drop (j + (n + 3))) = 0 := by
    rcases Nat.eq_zero_or_pos (val 4294967296 (u.drop (j + (n + 3)))) with h | h
    · exact h
    · exfalso
      have h1 := Nat.mul_le_mul_left (4294967296 ^ (n + 3)) h
      rw [show n + 3 = n + 2 + 1 by rfl, Nat.pow_succ] at h1 hvd
      generalize 4294967296 ^ (n + 2) = P at *
      omega
  have hU : val 4294967296 (u.drop j) = val 4294967296 p := by rw [hvd, hz, Nat.mul_zero, Nat.add_zero]
  have hUlt : val 4294967296 p < 4294967296 * val 4294967296 v := by omega
  obtain ⟨q, hq, hq1, hq2, hqe⟩ := qguess hn (by omega) hdp hdv (by omega) htop hUlt
  obtain ⟨R, e, hR, hdR, he, hRv, hRe⟩ := qless (n := n + 2) hn (by omega) hdv hdp hq (by omega)
  have hV0 : 0 < val 4294967296 v := by omega
  have hdm := Nat.div_add_mod (val 4294967296 p) (val 4294967296 v)
  have hml := Nat.mod_lt (val 4294967296 p) hV0
  have hRl := val_lt (by decide) hdR
  rw [hR] at hRl
  -- what a new part makes of the whole
  have mk : ∀ R2 : List Nat, R2.length = n + 3 → Dg 4294967296 R2 → val 4294967296 R2 = val 4294967296 p % val 4294967296 v →
      (u.take j ++ R2 ++ u.drop (j + (n + 3))).length = u.length ∧ Dg 4294967296 (u.take j ++ R2 ++ u.drop (j + (n + 3))) ∧ val 4294967296 ((u.take j ++ R2 ++ u.drop (j + (n + 3))).drop j) < val 4294967296 v ∧ val 4294967296 (u.take j ++ R2 ++ u.drop (j + (n + 3))) + 4294967296 ^ j * (val 4294967296 v * (val 4294967296 p / val 4294967296 v)) = val 4294967296 u := by
    intro R2 h1 h2 h3
    have hjl : (u.take j).length = j := by rw [List.length_take]; omega
    refine ⟨by simp only [List.length_append, List.length_take, List.length_drop]; omega, ((hdu.take _).append h2).append (hdu.drop _), ?_, ?_⟩
    · rw [List.append_assoc, List.drop_append_of_le_length (by omega), List.drop_of_length_le (by omega), List.nil_append, val_append, hz, Nat.mul_zero, Nat.add_zero, h3]
      exact hml
    · have e1 := congrArg (val 4294967296) hus
      rw [val_append, val_append, hz, Nat.mul_zero, Nat.add_zero, hjl] at e1
      rw [val_append, val_append, hz, Nat.mul_zero, Nat.add_zero, hjl, h3, e1, Nat.add_assoc, ← Nat.mul_add, Nat.add_comm (val 4294967296 p % val 4294967296 v), hdm]
  rcases Nat.eq_zero_or_pos e with rfl | he0
  · -- the guess was right
    rw [Nat.mul_zero, Nat.add_zero] at hRv
    have hqQ : q = val 4294967296 p / val 4294967296 v := by
      rcases Nat.lt_or_ge (val 4294967296 p / val 4294967296 v) q with h | h
      · exfalso
        have h1 : q = val 4294967296 p / val 4294967296 v + 1 := by omega
        rw [h1, Nat.add_mul, Nat.one_mul, Nat.mul_comm] at hRv
        omega
      · omega
    have hRm : val 4294967296 R = val 4294967296 p % val 4294967296 v := by
      rw [hqQ, Nat.mul_comm] at hRv; omega
    obtain ⟨m1, m2, m3, m4⟩ := mk R hR hdR hRm
    refine ⟨_, val 4294967296 p / val 4294967296 v, m1, m2, by omega, m3, m4, ?_⟩
    intro α f r h E hE
    subst hE
    rw [Int.toNat_natCast, Int.toNat_natCast, show j + (n + 3) - j = n + 3 by omega, ept u, hp]
    refine Ev.bind hqe (ev_pos (by omega) (Ev.bind hRe (ev_neg (by simp) ?_)))
    dsimp only
    rw [nl_take, nl_drop, ← nl_append, ← nl_append, u32_id (x := (q : Int)) (by omega) (by omega), hqQ]
    exact h
  · -- one too great
    have he1 : e = 1 := by omega
    subst he1
    rw [Nat.mul_one] at hRv
    have hqQ : q = val 4294967296 p / val 4294967296 v + 1 := by
      rcases Nat.lt_or_ge (val 4294967296 p / val 4294967296 v) q with h | h
      · omega
      · exfalso
        have h1 : q = val 4294967296 p / val 4294967296 v := by omega
        rw [h1, Nat.mul_comm] at hRv
        omega
    obtain ⟨R2, e2, hR2, hdR2, hR2v, hR2e⟩ := qmore (n := n + 2) hn (by omega) hdv hdR (by omega)
    have hR2l := val_lt (by decide) hdR2
    rw [hR2] at hR2l
    have hRm : val 4294967296 R2 = val 4294967296 p % val 4294967296 v := by
      rw [hqQ, Nat.add_mul, Nat.one_mul, Nat.mul_comm] at hRv
      have hmB : val 4294967296 p % val 4294967296 v < 4294967296 ^ (n + 2 + 1) := by
        rw [Nat.pow_succ]
        generalize 4294967296 ^ (n + 2) = P at *
        omega
      rcases Nat.lt_or_ge e2 1 with h | h
      · have : e2 = 0 := by omega
        subst this
        rw [Nat.mul_zero, Nat.add_zero] at hR2v
        omega
      · rcases Nat.lt_or_ge 1 e2 with h2 | h2
        · exfalso
          have h3 := Nat.mul_le_mul_left (4294967296 ^ (n + 2 + 1)) h2
          rw [Nat.succ_eq_add_one, Nat.mul_add, Nat.mul_one] at h3
          omega
        · have : e2 = 1 := by omega
          subst this
          rw [Nat.mul_one] at hR2v
          omega
    obtain ⟨m1, m2, m3, m4⟩ := mk R2 hR2 hdR2 hRm
    refine ⟨_, val 4294967296 p / val 4294967296 v, m1, m2, by omega, m3, m4, ?_⟩
    intro α f r h E hE
    subst hE
    rw [Int.toNat_natCast, Int.toNat_natCast, show j + (n + 3) - j = n + 3 by omega, ept u, hp]
    have hjl : (u.take j).length = j := by rw [List.length_take]; omega
    have hQB : val 4294967296 p / val 4294967296 v < 4294967296 := Nat.lt_of_le_of_lt (by rw [hqQ]; exact Nat.le_succ _) hq
    have hjR : (u.take j ++ R).length = j + (n + 3) := by rw [List.length_append, hjl, hR]
    have eA : ∀ R1 : List Nat, (nl u).take j ++ nl R1 ++ (nl u).drop (j + (n + 3)) = nl (u.take j ++ R1 ++ u.drop (j + (n + 3))) := by
      intro R1; rw [nl_take, nl_drop, ← nl_append, ← nl_append]
    have e9 : (((nl u).take j ++ nl R ++ (nl u).drop (j + (n + 3))).drop j).take (n + 3) = nl R := by
      rw [eA, ept]
      congr 1
      rw [List.take_append_of_le_length (Nat.le_of_eq hjR.symm), List.take_of_length_le (Nat.le_of_eq hjR), List.drop_append_of_le_length (Nat.le_of_eq hjl.symm), List.drop_of_length_le (Nat.le_of_eq hjl), List.nil_append]
    have e10 : ((nl u).take j ++ nl R ++ (nl u).drop (j + (n + 3))).take j ++ nl R2 ++ ((nl u).take j ++ nl R ++ (nl u).drop (j + (n + 3))).drop (j + (n + 3)) = nl (u.take j ++ R2 ++ u.drop (j + (n + 3))) := by
      rw [eA, nl_take, nl_drop, ← nl_append, ← nl_append]
      congr 1
      rw [List.append_assoc (u.take j) R, List.take_append_of_le_length (Nat.le_of_eq hjl.symm), List.take_of_length_le (l := u.take j) (Nat.le_of_eq hjl), ← List.append_assoc (u.take j) R, List.drop_append_of_le_length (Nat.le_of_eq hjR.symm), List.drop_of_length_le (Nat.le_of_eq hjR), List.nil_append]
    refine Ev.bind hqe (ev_pos (by omega) (Ev.bind hRe (ev_pos (by simp) (ev_pos (by omega) (Ev.bind (a := ((), nl R2)) ?_ ?_)))))
    · dsimp only
      rw [e9]; exact hR2e
    · dsimp only
      rw [e10, show (q : Int) - 1 = ((val 4294967296 p / val 4294967296 v : Nat) : Int) by omega, wrap_u64_nat (by omega), u32_id (x := ((val 4294967296 p / val 4294967296 v : Nat) : Int)) (Int.natCast_nonneg _) (Int.ofNat_lt.mpr hQB)]
      exact h
end Go.Proofs.Yteidggfjcanbjaa.F
