/- Of every decimal number of up to 25 digits and every exponent (cut to -40 to 60) no neighbour's value is nearer than that of the bits that are told; one as near has other bits that aren't even. -/
import Derived.Test.YtjkhkmcmnnhmcaaQBitsDecimalsK4
namespace Go.Proofs.Ytjkhkmcmnnhmcaa.Pure
open Go Go.Proofs.Ytjkhkmcmnnhmcaa.E Go.Proofs.Ytjkhkmcmnnhmcaa.F
set_option linter.unusedVariables false
set_option linter.unusedSimpArgs false
theorem bytes_in {l : List Int} (h : ∀ x ∈ l, (Lit.int .u8 x).wf = true) : ∃ t : List Nat, l = nl t ∧ Dg 256 t := by
  refine ⟨l.map Int.toNat, toNl fun x hx => (wf_u8 (h x hx)).1, fun y hy => ?_⟩
  obtain ⟨x, hx, rfl⟩ := List.mem_map.mp hy
  have := wf_u8 (h x hx)
  omega
theorem dg_mod (s : List Nat) : Dg 10 (s.map (· % 10)) := by
  intro y hy
  obtain ⟨x, hx, rfl⟩ := List.mem_map.mp hy
  exact Nat.mod_lt _ (by decide)
theorem l0_ok {a1 : Int} {s : List Nat} {r : Bool} (hs : Dg 256 s) (hl : s.length ≤ 25)
    (h : Ev (M.bind (numeraryref02_Add.f (nl (s.map (· % 10))) ([] : List Int)) fun t1 => (M.bind (tens_Ten.f (mxI (-40) (mnI a1 60))) fun t2 => (numerarylaw07_BitsDecimals.l1 t1 (mxI (-40) (mnI a1 60)) ([] : List Int) t2 (IntKind.i64.wrap ((t1.length : Int) - 1))))) r) :
    ∀ k i, i + k = s.length → Ev (numerarylaw07_BitsDecimals.l0 a1 (nl ((s.map (· % 10)).take i)) (nl s) ((nl s).length : Int) (i : Int)) r := by
  intro k
  induction k with
  | zero =>
    intro i hi
    refine ev_loop numerarylaw07_BitsDecimals.l0_eq numerarylaw07_BitsDecimals.l0_step ?_
    refine ev_neg (by rw [nl_length]; omega) ?_
    rw [List.take_of_length_le (by rw [List.length_map]; omega)]
    exact h
  | succ k ih =>
    intro i hi
    have hg := hs.gd (by decide) i
    have hw : ([(IntKind.i64.wrap (rdI (nl s) (i : Int))).tmod 10] : List Int) = nl [gd s i % 10] := by
      rw [rd_nl, wrap_nat (by omega), Int.tmod_eq_emod_of_nonneg (by omega)]; rfl
    refine ev_loop numerarylaw07_BitsDecimals.l0_eq numerarylaw07_BitsDecimals.l0_step ?_
    refine ev_pos (by rw [nl_length]; omega) (ev_pos (by omega) (ev_pos (by rw [nl_length]; omega) (ev_pos ?_ ?_)))
    · rw [nl_length, List.length_take, List.length_map, List.length_singleton]; omega
    · have := ih (i + 1) (by omega)
      have ht : (s.map (· % 10)).take (i + 1) = (s.map (· % 10)).take i ++ [gd s i % 10] := by
        rw [List.take_add_one]
        unfold gd
        rw [List.getElem?_map, List.getD_eq_getElem?_getD, List.getElem?_eq_getElem (by omega)]; rfl
      rw [ht] at this
      rw [hw, ← nl_append, wrap_id (x := (i : Int) + 1) (by omega) (by omega)]
      exact this
theorem l1_ok {n : Nat} {x8 : Int} {x10 : List Int} {r : Bool} (hl : dn n ≤ 30)
    (h : Ev (numerarylaw07_BitsDecimals.l1 (D n) x8 (L n) x10 (-1)) r) :
    ∀ i, i ≤ dn n → Ev (numerarylaw07_BitsDecimals.l1 (D n) x8 (L (val 10 ((dg 10 n).drop i))) x10 ((i : Int) - 1)) r := by
  intro i
  induction i with
  | zero => intro _; rw [List.drop_zero, val_dg b10]; exact h
  | succ i ih =>
    intro hi
    have hg := (Dg_dg b10 n).gd (by decide) i
    have hb : ln (val 10 ((dg 10 n).drop (i + 1))) ≤ 200 := by
      have h1 : val 10 ((dg 10 n).drop (i + 1)) ≤ 10 ^ 30 := by
        have h2 := val_lt (by decide) ((Dg_dg b10 n).drop (i + 1))
        rw [List.length_drop] at h2
        exact Nat.le_of_lt (Nat.lt_of_lt_of_le h2 (Nat.pow_le_pow_right (by decide) (by unfold dn at hl; omega)))
      exact Nat.le_trans (ln_mono h1) (by decide)
    have l10 := ln_small (n := 10) (by decide)
    have m1 := ln_mul (val 10 ((dg 10 n).drop (i + 1))) 10
    have lg := ln_small (n := gd (dg 10 n) i) (by omega)
    refine ev_loop numerarylaw07_BitsDecimals.l1_eq numerarylaw07_BitsDecimals.l1_step ?_
    rw [show (((i + 1 : Nat) : Int) - 1) = (i : Int) by omega]
    refine ev_pos (by omega) (Ev.bind (of_val (n := 10) (by decide)) (Ev.bind (nmul (by omega) (by omega)) (ev_pos (by omega) (ev_pos (by rw [D_length]; omega) ?_))))
    rw [show rdI (D n) (i : Int) = ((gd (dg 10 n) i : Nat) : Int) from rd_nl _ _, wrap_u64_nat (by omega)]
    refine Ev.bind (of_val (by omega)) (Ev.bind (nadd (by omega) (by omega)) ?_)
    have := ih (by omega)
    rw [val_drop _ _ _ (by unfold dn at hi; omega)] at this
    rw [wrap_id (x := (i : Int) - 1) (by omega) (by omega), show val 10 ((dg 10 n).drop (i + 1)) * 10 + gd (dg 10 n) i = gd (dg 10 n) i + 10 * val 10 ((dg 10 n).drop (i + 1)) by omega]
    exact this
theorem round2 {b c X xk K : Nat} {cl m x len i : Int} {row : List Int} (hK : K = 1074) (hX : dn X ≤ 1000) (hxk : xk ≤ 1000) (hb : b < 9218868437227405312) (hc : c < 9218868437227405312)
    (hp : ∃ p pk : Nat, Ev (numeraryref07_Decimals.f m x) (D p, (pk : Int)) ∧ pk ≤ K ∧ dn p ≤ 4000 ∧ p * 2 ^ K = Nb b * 10 ^ pk)
    (hne : c ≠ b) (hup : b < c → 2 * (X * 2 ^ K) ≤ 10 ^ xk * (Nb b + Nb c)) (hdn : c < b → 10 ^ xk * (Nb b + Nb c) ≤ 2 * (X * 2 ^ K)) (heq : 2 * (X * 2 ^ K) = 10 ^ xk * (Nb b + Nb c) → b % 2 = 0)
    (h : Ev (numerarylaw07_BitsDecimals.l2 (b : Int) cl false m x (D X) (xk : Int) row len (IntKind.i64.wrap (i + 1))) true) :
    Ev (M.bind (numeraryref07_Of.f (c : Int)) fun t1 => (if t1.1 > 1 then (numerarylaw07_BitsDecimals.l2 (b : Int) cl false m x (D X) (xk : Int) row len (IntKind.i64.wrap (i + 1))) else (if t1.2.1 = true then (numerarylaw07_BitsDecimals.l2 (b : Int) cl false m x (D X) (xk : Int) row len (IntKind.i64.wrap (i + 1))) else (M.bind (numeraryref07_Decimals.f m x) fun t2 => (M.bind (numeraryref07_Decimals.f t1.2.2.1 t1.2.2.2) fun t3 => (M.bind (numeraryref07_Tens.f t2.1 (IntKind.i64.wrap ((mxI (mxI (xk : Int) t2.2) t3.2) - t2.2))) fun t4 => (M.bind (numeraryref07_Tens.f t3.1 (IntKind.i64.wrap ((mxI (mxI (xk : Int) t2.2) t3.2) - t3.2))) fun t5 => (M.bind (numeraryref07_Tens.f (D X) (IntKind.i64.wrap ((mxI (mxI (xk : Int) t2.2) t3.2) - (xk : Int)))) fun t6 => (M.bind (numeraryref02_Times.f t6 2) fun t7 => (M.bind (numeraryref02_Add.f t4 t5) fun t8 => (M.bind (numeraryref02_Cmp.f t7 t8) fun t9 => (if (c : Int) > (b : Int) then (if t9 > 0 then (M.ret false) else (if (c : Int) < (b : Int) then (if t9 < 0 then (M.ret false) else (if t9 = 0 then (if (IntKind.u64.wrap ((BitVec.ofInt IntKind.u64.bits (b : Int) &&& BitVec.ofInt IntKind.u64.bits 1).toNat)) = 1 then (M.ret false) else (numerarylaw07_BitsDecimals.l2 (b : Int) cl false m x (D X) (xk : Int) row len (IntKind.i64.wrap (i + 1)))) else (numerarylaw07_BitsDecimals.l2 (b : Int) cl false m x (D X) (xk : Int) row len (IntKind.i64.wrap (i + 1))))) else (if t9 = 0 then (if (IntKind.u64.wrap ((BitVec.ofInt IntKind.u64.bits (b : Int) &&& BitVec.ofInt IntKind.u64.bits 1).toNat)) = 1 then (M.ret false) else (numerarylaw07_BitsDecimals.l2 (b : Int) cl false m x (D X) (xk : Int) row len (IntKind.i64.wrap (i + 1)))) else (numerarylaw07_BitsDecimals.l2 (b : Int) cl false m x (D X) (xk : Int) row len (IntKind.i64.wrap (i + 1)))))) else (if (c : Int) < (b : Int) then (if t9 < 0 then (M.ret false) else (if t9 = 0 then (if (IntKind.u64.wrap ((BitVec.ofInt IntKind.u64.bits (b : Int) &&& BitVec.ofInt IntKind.u64.bits 1).toNat)) = 1 then (M.ret false) else (numerarylaw07_BitsDecimals.l2 (b : Int) cl false m x (D X) (xk : Int) row len (IntKind.i64.wrap (i + 1)))) else (numerarylaw07_BitsDecimals.l2 (b : Int) cl false m x (D X) (xk : Int) row len (IntKind.i64.wrap (i + 1))))) else (if t9 = 0 then (if (IntKind.u64.wrap ((BitVec.ofInt IntKind.u64.bits (b : Int) &&& BitVec.ofInt IntKind.u64.bits 1).toNat)) = 1 then (M.ret false) else (numerarylaw07_BitsDecimals.l2 (b : Int) cl false m x (D X) (xk : Int) row len (IntKind.i64.wrap (i + 1)))) else (numerarylaw07_BitsDecimals.l2 (b : Int) cl false m x (D X) (xk : Int) row len (IntKind.i64.wrap (i + 1))))))))))))))))) true := by
  obtain ⟨p, pk, hd, hpk, lp, ep⟩ := hp
  obtain ⟨cl', m', x', q, qk, hcl, ho, hd', hqk, lq, eq⟩ := ref_value hK hc
  refine Ev.bind ho (ev_neg (by dsimp only; omega) (ev_neg (by simp) (Ev.bind hd (Ev.bind hd' ?_))))
  have hmost : mxI (mxI (xk : Int) (pk : Int)) (qk : Int) = ((max (max xk pk) qk : Nat) : Int) := by rw [mxI_nat, mxI_nat]
  dsimp only
  rw [hmost]
  obtain ⟨T, hT⟩ : ∃ T, T = max (max xk pk) qk := ⟨_, rfl⟩
  rw [← hT]
  obtain ⟨tp, htp⟩ : ∃ d, T = pk + d := ⟨T - pk, by omega⟩
  obtain ⟨tq, htq⟩ : ∃ d, T = qk + d := ⟨T - qk, by omega⟩
  obtain ⟨tx, htx⟩ : ∃ d, T = xk + d := ⟨T - xk, by omega⟩
  have w1 : IntKind.i64.wrap ((T : Int) - (pk : Int)) = (tp : Int) := by rw [wrap_id (by omega) (by omega)]; omega
  have w2 : IntKind.i64.wrap ((T : Int) - (qk : Int)) = (tq : Int) := by rw [wrap_id (by omega) (by omega)]; omega
  have w3 : IntKind.i64.wrap ((T : Int) - (xk : Int)) = (tx : Int) := by rw [wrap_id (by omega) (by omega)]; omega
  rw [w1, w2, w3]
  have l1 := dn_ten p tp
  have l2 := dn_ten q tq
  have l3 := dn_ten X tx
  refine Ev.bind (rtens_up (by omega) (by omega)) (Ev.bind (rtens_up (by omega) (by omega)) (Ev.bind (rtens_up (by omega) (by omega)) ?_))
  have l4 := dn_mul (X * 10 ^ tx) 2
  have l5 := dn_small (n := 2) (by decide)
  have l6 := dn_add (p * 10 ^ tp) (q * 10 ^ tq)
  refine Ev.bind (rtimes_D (m := 2) (by omega) (by decide)) (Ev.bind (radd_D (by omega) (by omega)) (Ev.bind (rcmp_D (by omega) (by omega)) ?_))
  have hs : 0 < 10 ^ xk * 2 ^ K := Nat.mul_pos (Nat.pow_pos (by decide)) (Nat.pow_pos (by decide))
  have e1 : X * 10 ^ tx * 2 * (10 ^ xk * 2 ^ K) = 2 * (X * 2 ^ K) * 10 ^ T := by rw [htx, Nat.pow_add]; grind
  have e2 : (p * 10 ^ tp + q * 10 ^ tq) * (10 ^ xk * 2 ^ K) = 10 ^ xk * (Nb b + Nb c) * 10 ^ T := by
    have a1 : p * 10 ^ tp * 2 ^ K = Nb b * 10 ^ T := by rw [Nat.mul_right_comm, ep, htp, Nat.pow_add]; grind
    have a2 : q * 10 ^ tq * 2 ^ K = Nb c * 10 ^ T := by rw [Nat.mul_right_comm, eq, htq, Nat.pow_add]; grind
    calc (p * 10 ^ tp + q * 10 ^ tq) * (10 ^ xk * 2 ^ K) = 10 ^ xk * (p * 10 ^ tp * 2 ^ K + q * 10 ^ tq * 2 ^ K) := by grind
      _ = _ := by rw [a1, a2]; grind
  rw [cmp_both hs (Nat.pow_pos (by decide)) e1 e2]
  clear e1 e2 hs l1 l2 l3 l4 l5 l6 w1 w2 w3 ep eq hd hd' ho
  have hand : IntKind.u64.wrap ((BitVec.ofInt IntKind.u64.bits (b : Int) &&& BitVec.ofInt IntKind.u64.bits 1).toNat) = ((b % 2 : Nat) : Int) := by
    rw [b64_and (a := b) (b := 1) (y := 1) (by omega) (by decide) rfl rfl, Nat.and_one_is_mod]
  rw [hand]
  generalize 2 * (X * 2 ^ K) = U at *
  generalize 10 ^ xk * (Nb b + Nb c) = S at *
  have last : Ev (if cmpI U S = 0 then (if ((b % 2 : Nat) : Int) = 1 then M.ret false else (numerarylaw07_BitsDecimals.l2 (b : Int) cl false m x (D X) (xk : Int) row len (IntKind.i64.wrap (i + 1)))) else (numerarylaw07_BitsDecimals.l2 (b : Int) cl false m x (D X) (xk : Int) row len (IntKind.i64.wrap (i + 1)))) true := by
    by_cases cz : U = S
    · have := heq cz
      exact ev_pos (cmpI_eq0.mpr cz) (ev_neg (by omega) h)
    · exact ev_neg (fun h => cz (cmpI_eq0.mp h)) h
  rcases Nat.lt_or_gt_of_ne hne with c1 | c1
  · have h1 := hdn c1
    exact ev_neg (by omega) (ev_pos (by omega) (ev_neg (fun h => by have := cmpI_lt.mp h; omega) last))
  · have h1 := hup c1
    exact ev_pos (by omega) (ev_neg (fun h => by have := cmpI_gt.mp h; omega) (ev_neg (by omega) last))
theorem loop2 {b X xk K : Nat} {cl m x : Int} (hK : K = 1074) (hX : dn X ≤ 1000) (hxk : xk ≤ 1000) (hb : b < 9218868437227405311)
    (hp : ∃ p pk : Nat, Ev (numeraryref07_Decimals.f m x) (D p, (pk : Int)) ∧ pk ≤ K ∧ dn p ≤ 4000 ∧ p * 2 ^ K = Nb b * 10 ^ pk)
    (n1 : 2 * (X * 2 ^ K) ≤ 10 ^ xk * (Nb b + Nb (b + 1))) (n2 : 2 * (X * 2 ^ K) = 10 ^ xk * (Nb b + Nb (b + 1)) → b % 2 = 0) (n3 : 0 < b → 10 ^ xk * (Nb (b - 1) + Nb b) ≤ 2 * (X * 2 ^ K) ∧ (2 * (X * 2 ^ K) = 10 ^ xk * (Nb (b - 1) + Nb b) → b % 2 = 0)) :
    Ev (numerarylaw07_BitsDecimals.l2 (b : Int) cl false m x (D X) (xk : Int) ([IntKind.u64.wrap ((b : Int) - 1), IntKind.u64.wrap ((b : Int) + 1)] : List Int) (([IntKind.u64.wrap ((b : Int) - 1), IntKind.u64.wrap ((b : Int) + 1)] : List Int).length : Int) 0) true := by
  have hw1 : IntKind.u64.wrap ((b : Int) + 1) = ((b + 1 : Nat) : Int) := by rw [u64_id (by omega) (by omega)]; omega
  rw [hw1]
  have last : Ev (numerarylaw07_BitsDecimals.l2 (b : Int) cl false m x (D X) (xk : Int) ([IntKind.u64.wrap ((b : Int) - 1), ((b + 1 : Nat) : Int)] : List Int) (([IntKind.u64.wrap ((b : Int) - 1), ((b + 1 : Nat) : Int)] : List Int).length : Int) (IntKind.i64.wrap (1 + 1))) true :=
    ev_loop numerarylaw07_BitsDecimals.l2_eq numerarylaw07_BitsDecimals.l2_step (ev_neg (by simp; decide) (ev_now rfl))
  have second : Ev (numerarylaw07_BitsDecimals.l2 (b : Int) cl false m x (D X) (xk : Int) ([IntKind.u64.wrap ((b : Int) - 1), ((b + 1 : Nat) : Int)] : List Int) (([IntKind.u64.wrap ((b : Int) - 1), ((b + 1 : Nat) : Int)] : List Int).length : Int) (IntKind.i64.wrap (0 + 1))) true := by
    rw [show IntKind.i64.wrap (0 + 1) = 1 by decide]
    refine ev_loop numerarylaw07_BitsDecimals.l2_eq numerarylaw07_BitsDecimals.l2_step (ev_pos (by simp) (ev_pos (by decide) (ev_pos (by simp) ?_)))
    exact round2 (c := b + 1) hK hX hxk (by omega) (by omega) hp (by omega) (fun _ => n1) (fun h => absurd h (by omega)) n2 last
  refine ev_loop numerarylaw07_BitsDecimals.l2_eq numerarylaw07_BitsDecimals.l2_step (ev_pos (by simp) (ev_pos (by decide) (ev_pos (by simp) ?_)))
  rcases Nat.eq_zero_or_pos b with rfl | hb0
  · have ho := ref_of (s := 1) (e := 2047) (f := 4503599627370495) (by decide) (by decide) (by decide)
    rw [show rdI ([IntKind.u64.wrap (((0 : Nat) : Int) - 1), ((0 + 1 : Nat) : Int)] : List Int) 0 = ((W 1 2047 4503599627370495 : Nat) : Int) by decide]
    rw [show V 1 2047 4503599627370495 = (3, false, 0, 0) by decide] at ho
    exact Ev.bind ho (ev_pos (by decide) second)
  · obtain ⟨m1, m2⟩ := n3 hb0
    have hw : IntKind.u64.wrap ((b : Int) - 1) = ((b - 1 : Nat) : Int) := by rw [u64_id (by omega) (by omega)]; omega
    rw [hw] at second ⊢
    rw [show rdI ([((b - 1 : Nat) : Int), ((b + 1 : Nat) : Int)] : List Int) 0 = ((b - 1 : Nat) : Int) from rfl]
    rw [Nat.add_comm (Nb (b - 1))] at m1 m2
    exact round2 (c := b - 1) hK hX hxk (by omega) (by omega) hp (by omega) (fun h => absurd h (by omega)) (fun _ => m1) m2 second
theorem BitsDecimals (a0 : List Int) (h0 : ∀ n ∈ a0, (Lit.int .u8 n).wf = true) (s0 : a0.length * 1 ≤ 140737488351232) (a1 : Int) (h1 : (Lit.int .i64 a1).wf = true) : Ev (numerarylaw07_BitsDecimals.f a0 a1) true := by
  obtain ⟨s, rfl, hs⟩ := bytes_in h0
  obtain ⟨K, hK⟩ : ∃ K, K = 1074 := ⟨_, rfl⟩
  obtain ⟨t1, t2, t3⟩ := few_of (l := s) 25 (N := 25) rfl
  refine ev_eq numerarylaw07_BitsDecimals.f_eq (ev_pos t2 (ev_pos t3 ?_))
  rw [t1]
  have hs2 : Dg 256 (s.take 25) := fun x hx => hs x (List.mem_of_mem_take hx)
  have hl2 : (s.take 25).length ≤ 25 := by rw [List.length_take]; omega
  generalize s.take 25 = d at *
  have key := l0_ok (a1 := a1) (s := d) (r := true) hs2 hl2 ?_ d.length 0 (by omega)
  · exact key
  have hm := dg_mod d
  have hml : (d.map (· % 10)).length ≤ 25 := by rw [List.length_map]; exact hl2
  generalize d.map (· % 10) = w at *
  have hadd := radd_val (a := w) (b := []) hm (fun x hx => absurd hx (by simp)) (by omega) (by decide)
  rw [show val 10 ([] : List Nat) = 0 from rfl, Nat.add_zero] at hadd
  have hv := val_lt (by decide) hm
  have hdn := dn_val hm
  refine Ev.bind hadd ?_
  have hn : val 10 w < 10 ^ 25 := Nat.lt_of_lt_of_le hv (Nat.pow_le_pow_right (by decide) hml)
  generalize val 10 w = n at *
  obtain ⟨k, hk, hk1, hk2⟩ : ∃ k : Int, mxI (-40) (mnI a1 60) = k ∧ -40 ≤ k ∧ k ≤ 60 := ⟨_, rfl, by unfold mxI mnI; split <;> (try split) <;> omega, by unfold mxI mnI; split <;> (try split) <;> omega⟩
  rw [hk]
  have hln : ln n ≤ 10 := Nat.le_trans (ln_mono (Nat.le_of_lt hn)) (by decide)
  rw [D_length, wrap_id (x := ((dn n : Nat) : Int) - 1) (by omega) (by omega)]
  have start : val 10 ((dg 10 n).drop (dn n)) = 0 := by
    rw [List.drop_eq_nil_of_le (by unfold dn; exact Nat.le_refl _)]; rfl
  have tens : ∀ c : Nat, c ≤ 60 → ln (10 ^ c) ≤ 20 := fun c hc => Nat.le_trans (ln_mono (Nat.pow_le_pow_right (by decide) hc)) (by decide)
  by_cases c : k < 0
  · obtain ⟨j, hj⟩ : ∃ j : Nat, k = -(j : Int) := ⟨k.natAbs, by omega⟩
    have hX : n * 10 ^ j < 10 ^ 0 * 2 ^ 250 := by
      have : 10 ^ j ≤ 10 ^ 40 := Nat.pow_le_pow_right (by decide) (by omega)
      calc n * 10 ^ j ≤ 10 ^ 25 * 10 ^ 40 := Nat.mul_le_mul (Nat.le_of_lt hn) this
        _ < 10 ^ 0 * 2 ^ 250 := by decide
    have lj := tens j (by omega)
    have lm := ln_mul n (10 ^ j)
    have dj := dn_ten n j
    have l1 := ln_small (n := 1) (by decide)
    obtain ⟨b, hb, hnear, n1, n2, n3⟩ := near_all (X := n * 10 ^ j) (Y := 10 ^ 0) hK (by decide) (by omega) (by rw [Nat.pow_zero]; omega) hX
    obtain ⟨cl, m, x, p, pk, hcl, ho, hd, hpk, lp, ep⟩ := ref_value (c := b) hK (by omega)
    have hl := loop2 (cl := cl) (m := m) (x := x) (xk := 0) hK (by omega) (by decide) hb ⟨p, pk, hd, hpk, lp, ep⟩ n1 n2 n3
    refine Ev.bind (ten_neg (by omega)) ?_
    have key2 := l1_ok (n := n) (x8 := k) (x10 := L 1) (r := true) (by omega) ?_ (dn n) (Nat.le_refl _)
    · rw [start] at key2; exact key2
    refine ev_loop numerarylaw07_BitsDecimals.l1_eq numerarylaw07_BitsDecimals.l1_step (ev_neg (by decide) (ev_pos c ?_))
    rw [show IntKind.i64.wrap (0 - k) = (j : Int) by rw [wrap_id (by omega) (by omega)]; omega]
    refine Ev.bind (ten (by omega)) (Ev.bind (nmul (by omega) (by omega)) (Ev.bind hnear (Ev.bind ho (Ev.bind wakes07 (ev_neg (by decide) (ev_neg (by simp) (ev_neg (by dsimp only; omega) (ev_neg (by simp) (ev_pos c (Ev.bind (rtens_up (by omega) (by omega)) hl))))))))))
  · obtain ⟨j, rfl⟩ : ∃ j : Nat, k = (j : Int) := ⟨k.natAbs, by omega⟩
    have hX : n < 10 ^ j * 2 ^ 250 := by
      have : 1 ≤ 10 ^ j := Nat.pow_pos (by decide)
      calc n < 1 * 2 ^ 250 := Nat.lt_trans hn (by decide)
        _ ≤ _ := Nat.mul_le_mul_right _ this
    have lj := tens j (by omega)
    obtain ⟨b, hb, hnear, n1, n2, n3⟩ := near_all (X := n) (Y := 10 ^ j) hK (Nat.pow_pos (by decide)) (by omega) (by omega) hX
    obtain ⟨cl, m, x, p, pk, hcl, ho, hd, hpk, lp, ep⟩ := ref_value (c := b) hK (by omega)
    have hl := loop2 (cl := cl) (m := m) (x := x) (xk := j) hK (by omega) (by omega) hb ⟨p, pk, hd, hpk, lp, ep⟩ n1 n2 n3
    refine Ev.bind (ten (by omega)) ?_
    have key2 := l1_ok (n := n) (x8 := (j : Int)) (x10 := L (10 ^ j)) (r := true) (by omega) ?_ (dn n) (Nat.le_refl _)
    · rw [start] at key2; exact key2
    refine ev_loop numerarylaw07_BitsDecimals.l1_eq numerarylaw07_BitsDecimals.l1_step (ev_neg (by decide) (ev_neg c ?_))
    exact Ev.bind hnear (Ev.bind ho (Ev.bind wakes07 (ev_neg (by decide) (ev_neg (by simp) (ev_neg (by dsimp only; omega) (ev_neg (by simp) (ev_neg c hl)))))))
end Go.Proofs.Ytjkhkmcmnnhmcaa.Pure
