/- Of every two numbers of up to thirty limbs: the sum less one part is the other one, it hangs on no order, is never below a part, and has as many bits as the greater part, or one more. -/
import Derived.Below
import Derived.ChangeOld
import Derived.OpenShut
import Derived.ProofKit
import Derived.ShutString
import Derived.SizedLaws
import Derived.Test.YtcepdndhkidehaaRows
import Derived.Test.YtcepdndhkidehaaWSized
import Derived.WalkKit
import Derived.Test.YtcepdndhkidehaaCNatBack0
import Derived.Test.YtcepdndhkidehaaCNatBack1
import Derived.Test.YtcepdndhkidehaaCNatBack2
import Derived.Test.YtcepdndhkidehaaCNatBack3

namespace Go.Proofs.Ytcepdndhkidehaa.M
open Go.RowKit Go.Proofs.YtcepdndhkidehaaW.PrintWords Go.Proofs.YtcepdndhkidehaaW.PrintLast Go.Proofs.YtcepdndhkidehaaW.PrintMore Go.Proofs.Ytcepdndhkidehaa.PA
set_option linter.unusedVariables false
set_option linter.unusedSimpArgs false

/-! ### the document's difference -/
theorem rsub_loop (a b : List Nat) (ha : Dg 10 a) (hb : Dg 10 b) (hw : a.length ≤ 1099511627776) (hlb : b.length ≤ a.length) (hge : val 10 b ≤ val 10 a) : ∀ (d c : Nat) (out : List Nat), out.length + d = a.length → c ≤ 1 → Dg 10 out → val 10 out + val 10 (b.take out.length) = val 10 (a.take out.length) + 10 ^ out.length * c →
    Ev (fun k => numeraryref02_Sub.l0 k (nl a) (nl b) (nl out) (c : Int) (out.length : Int)) (D (val 10 a - val 10 b)) := by
  intro d
  induction d with
  | zero =>
    intro c out ho hc hdo hv
    refine Ev.step (fun k => by rw [numeraryref02_Sub.l0]) ?_
    refine ev_neg (by rw [nl_length]; omega) ?_
    rw [List.take_of_length_le (by omega), List.take_of_length_le (by omega)] at hv
    have h1 := val_lt (by decide) hdo
    have hcz : c = 0 := by
      rcases Nat.eq_zero_or_pos c with h | h
      · exact h
      · have : c = 1 := by omega
        rw [this, Nat.mul_one] at hv
        omega
    rw [hcz, Nat.mul_zero, Nat.add_zero] at hv
    rw [show val 10 a - val 10 b = val 10 out by omega]
    exact (rtrim_val (by omega) hdo).bind (Ev.now _)
  | succ d ih =>
    intro c out ho hc hdo hv
    have hg := ha.gd (by decide) out.length
    have hg2 := hb.gd (by decide) out.length
    refine Ev.step (fun k => by rw [numeraryref02_Sub.l0]) ?_
    refine ev_pos (by rw [nl_length]; omega) (ev_some (rat_nl b out.length) (ev_pos (by omega) ?_))
    rw [rd_nl]
    obtain ⟨g, hge1⟩ : ∃ g, gd a out.length = g := ⟨_, rfl⟩
    obtain ⟨g2, hge2⟩ : ∃ g, gd b out.length = g := ⟨_, rfl⟩
    rw [hge1] at hg ⊢
    rw [hge2] at hg2 ⊢
    rw [show wrap64 (wrap64 ((g : Int) - (g2 : Int)) - (c : Int)) = (g : Int) - (g2 : Int) - (c : Int) by rw [wrap_id (x := (g : Int) - (g2 : Int)) (by omega) (by omega), wrap_id] <;> omega]
    by_cases hlt : g < g2 + c
    · refine ev_pos (by omega) (ev_pos (by rw [nl_length]; omega) ?_)
      rw [show wrap64 ((g : Int) - (g2 : Int) - (c : Int) + 10) = ((g + 10 - g2 - c : Nat) : Int) by rw [wrap_id] <;> omega, succ_wrap (by omega), nl_snoc]
      have h := ih 1 (out ++ [g + 10 - g2 - c]) (by simp only [List.length_append, List.length_cons, List.length_nil]; omega) (by omega) (hdo.append (Dg.cons (by omega) (Dg.nil _)))
      rw [val_snoc, List.length_append, List.length_cons, List.length_nil, Nat.zero_add] at h
      refine h ?_
      rw [val_take_succ, val_take_succ, hge1, hge2, Nat.pow_succ]
      have e : (g + 10 - g2 - c) + g2 + c = g + 10 := by omega
      have e2 : 10 ^ out.length * (g + 10 - g2 - c) + 10 ^ out.length * g2 + 10 ^ out.length * c = 10 ^ out.length * g + 10 ^ out.length * 10 := by rw [← Nat.mul_add, ← Nat.mul_add, e, Nat.mul_add]
      omega
    · refine ev_neg (by omega) (ev_pos (by rw [nl_length]; omega) ?_)
      rw [show (g : Int) - (g2 : Int) - (c : Int) = ((g - g2 - c : Nat) : Int) by omega, succ_wrap (by omega), nl_snoc]
      have h := ih 0 (out ++ [g - g2 - c]) (by simp only [List.length_append, List.length_cons, List.length_nil]; omega) (by omega) (hdo.append (Dg.cons (by omega) (Dg.nil _)))
      rw [val_snoc, List.length_append, List.length_cons, List.length_nil, Nat.zero_add] at h
      refine h ?_
      rw [val_take_succ, val_take_succ, hge1, hge2, Nat.pow_succ]
      have e : (g - g2 - c) + g2 + c = g := by omega
      have e2 : 10 ^ out.length * (g - g2 - c) + 10 ^ out.length * g2 + 10 ^ out.length * c = 10 ^ out.length * g := by rw [← Nat.mul_add, ← Nat.mul_add, e]
      omega
theorem rsub_D {m n : Nat} (hl : dn m ≤ 1099511627776) (h : n ≤ m) : Ev (fun k => numeraryref02_Sub.f k (D m) (D n)) (D (m - n)) := by
  have h1 : dn n ≤ dn m := dg_len_mono b10 h
  have := rsub_loop (dg 10 m) (dg 10 n) (Dg_dg b10 m) (Dg_dg b10 n) hl h1 (by rw [val_dg b10, val_dg b10]; exact h) (dn m) 0 [] (by simp; rfl) (by omega) (Dg.nil _) (by simp [val])
  rw [val_dg b10, val_dg b10] at this
  exact this

/-! ### how long decimals are -/
theorem dn_le_ln (n : Nat) : dn n ≤ 10 * ln n := by
  refine (dg_len b10 n _).mpr ?_
  have h := dg_lt b32 n
  have h2 : 4294967296 ^ ln n ≤ 10 ^ (10 * ln n) := by rw [Nat.pow_mul]; exact Nat.pow_le_pow_left (by decide) _
  exact Nat.lt_of_lt_of_le h h2

theorem len_mul {B : Nat} (hB : 2 ≤ B) (a b : Nat) : (dg B (a * b)).length ≤ (dg B a).length + (dg B b).length := by
  refine (dg_len hB _ _).mpr ?_
  rw [Nat.pow_add]
  exact Nat.mul_lt_mul'' (dg_lt hB a) (dg_lt hB b)
theorem len_add {B : Nat} (hB : 2 ≤ B) (a b : Nat) : (dg B (a + b)).length ≤ max (dg B a).length (dg B b).length + 1 := by
  refine (dg_len hB _ _).mpr ?_
  have h1 := Nat.lt_of_lt_of_le (dg_lt hB a) (Nat.pow_le_pow_right (n := B) (by omega) (Nat.le_max_left _ (dg B b).length))
  have h2 := Nat.lt_of_lt_of_le (dg_lt hB b) (Nat.pow_le_pow_right (n := B) (by omega) (Nat.le_max_right (dg B a).length _))
  rw [Nat.pow_succ]
  have := Nat.mul_le_mul_left (B ^ max (dg B a).length (dg B b).length) hB
  omega
theorem ln_mul (a b : Nat) : ln (a * b) ≤ ln a + ln b := len_mul b32 a b
theorem dn_mul (a b : Nat) : dn (a * b) ≤ dn a + dn b := len_mul b10 a b
theorem ln_add (a b : Nat) : ln (a + b) ≤ max (ln a) (ln b) + 1 := len_add b32 a b
theorem dn_add (a b : Nat) : dn (a + b) ≤ max (dn a) (dn b) + 1 := len_add b10 a b
theorem ln_mono {a b : Nat} (h : a ≤ b) : ln a ≤ ln b := dg_len_mono b32 h
theorem dn_mono {a b : Nat} (h : a ≤ b) : dn a ≤ dn b := dg_len_mono b10 h
theorem ln_small {n : Nat} (h : n < 18446744073709551616) : ln n ≤ 2 := (dg_len b32 n 2).mpr (by omega)
theorem dn_small {n : Nat} (h : n < 18446744073709551616) : dn n ≤ 20 := (dg_len b10 n 20).mpr (by omega)
theorem ln_val {l : List Nat} (hd : Dg 4294967296 l) : ln (val 4294967296 l) ≤ l.length := (dg_len b32 _ _).mpr (val_lt (by decide) hd)
theorem dn_val {l : List Nat} (hd : Dg 10 l) : dn (val 10 l) ≤ l.length := (dg_len b10 _ _).mpr (val_lt (by decide) hd)

/-! ### numbers of limbs -/
theorem rmade_loop (l : List Nat) (hd : Dg 4294967296 l) (hl : l.length ≤ 1073741824) : ∀ i, i ≤ l.length → Ev (fun k => numeraryref02_Made.l0 k (nl l) (D (val 4294967296 (l.drop i))) ((i : Int) - 1)) (D (val 4294967296 l)) := by
  intro i
  induction i with
  | zero =>
    intro hi
    refine Ev.step (fun k => by rw [numeraryref02_Made.l0]) ?_
    exact ev_neg (by omega) (ev_now (by rw [List.drop_zero]))
  | succ i ih =>
    intro hi
    rw [show (((i + 1 : Nat) : Int) - 1) = (i : Int) by omega]
    refine Ev.step (fun k => by rw [numeraryref02_Made.l0]) ?_
    refine ev_pos (by omega) ?_
    have hv := val_lt (by decide) (hd.drop (i + 1))
    have hln : dn (val 4294967296 (l.drop (i + 1))) ≤ 10 * l.length := by
      refine Nat.le_trans (dn_le_ln _) (Nat.mul_le_mul_left _ ?_)
      refine (dg_len b32 _ _).mpr (Nat.lt_of_lt_of_le hv (Nat.pow_le_pow_right (by decide) ?_))
      rw [List.length_drop]; omega
    have hg := hd.gd (by decide) i
    refine Ev.bind (rtimes_D (by omega) (by decide)) (ev_pos (by omega) (ev_pos (by rw [nl_length]; omega) ?_))
    rw [rd_nl, wrap_u64_nat (by omega)]
    refine Ev.bind (rof_val (by omega)) ?_
    have hln2 : dn (val 4294967296 (l.drop (i + 1)) * 4294967296) ≤ 549755813888 := by
      have h1 := dn_mul (val 4294967296 (l.drop (i + 1))) 4294967296
      have h2 : dn 4294967296 ≤ 20 := dn_small (by decide)
      omega
    have hln3 : dn (gd l i) ≤ 549755813888 := by
      have := dn_small (n := gd l i) (by omega)
      omega
    refine Ev.bind (radd_D hln2 hln3) ?_
    have := ih (by omega)
    rw [val_drop _ _ _ (by omega), Nat.mul_comm, Nat.add_comm] at this
    rw [wrap_id (by omega) (by omega), Nat.mul_comm, Nat.mul_comm] at *
    rw [show val 4294967296 (List.drop (i + 1) l) * 4294967296 + gd l i = 4294967296 * val 4294967296 (List.drop (i + 1) l) + gd l i by rw [Nat.mul_comm]] at *
    exact this
theorem rmade_val {l : List Nat} (hd : Dg 4294967296 l) (hl : l.length ≤ 1073741824) : Ev (fun k => numeraryref02_Made.f k (nl l)) (D (val 4294967296 l)) := by
  have := rmade_loop l hd hl l.length (Nat.le_refl _)
  rw [List.drop_of_length_le (Nat.le_refl _)] at this
  refine Ev.congr (fun k => by unfold numeraryref02_Made.f; rw [nl_length, wrap_id (by omega) (by omega)]) ?_
  exact this
theorem rmade_L {n : Nat} (hl : ln n ≤ 1073741824) : Ev (fun k => numeraryref02_Made.f k (L n)) (D n) := by
  have := rmade_val (Dg_dg b32 n) hl
  rw [val_dg b32] at this
  exact this

/-! ### the document's product -/
theorem rmul_loop (m : Nat) (b : List Nat) (hb : Dg 10 b) (hm : dn m ≤ 137438953472) (hl : b.length ≤ 137438953472) : ∀ i, i ≤ b.length → Ev (fun k => numeraryref02_Mul.l0 k (D m) (nl b) (D (m * val 10 (b.drop i))) ((i : Int) - 1)) (D (m * val 10 b)) := by
  intro i
  induction i with
  | zero =>
    intro hi
    refine Ev.step (fun k => by rw [numeraryref02_Mul.l0]) ?_
    exact ev_neg (by omega) (ev_now (by rw [List.drop_zero]))
  | succ i ih =>
    intro hi
    rw [show (((i + 1 : Nat) : Int) - 1) = (i : Int) by omega]
    refine Ev.step (fun k => by rw [numeraryref02_Mul.l0]) ?_
    refine ev_pos (by omega) ?_
    have h1 : dn (m * val 10 (b.drop (i + 1))) ≤ 274877906944 := by
      have h2 := dn_mul m (val 10 (b.drop (i + 1)))
      have h3 := dn_val (hb.drop (i + 1))
      rw [List.length_drop] at h3
      omega
    have h4 : dn (m * val 10 (b.drop (i + 1)) * 10) ≤ 549755813888 := by
      have h2 := dn_mul (m * val 10 (b.drop (i + 1))) 10
      have h3 : dn 10 ≤ 20 := dn_small (by decide)
      omega
    have hg := hb.gd (by decide) i
    have h5 : dn (m * gd b i) ≤ 549755813888 := by
      have h2 := dn_mul m (gd b i)
      have h3 := dn_small (n := gd b i) (by omega)
      omega
    refine Ev.bind (rtimes_D (by omega) (by decide)) (ev_pos (by omega) (ev_pos (by rw [nl_length]; omega) ?_))
    rw [rd_nl]
    refine Ev.bind (rtimes_D (by omega) (by omega)) (Ev.bind (radd_D h4 h5) ?_)
    have := ih (by omega)
    rw [val_drop _ _ _ (by omega)] at this
    rw [wrap_id (by omega) (by omega), show m * val 10 (b.drop (i + 1)) * 10 + m * gd b i = m * (gd b i + 10 * val 10 (b.drop (i + 1))) by grind]
    exact this
theorem rmul_D {m n : Nat} (hm : dn m ≤ 137438953472) (hn : dn n ≤ 137438953472) : Ev (fun k => numeraryref02_Mul.f k (D m) (D n)) (D (m * n)) := by
  have := rmul_loop m (dg 10 n) (Dg_dg b10 n) hm hn (dn n) (Nat.le_refl _)
  rw [List.drop_of_length_le (by unfold dn; omega), val_dg b10] at this
  refine Ev.congr (fun k => by unfold numeraryref02_Mul.f; rw [D_length, wrap_id (by omega) (by omega)]) ?_
  exact this

/-! ### the program's product -/
theorem mul_step {c u v o : Nat} (hc : c < 4294967296) (hu : u < 4294967296) (hv : v < 4294967296) (ho : o < 4294967296) :
    IntKind.u64.wrap ((c : Int) + (IntKind.u64.wrap ((IntKind.u64.wrap ((IntKind.u64.wrap (u : Int)) * (IntKind.u64.wrap (v : Int)))) + (IntKind.u64.wrap (o : Int))))) = ((c + (u * v + o) : Nat) : Int) ∧ (c + (u * v + o)) / 4294967296 < 4294967296 := by
  have hp : u * v ≤ 4294967295 * 4294967295 := Nat.mul_le_mul (by omega) (by omega)
  obtain ⟨p, hpp⟩ : ∃ p, p = u * v := ⟨_, rfl⟩
  rw [wrap_u64_nat (n := u) (by omega), wrap_u64_nat (n := v) (by omega), wrap_u64_nat (n := o) (by omega), show (u : Int) * (v : Int) = ((u * v : Nat) : Int) from (Int.natCast_mul u v).symm]
  rw [← hpp] at hp ⊢
  rw [wrap_u64_nat (by omega), show (p : Int) + (o : Int) = ((p + o : Nat) : Int) from (Int.natCast_add _ _).symm, wrap_u64_nat (by omega), show (c : Int) + ((p + o : Nat) : Int) = ((c + (p + o) : Nat) : Int) from (Int.natCast_add _ _).symm, wrap_u64_nat (by omega)]
  exact ⟨rfl, by omega⟩
theorem mul_inner (x y : List Nat) (hx : Dg 4294967296 x) (hy : Dg 4294967296 y) (hlx : x.length ≤ 549755813888) (hly : y.length ≤ 549755813888) (i : Nat) (hi : i < x.length) (T : Nat) {r : List Int}
    (nxt : ∀ out, out.length = x.length + y.length → Dg 4294967296 out → (∀ j, i + 1 + y.length ≤ j → gd out j = 0) → val 4294967296 out = T + 4294967296 ^ i * (gd x i * val 4294967296 y) →
      Ev (fun k => times_Mul.l0 k (nl y) (nl out) (nl x) (x.length : Int) ((i + 1 : Nat) : Int)) r) :
    ∀ (d j c : Nat) (out : List Nat), j + d = y.length → out.length = x.length + y.length → Dg 4294967296 out → (∀ j, i + y.length ≤ j → gd out j = 0) → c < 4294967296 → val 4294967296 out + 4294967296 ^ (i + j) * c = T + 4294967296 ^ i * (gd x i * val 4294967296 (y.take j)) →
      Ev (fun k => times_Mul.l1 k (nl y) (nl out) (i : Int) ((gd x i : Nat) : Int) (c : Int) (nl x) (x.length : Int) (i : Int) (nl y) (y.length : Int) (j : Int)) r := by
  intro d
  induction d with
  | zero =>
    intro j c out hj ho hd hz hc hv
    have hj : j = y.length := by omega
    subst hj
    refine Ev.step (fun k => by rw [times_Mul.l1]) ?_
    refine ev_neg (by omega) ?_
    rw [nl_length, wrap_add (by omega), Int.toNat_natCast, show (c : Int) % 4294967296 = (c : Int) by omega, nl_set, succ_wrap (by omega), nl_length]
    refine ev_pos (by omega) (ev_pos (by omega) ?_)
    have hs := val_set 4294967296 out (i + y.length) c (by omega)
    rw [hz _ (Nat.le_refl _), Nat.mul_zero, Nat.add_zero] at hs
    refine nxt (out.set (i + y.length) c) (by rw [List.length_set]; exact ho) (hd.set _ hc) ?_ ?_
    · intro j hj
      rw [gd_set _ _ _ _ (by omega), if_neg (by omega)]
      exact hz j (by omega)
    · rw [hs, hv, List.take_of_length_le (Nat.le_refl _)]
  | succ d ih =>
    intro j c out hj ho hd hz hc hv
    have hu := hx.gd (by decide) i
    have hw := hy.gd (by decide) j
    have ho2 := hd.gd (by decide) (i + j)
    refine Ev.step (fun k => by rw [times_Mul.l1]) ?_
    refine ev_pos (by omega) (ev_pos (by omega) (ev_pos (by rw [nl_length]; omega) ?_))
    rw [wrap_add (by omega)]
    refine ev_pos (by omega) (ev_pos (by rw [nl_length]; omega) ?_)
    rw [rd_nl, rd_nl]
    obtain ⟨u, hu1⟩ : ∃ u, gd x i = u := ⟨_, rfl⟩
    obtain ⟨v, hv1⟩ : ∃ u, gd y j = u := ⟨_, rfl⟩
    obtain ⟨o, ho1⟩ : ∃ u, gd out (i + j) = u := ⟨_, rfl⟩
    have hst := mul_step hc hu hw ho2
    have ih := ih (j + 1) ((c + (gd x i * gd y j + gd out (i + j))) / 4294967296) (out.set (i + j) ((c + (gd x i * gd y j + gd out (i + j))) % 4294967296)) (by omega) (by rw [List.length_set]; exact ho) (hd.set _ (Nat.mod_lt _ (by decide)))
      (by intro q hq; rw [gd_set _ _ _ _ (by omega), if_neg (by omega)]; exact hz q hq) hst.2
    rw [hu1, hv1, ho1] at hst ih ⊢
    rw [hu1] at hu hv
    rw [hv1] at hw
    rw [ho1] at ho2
    rw [hst.1, Int.toNat_natCast, show ((c + (u * v + o) : Nat) : Int) % 4294967296 = (((c + (u * v + o)) % 4294967296 : Nat) : Int) from (Int.natCast_emod _ _).symm, show ((c + (u * v + o) : Nat) : Int) / 4294967296 = (((c + (u * v + o)) / 4294967296 : Nat) : Int) from (Int.natCast_ediv _ _).symm, nl_set, succ_wrap (by omega)]
    refine ih ?_
    have hs := val_set 4294967296 out (i + j) ((c + (u * v + o)) % 4294967296) (by omega)
    rw [ho1] at hs
    rw [val_take_succ, hv1]
    have hm := Nat.mod_add_div (c + (u * v + o)) 4294967296
    rw [show i + (j + 1) = i + j + 1 by omega, Nat.mul_add u, Nat.mul_add (4294967296 ^ i), show 4294967296 ^ i * (u * (4294967296 ^ j * v)) = 4294967296 ^ (i + j) * (u * v) by rw [Nat.pow_add, Nat.mul_assoc, Nat.mul_left_comm u], Nat.pow_succ]
    generalize 4294967296 ^ (i + j) = P at hv hs ⊢
    generalize 4294967296 ^ i * (u * val 4294967296 (y.take j)) = Q at hv ⊢
    generalize u * v = x at *
    generalize (c + (x + o)) % 4294967296 = md at *
    generalize (c + (x + o)) / 4294967296 = dv at *
    have e1 : P * (md + 4294967296 * dv) = P * c + P * x + P * o := by rw [hm, Nat.mul_add, Nat.mul_add]; omega
    rw [Nat.mul_add, ← Nat.mul_assoc] at e1
    omega
theorem mul_outer (x y : List Nat) (hx : Dg 4294967296 x) (hy : Dg 4294967296 y) (hlx : x.length ≤ 549755813888) (hly : y.length ≤ 549755813888) : ∀ (d i : Nat) (out : List Nat), i + d = x.length → out.length = x.length + y.length → Dg 4294967296 out → (∀ j, i + y.length ≤ j → gd out j = 0) → val 4294967296 out = val 4294967296 (x.take i) * val 4294967296 y →
    Ev (fun k => times_Mul.l0 k (nl y) (nl out) (nl x) (x.length : Int) (i : Int)) (L (val 4294967296 x * val 4294967296 y)) := by
  intro d
  induction d with
  | zero =>
    intro i out hi ho hd hz hv
    refine Ev.step (fun k => by rw [times_Mul.l0]) ?_
    refine ev_neg (by omega) ?_
    rw [List.take_of_length_le (by omega)] at hv
    rw [← hv]
    exact (made_val (by omega) hd).bind (Ev.now _)
  | succ d ih =>
    intro i out hi ho hd hz hv
    refine Ev.step (fun k => by rw [times_Mul.l0]) ?_
    refine ev_pos (by omega) (ev_pos (by omega) (ev_pos (by rw [nl_length]; omega) ?_))
    rw [rd_nl, nl_length]
    refine mul_inner x y hx hy hlx hly i (by omega) (val 4294967296 (x.take i) * val 4294967296 y) ?_ y.length 0 0 out (by omega) ho hd hz (by decide) (by rw [hv]; simp [val])
    intro out2 h1 h2 h3 h4
    refine ih (i + 1) out2 (by omega) h1 h2 h3 ?_
    rw [h4, val_take_succ]
    grind
theorem nmul {m n : Nat} (hm : ln m ≤ 549755813888) (hn : ln n ≤ 549755813888) : Ev (fun k => times_Mul.f k (L m) (L n)) (L (m * n)) := by
  refine Ev.congr (fun k => by unfold times_Mul.f; rw [limbs_nl (by rw [L_length]; omega), limbs_nl (by rw [L_length]; omega), Option.bind_some, Option.bind_some, L_length, L_length, wrap_add (by omega), Int.toNat_natCast]) ?_
  refine ev_pos (by omega) (ev_pos (by omega) ?_)
  have h := mul_outer (dg 4294967296 m) (dg 4294967296 n) (Dg_dg b32 m) (Dg_dg b32 n) hm hn (ln m) 0 (List.replicate (ln m + ln n) 0) (by unfold ln; omega) (by rw [List.length_replicate]; rfl) (Dg.replicate (by decide) _) (fun j _ => gd_replicate _ _) (by rw [val_replicate]; simp [val])
  rw [val_dg b32, val_dg b32] at h
  rw [show List.replicate (ln m + ln n) (0 : Int) = nl (List.replicate (ln m + ln n) 0) from nl_replicate _ 0]
  exact h

/-! ### powers -/
theorem npow_loop : ∀ (k n out c : Nat), k < 9223372036854775808 → ln out + 2 * (k * c) ≤ 549755813888 → ln n ≤ c → Ev (fun r => times_Pow.l0 r (k : Int) (L n) (L out)) (L (out * n ^ k)) := by
  intro k
  induction k using Nat.strongRecOn with
  | _ k ih =>
    intro n out c hk ho hn
    refine Ev.step (fun k => by rw [times_Pow.l0]) ?_
    rcases Nat.eq_zero_or_pos k with rfl | h0
    · exact ev_neg (by omega) (ev_now (by rw [Nat.pow_zero, Nat.mul_one]))
    · refine ev_pos (by omega) ?_
      rw [and_one hk]
      have e2 : (k : Int) / 2 = ((k / 2 : Nat) : Int) := by omega
      have hnn : ln (n * n) ≤ 2 * c := Nat.le_trans (ln_mul n n) (by omega)
      have hc1 : c ≤ k * c := by
        have := Nat.mul_le_mul_right c h0
        rw [Nat.succ_eq_add_one, Nat.zero_add, Nat.one_mul] at this
        exact this
      rw [e2]
      by_cases hodd : k % 2 = 1
      · refine ev_pos (by omega) (Ev.bind (nmul (by omega) (by omega)) ?_)
        have hon : ln (out * n) ≤ ln out + c := Nat.le_trans (ln_mul out n) (by omega)
        by_cases h1 : k = 1
        · refine ev_neg (by omega) ?_
          subst h1
          have := ih 0 (by omega) n (out * n) c (by omega) (by omega) hn
          rw [Nat.pow_zero, Nat.mul_one] at this
          rw [Nat.pow_one]
          exact this
        · refine ev_pos (by omega) (Ev.bind (nmul (by omega) (by omega)) ?_)
          have hk2 : k / 2 * (2 * c) = (k - 1) * c := by
            rw [← Nat.mul_assoc, show k / 2 * 2 = k - 1 by omega]
          have hk3 : (k - 1) * c + c = k * c := by
            rw [← Nat.succ_mul]; congr 1; omega
          have := ih (k / 2) (by omega) (n * n) (out * n) (2 * c) (by omega) (by omega) hnn
          have e3 : out * n * (n * n) ^ (k / 2) = out * n ^ k := by
            rw [Nat.mul_assoc, show (n * n) = n ^ 2 by rw [Nat.pow_two], ← Nat.pow_mul, ← Nat.pow_succ']
            rw [show (2 * (k / 2)).succ = k by omega]
          rw [e3] at this
          exact this
      · refine ev_neg (by omega) (ev_pos (by omega) (Ev.bind (nmul (by omega) (by omega)) ?_))
        have hk2 : k / 2 * (2 * c) = k * c := by
          rw [← Nat.mul_assoc, show k / 2 * 2 = k by omega]
        have := ih (k / 2) (by omega) (n * n) out (2 * c) (by omega) (by omega) hnn
        have e3 : out * (n * n) ^ (k / 2) = out * n ^ k := by
          rw [show (n * n) = n ^ 2 by rw [Nat.pow_two], ← Nat.pow_mul]
          rw [show (2 * (k / 2)) = k by omega]
        rw [e3] at this
        exact this
theorem npow {n k : Nat} (hk : k < 9223372036854775808) (h : 2 * (k * ln n) ≤ 274877906944) : Ev (fun r => times_Pow.f r (L n) (k : Int)) (L (n ^ k)) := by
  refine Ev.bind (of_val (n := 1) (by decide)) ?_
  have h1 : ln 1 ≤ 2 := ln_small (by decide)
  have := npow_loop k n 1 (ln n) hk (by omega) (Nat.le_refl _)
  rw [Nat.one_mul] at this
  exact this
theorem npow_neg {n : Nat} {k : Int} (hk : k ≤ 0) : Ev (fun r => times_Pow.f r (L n) k) (L 1) := by
  refine Ev.bind (of_val (n := 1) (by decide)) ?_
  refine Ev.step (fun k => by rw [times_Pow.l0]) ?_
  exact ev_neg (by omega) (Ev.now _)
theorem nall : ∀ (l : List Nat) (m : Nat) (pre : List S25), ((ln m + (l.map ln).sum) ≤ 274877906944) → (pre.length + l.length ≤ 1000) →
    Ev (fun k => times_All.l0 k (pre ++ l.map (fun n => (⟨L n⟩ : S25))) ((pre.length + l.length : Nat) : Int) (pre.length : Int) (L m)) (L (l.foldl (· * ·) m)) := by
  intro l
  induction l with
  | nil =>
    intro m pre h1 h2
    refine Ev.step (fun k => by rw [times_All.l0]) ?_
    exact ev_neg (by simp) (ev_now (by simp))
  | cons x l ih =>
    intro m pre h1 h2
    simp only [List.map_cons, List.sum_cons, List.length_cons] at h1 h2 ⊢
    refine Ev.step (fun k => by rw [times_All.l0]) ?_
    refine ev_pos (by omega) (ev_pos (by omega) (ev_pos (by simp only [List.length_append, List.length_cons, List.length_map]; omega) ?_))
    have e1 : (rd_T25 (pre ++ (⟨L x⟩ : S25) :: l.map (fun n => (⟨L n⟩ : S25))) (pre.length : Int)).f0 = L x := by
      unfold rd_T25
      rw [Int.toNat_natCast, List.getD_eq_getElem?_getD, List.getElem?_append_right (Nat.le_refl _), Nat.sub_self]; rfl
    rw [e1]
    refine Ev.bind (nmul (by omega) (by omega)) ?_
    have := ih (m * x) (pre ++ [⟨L x⟩]) (by have := ln_mul m x; omega) (by simp only [List.length_append, List.length_cons, List.length_nil]; omega)
    simp only [List.length_append, List.length_cons, List.length_nil, List.append_assoc, List.cons_append, List.nil_append] at this
    rw [succ_wrap (by omega), show pre.length + (l.length + 1) = pre.length + (0 + 1) + l.length by omega]
    exact this
theorem nall_f (l : List Nat) (h1 : (l.map ln).sum ≤ 137438953472) (h2 : l.length ≤ 1000) : Ev (fun k => times_All.f k (l.map (fun n => (⟨L n⟩ : S25)))) (L (l.foldl (· * ·) 1)) := by
  refine Ev.bind (of_val (n := 1) (by decide)) ?_
  have h3 : ln 1 ≤ 2 := ln_small (by decide)
  have := nall l 1 [] (by omega) (by simpa using h2)
  simpa using this

/-! ### bits -/
def bl (n : Nat) : Nat := if n = 0 then 0 else n.log2 + 1
theorem bl_le (n k : Nat) : bl n ≤ k ↔ n < 2 ^ k := by
  unfold bl
  by_cases h : n = 0
  · subst h; simp; exact Nat.pow_pos (by decide)
  · rw [if_neg h, ← Nat.log2_lt h]; omega
theorem bl_lt (n : Nat) : n < 2 ^ bl n := (bl_le n _).mp (Nat.le_refl _)
theorem bl_ge {n : Nat} (h : 0 < n) : 2 ^ (bl n - 1) ≤ n := by
  rcases Nat.lt_or_ge n (2 ^ (bl n - 1)) with h1 | h1
  · have := (bl_le n _).mpr h1
    have h2 : 0 < bl n := by unfold bl; rw [if_neg (by omega)]; omega
    omega
  · exact h1
theorem bl_eq {n k : Nat} (h1 : 2 ^ k ≤ n) (h2 : n < 2 ^ (k + 1)) : bl n = k + 1 := by
  have h3 := (bl_le n (k + 1)).mpr h2
  have h4 : ¬ bl n ≤ k := fun h => by have := (bl_le n k).mp h; omega
  omega
theorem bl_zero : bl 0 = 0 := rfl
theorem bl_pos {n : Nat} (h : 0 < n) : 0 < bl n := by unfold bl; rw [if_neg (by omega)]; omega
theorem bl_mono {m n : Nat} (h : m ≤ n) : bl m ≤ bl n := (bl_le m _).mpr (Nat.lt_of_le_of_lt h (bl_lt n))
theorem bl_shift {t low k : Nat} (ht : 0 < t) (hl : low < 2 ^ k) : bl (low + 2 ^ k * t) = k + bl t := by
  have h1 := bl_ge ht
  have h2 := bl_lt t
  have h3 := bl_pos ht
  obtain ⟨b, hb⟩ : ∃ b, bl t = b + 1 := ⟨bl t - 1, by omega⟩
  rw [hb] at h1 h2 ⊢
  rw [Nat.add_sub_cancel] at h1
  refine bl_eq (k := k + b) ?_ ?_
  · rw [Nat.pow_add]
    have := Nat.mul_le_mul_left (2 ^ k) h1
    omega
  · rw [show k + b + 1 = k + (b + 1) by omega, Nat.pow_add]
    have := Nat.mul_le_mul_left (2 ^ k) (Nat.succ_le_of_lt h2)
    rw [Nat.succ_eq_add_one, Nat.mul_add] at this
    omega
def lenTab : ByteArray := (⟨#[0, 1, 2, 2, 3, 3, 3, 3, 4, 4, 4, 4, 4, 4, 4, 4, 5, 5, 5, 5, 5, 5, 5, 5, 5, 5, 5, 5, 5, 5, 5, 5, 6, 6, 6, 6, 6, 6, 6, 6, 6, 6, 6, 6, 6, 6, 6, 6, 6, 6, 6, 6, 6, 6, 6, 6, 6, 6, 6, 6, 6, 6, 6, 6, 7, 7, 7, 7, 7, 7, 7, 7, 7, 7, 7, 7, 7, 7, 7, 7, 7, 7, 7, 7, 7, 7, 7, 7, 7, 7, 7, 7, 7, 7, 7, 7, 7, 7, 7, 7, 7, 7, 7, 7, 7, 7, 7, 7, 7, 7, 7, 7, 7, 7, 7, 7, 7, 7, 7, 7, 7, 7, 7, 7, 7, 7, 7, 7, 8, 8, 8, 8, 8, 8, 8, 8, 8, 8, 8, 8, 8, 8, 8, 8, 8, 8, 8, 8, 8, 8, 8, 8, 8, 8, 8, 8, 8, 8, 8, 8, 8, 8, 8, 8, 8, 8, 8, 8, 8, 8, 8, 8, 8, 8, 8, 8, 8, 8, 8, 8, 8, 8, 8, 8, 8, 8, 8, 8, 8, 8, 8, 8, 8, 8, 8, 8, 8, 8, 8, 8, 8, 8, 8, 8, 8, 8, 8, 8, 8, 8, 8, 8, 8, 8, 8, 8, 8, 8, 8, 8, 8, 8, 8, 8, 8, 8, 8, 8, 8, 8, 8, 8, 8, 8, 8, 8, 8, 8, 8, 8, 8, 8, 8, 8, 8, 8, 8, 8, 8, 8, 8, 8, 8, 8, 8, 8]⟩ : ByteArray)
theorem len32_def (a : Int) : bits_Len32.f a = if a ≥ 65536 then (if (a / 65536) ≥ 256 then (if 0 ≤ (((a / 65536) / 256) % 256) then (if (((a / 65536) / 256) % 256) < 256 then (some (wrap64 ((16 + 8) + (wrap64 (bt lenTab (((a / 65536) / 256) % 256)))))) else (none)) else (none)) else (if 0 ≤ ((a / 65536) % 256) then (if ((a / 65536) % 256) < 256 then (some (wrap64 (16 + (wrap64 (bt lenTab ((a / 65536) % 256)))))) else (none)) else (none))) else (if a ≥ 256 then (if 0 ≤ ((a / 256) % 256) then (if ((a / 256) % 256) < 256 then (some (wrap64 ((0 + 8) + (wrap64 (bt lenTab ((a / 256) % 256)))))) else (none)) else (none)) else (if 0 ≤ ((a) % 256) then (if ((a) % 256) < 256 then (some (wrap64 (0 + (wrap64 (bt lenTab ((a) % 256)))))) else (none)) else (none))) := rfl
theorem lenTab_at (j : Nat) (h : j < 256) : bt lenTab (j : Int) = (bl j : Int) := by
  have : ∀ j : Fin 256, bt lenTab (j.val : Int) = (bl j.val : Int) := by decide +kernel
  exact this ⟨j, h⟩
theorem len32 {a : Nat} (ha : a < 4294967296) : bits_Len32.f (a : Int) = some ((bl a : Nat) : Int) := by
  have key : ∀ (s t : Nat), t < 256 → (s = 0 ∨ 0 < t) → s ≤ 24 → a / 2 ^ s = t → (bl a : Int) = (s : Int) + (bl t : Int) := by
    intro s t ht h hs hat
    have hm := Nat.mod_add_div a (2 ^ s)
    rw [hat] at hm
    rcases h with rfl | h
    · rw [Nat.pow_zero] at hat; rw [← hat, Nat.div_one]; omega
    · have := bl_shift h (Nat.mod_lt a (Nat.pow_pos (n := s) (by decide : 0 < 2)))
      rw [hm] at this
      omega
  rw [len32_def]
  by_cases h1 : 65536 ≤ a
  · rw [if_pos (by omega)]
    by_cases h2 : 16777216 ≤ a
    · have e : (a : Int) / 65536 / 256 % 256 = ((a / 16777216 : Nat) : Int) := by omega
      rw [if_pos (by omega), e, if_pos (by omega), if_pos (by omega), lenTab_at _ (by omega), key 24 (a / 16777216) (by omega) (.inr (by omega)) (by omega) rfl]
      have := (bl_le (a / 16777216) 8).mpr (by omega)
      rw [wrap_nat (by omega), wrap_id (by omega) (by omega)]; rfl
    · have e : (a : Int) / 65536 % 256 = ((a / 65536 : Nat) : Int) := by omega
      rw [if_neg (by omega), e, if_pos (by omega), if_pos (by omega), lenTab_at _ (by omega), key 16 (a / 65536) (by omega) (.inr (by omega)) (by omega) rfl]
      have := (bl_le (a / 65536) 8).mpr (by omega)
      rw [wrap_nat (by omega), wrap_id (by omega) (by omega)]; rfl
  · rw [if_neg (by omega)]
    by_cases h2 : 256 ≤ a
    · have e : (a : Int) / 256 % 256 = ((a / 256 : Nat) : Int) := by omega
      rw [if_pos (by omega), e, if_pos (by omega), if_pos (by omega), lenTab_at _ (by omega), key 8 (a / 256) (by omega) (.inr (by omega)) (by omega) rfl]
      have := (bl_le (a / 256) 8).mpr (by omega)
      rw [wrap_nat (by omega), wrap_id (by omega) (by omega)]; rfl
    · have e : (a : Int) % 256 = (a : Int) := by omega
      rw [if_neg (by omega), e, if_pos (by omega), if_pos (by omega), lenTab_at _ (by omega)]
      have := (bl_le a 8).mpr (by omega)
      rw [wrap_nat (by omega), wrap_id (by omega) (by omega), Int.zero_add]
theorem nbits {n : Nat} (hl : ln n ≤ 1099511627776) : nat_Nat_Bits.f (L n) = some ((bl n : Nat) : Int) := by
  unfold nat_Nat_Bits.f
  rw [L_length]
  rcases Nat.eq_zero_or_pos n with rfl | hn
  · rfl
  · have h0 : 0 < ln n := by unfold ln; rw [dg_pos b32 hn]; simp
    obtain ⟨m, hm⟩ : ∃ m, ln n = m + 1 := ⟨ln n - 1, by omega⟩
    have hdl : (dg 4294967296 n).length = m + 1 := hm
    rw [hm, if_neg (by omega), pred_wrap (by omega), if_pos (by omega), if_pos (by omega)]
    unfold L
    have hg := (Dg_dg b32 n).gd (by decide) m
    rw [rd_nl, len32 hg, Option.bind_some, show (32 : Int) * (m : Int) = ((32 * m : Nat) : Int) by omega, wrap_nat (by omega)]
    have h1 := dg_last b32 hn
    rw [hdl, Nat.add_sub_cancel] at h1
    have h2 := val_split 4294967296 (dg 4294967296 n) m (by omega)
    rw [val_drop _ _ _ (by omega), List.drop_of_length_le (by omega), val_dg b32] at h2
    have h3 := val_lt (by decide) ((Dg_dg b32 n).take m)
    rw [List.length_take, Nat.min_eq_left (by omega)] at h3
    have e : (4294967296 : Nat) ^ m = 2 ^ (32 * m) := by rw [Nat.pow_mul]
    rw [e] at h2 h3
    have h4 := bl_shift h1 h3
    rw [show val 4294967296 [] = 0 from rfl, Nat.mul_zero, Nat.add_zero] at h2
    rw [← h2] at h4
    have h5 := (bl_le (gd (dg 4294967296 n) m) 32).mpr hg
    rw [wrap_add (by omega), h4]

/-! ### small values -/
theorem nsmall_big {n : Nat} (h : 18446744073709551616 ≤ n) : Ev (fun k => nat_Nat_Small.f k (L n)) (0, false) := by
  refine Ev.congr (fun k => by unfold nat_Nat_Small.f; rw [L_length]) ?_
  have : ¬ ln n ≤ 2 := fun h2 => by have := dg_len_le b32 h2; omega
  exact ev_pos (by omega) (Ev.now _)
theorem nsmall {n : Nat} (h : n < 18446744073709551616) : Ev (fun k => nat_Nat_Small.f k (L n)) ((n : Int), true) := by
  refine Ev.congr (fun k => by unfold nat_Nat_Small.f; rw [L_length]) ?_
  have h2 := ln_small h
  refine ev_neg (by omega) ?_
  have shl0 : ∀ x : Nat, x < 4294967296 → shl .u64 (IntKind.u64.wrap (x : Int)) (wrap64 (32 * 0)) = (x : Int) := by
    intro x hx
    unfold shl
    rw [wrap_u64_nat (by omega), wrap_id (by omega) (by omega)]
    show IntKind.u64.wrap ((x : Int) * 1) = _
    rw [Int.mul_one, wrap_u64_nat (by omega)]
  have shl1 : ∀ x : Nat, x < 4294967296 → shl .u64 (IntKind.u64.wrap (x : Int)) (wrap64 (32 * 1)) = ((4294967296 * x : Nat) : Int) := by
    intro x hx
    unfold shl
    rw [wrap_u64_nat (by omega), wrap_id (by omega) (by omega)]
    show IntKind.u64.wrap ((x : Int) * 4294967296) = _
    rw [u64_id] <;> omega
  rcases Nat.eq_zero_or_pos n with rfl | hn
  · refine Ev.step (fun k => by rw [nat_Nat_Small.l0]) ?_
    exact ev_neg (by decide) (Ev.now _)
  · by_cases h1 : n < 4294967296
    · have e : dg 4294967296 n = [n] := by rw [dg_pos b32 hn, Nat.div_eq_of_lt h1, Nat.mod_eq_of_lt h1]; rfl
      have el : L n = nl [n] := by unfold L; rw [e]
      have eln : ln n = 1 := by unfold ln; rw [e]; rfl
      rw [eln, el]
      refine Ev.step (fun k => by rw [nat_Nat_Small.l0]) ?_
      refine ev_pos (by omega) (ev_pos (by omega) (ev_pos (by rw [nl_length]; simp) (ev_pos (by rw [wrap_id] <;> omega) ?_)))
      rw [show (0 : Int) = ((0 : Nat) : Int) from rfl, rd_nl, gd_cons_zero, show (((0 : Nat) : Int)) = 0 from rfl, shl0 n h1]
      rw [show (0 : Int) = ((0 : Nat) : Int) from rfl, bits_or64 (by omega) (by omega), Nat.zero_or, succ_wrap (by omega)]
      refine Ev.step (fun k => by rw [nat_Nat_Small.l0]) ?_
      exact ev_neg (by omega) (Ev.now _)
    · have e : dg 4294967296 n = [n % 4294967296, n / 4294967296] := by
        rw [dg_pos b32 hn, dg_pos b32 (by omega), Nat.div_eq_of_lt (a := n / 4294967296) (by omega), Nat.mod_eq_of_lt (a := n / 4294967296) (by omega)]; rfl
      have el : L n = nl [n % 4294967296, n / 4294967296] := by unfold L; rw [e]
      have eln : ln n = 2 := by unfold ln; rw [e]; rfl
      rw [eln, el]
      refine Ev.step (fun k => by rw [nat_Nat_Small.l0]) ?_
      refine ev_pos (by omega) (ev_pos (by omega) (ev_pos (by rw [nl_length]; simp) (ev_pos (by rw [wrap_id] <;> omega) ?_)))
      rw [show (0 : Int) = ((0 : Nat) : Int) from rfl, rd_nl, gd_cons_zero, show (((0 : Nat) : Int)) = 0 from rfl, shl0 _ (Nat.mod_lt _ (by decide))]
      rw [show (0 : Int) = ((0 : Nat) : Int) from rfl, bits_or64 (by omega) (by omega), Nat.zero_or, succ_wrap (by omega)]
      refine Ev.step (fun k => by rw [nat_Nat_Small.l0]) ?_
      refine ev_pos (by omega) (ev_pos (by omega) (ev_pos (by rw [nl_length]; simp) (ev_pos (by rw [wrap_id] <;> omega) ?_)))
      rw [rd_nl, gd_cons_succ, gd_cons_zero, show ((0 + 1 : Nat) : Int) = 1 from rfl, shl1 _ (by omega), bits_or64 (by omega) (by omega)]
      have e3 : n % 4294967296 ||| 4294967296 * (n / 4294967296) = n := by
        have := Nat.two_pow_add_eq_or_of_lt (i := 32) (b := n % 4294967296) (Nat.mod_lt _ (by decide)) (n / 4294967296)
        have h9 : 4294967296 * (n / 4294967296) + n % 4294967296 = (4294967296 * (n / 4294967296) ||| n % 4294967296) := this
        rw [Nat.or_comm]
        omega
      rw [e3, show wrap64 ((1 : Int) + 1) = ((2 : Nat) : Int) by rw [wrap_id] <;> omega]
      refine Ev.step (fun k => by rw [nat_Nat_Small.l0]) ?_
      exact ev_neg (by omega) (Ev.now _)
end Go.Proofs.Ytcepdndhkidehaa.M


namespace Go.Proofs.Ytcepdndhkidehaa.M
open Go.RowKit Go.Proofs.YtcepdndhkidehaaW.PrintWords Go.Proofs.YtcepdndhkidehaaW.PrintLast Go.Proofs.YtcepdndhkidehaaW.PrintMore Go.Proofs.Ytcepdndhkidehaa.PA
set_option linter.unusedVariables false
set_option linter.unusedSimpArgs false
theorem wf_u32 {x : Int} (h : (Lit.int .u32 x).wf = true) : 0 ≤ x ∧ x < 4294967296 := by
  simp [Lit.wf, IntKind.min, IntKind.max, IntKind.signed, IntKind.bits] at h
  omega
theorem wf_u64 {x : Int} (h : (Lit.int .u64 x).wf = true) : 0 ≤ x ∧ x < 18446744073709551616 := by
  simp [Lit.wf, IntKind.min, IntKind.max, IntKind.signed, IntKind.bits] at h
  omega
theorem wf_i64 {x : Int} (h : (Lit.int .i64 x).wf = true) : -9223372036854775808 ≤ x ∧ x < 9223372036854775808 := by
  simp [Lit.wf, IntKind.min, IntKind.max, IntKind.signed, IntKind.bits] at h
  omega
theorem wf_u8 {x : Int} (h : (Lit.int .u8 x).wf = true) : 0 ≤ x ∧ x < 256 := by
  simp [Lit.wf, IntKind.min, IntKind.max, IntKind.signed, IntKind.bits] at h
  omega
theorem limbs_in {l : List Int} (h : ∀ x ∈ l, (Lit.int .u32 x).wf = true) : ∃ t : List Nat, l = nl t ∧ Dg 4294967296 t := by
  refine ⟨l.map Int.toNat, toNl fun x hx => (wf_u32 (h x hx)).1, fun y hy => ?_⟩
  obtain ⟨x, hx, rfl⟩ := List.mem_map.mp hy
  have := wf_u32 (h x hx)
  omega
theorem few_of {l : List Nat} (n : Nat) {N : Int} (hN : N = (n : Int)) : (nl l).take ((mn ((nl l).length : Int) N) : Int).toNat = nl (l.take n) ∧ 0 ≤ mn ((nl l).length : Int) N ∧ mn ((nl l).length : Int) N ≤ ((nl l).length : Int) := by
  subst hN
  rw [nl_length]
  unfold mn
  refine ⟨?_, ?_, ?_⟩
  · split
    · rw [Int.toNat_natCast, nl_take]
    · rw [Int.toNat_natCast, nl_take, List.take_of_length_le (Nat.le_refl _), List.take_of_length_le (by omega)]
  · split <;> omega
  · split <;> omega
theorem cmpI_neg (m n : Nat) : wrap64 (-(cmpI m n)) = cmpI n m := by
  have h : cmpI n m = -(cmpI m n) := by
    unfold cmpI
    rcases Nat.lt_trichotomy m n with h | h | h
    · rw [if_neg (by omega), if_pos h, if_pos h]; rfl
    · subst h; rw [if_neg (Nat.lt_irrefl _), if_neg (Nat.lt_irrefl _)]; rfl
    · rw [if_pos h, if_neg (by omega), if_pos h]
  have h2 : -1 ≤ cmpI m n ∧ cmpI m n ≤ 1 := by unfold cmpI; split <;> (try split) <;> omega
  rw [h, wrap_id] <;> omega
theorem cmpI_self (m : Nat) : cmpI m m = 0 := by unfold cmpI; rw [if_neg (Nat.lt_irrefl _), if_neg (Nat.lt_irrefl _)]
theorem cmpI_ge {m n : Nat} : 0 ≤ cmpI m n ↔ n ≤ m := by unfold cmpI; split <;> (try split) <;> omega
theorem cmpI_eq0 {m n : Nat} : cmpI m n = 0 ↔ m = n := by unfold cmpI; split <;> (try split) <;> omega
theorem cmpI_lt {m n : Nat} : cmpI m n < 0 ↔ m < n := by unfold cmpI; split <;> (try split) <;> omega
theorem cmpI_gt {m n : Nat} : 0 < cmpI m n ↔ n < m := by unfold cmpI; split <;> (try split) <;> omega
theorem cmpI_pos {m n : Nat} : cmpI m n = 1 ↔ n < m := by unfold cmpI; split <;> (try split) <;> omega
theorem num_in {l : List Int} (h : ∀ x ∈ l, (Lit.int .u32 x).wf = true) : ∃ s : List Nat, l = nl s ∧ ∀ n, n ≤ 1000 → ∃ a, ln a ≤ n ∧ Ev (fun k => nat_Made.f k (nl (s.take n))) (L a) ∧ Ev (fun k => numeraryref02_Made.f k (nl (s.take n))) (D a) := by
  obtain ⟨s, rfl, hs⟩ := limbs_in h
  refine ⟨s, rfl, fun n hn => ?_⟩
  have h1 : (s.take n).length ≤ n := List.length_take_le _ _
  have h2 := hs.take n
  exact ⟨val 4294967296 (s.take n), Nat.le_trans (ln_val h2) h1, made_val (by omega) h2, rmade_val h2 (by omega)⟩
theorem ncmp_eq {m n : Nat} (hm : ln m ≤ 549755813888) (h : m = n) {α : Type} {a b : Nat → Option α} {r : α} (ha : Ev a r) : Ev (fun k => (nat_Cmp.f k (L m) (L n)).bind fun t => if t = 0 then a k else b k) r := by
  subst h
  exact Ev.bind (ncmp (by omega) (by omega)) (ev_pos (cmpI_self m) ha)
theorem bl_add (a b : Nat) : bl (a + b) ≤ max (bl a) (bl b) + 1 := by
  refine (bl_le _ _).mpr ?_
  have h1 := Nat.lt_of_lt_of_le (bl_lt a) (Nat.pow_le_pow_right (n := 2) (by omega) (Nat.le_max_left (bl a) (bl b)))
  have h2 := Nat.lt_of_lt_of_le (bl_lt b) (Nat.pow_le_pow_right (n := 2) (by omega) (Nat.le_max_right (bl a) (bl b)))
  rw [Nat.pow_succ]; omega
theorem bl_mul (a b : Nat) : bl (a * b) ≤ bl a + bl b := by
  refine (bl_le _ _).mpr ?_
  rw [Nat.pow_add]
  exact Nat.mul_lt_mul'' (bl_lt a) (bl_lt b)
theorem bl_eq0 {n : Nat} : bl n = 0 ↔ n = 0 := by
  unfold bl; split <;> simp_all
theorem bl_le_ln (n : Nat) : bl n ≤ 32 * ln n := by
  refine (bl_le _ _).mpr ?_
  rw [Nat.pow_mul]
  exact dg_lt b32 n
end Go.Proofs.Ytcepdndhkidehaa.M

namespace Go.Proofs.Ytcepdndhkidehaa.PA
open Go.RowKit Go.Proofs.YtcepdndhkidehaaW.PrintWords Go.Proofs.YtcepdndhkidehaaW.PrintLast Go.Proofs.YtcepdndhkidehaaW.PrintMore
attribute [local go_sem] max2_int min2_int max_two min_two max_three min_three max_four min_four   -- for this text's walks alone
set_option linter.unusedVariables false
set_option linter.unusedSimpArgs false

/-! ### numerarylaw02_same: function 34 -/
def numerarylaw02_same.f (k : Nat) (l0 : List Int) (l1 : List Int) : Option (Bool) := (numeraryref02_Cmp.f k l0 l1).bind fun t418 => (some (t418 == 0))
theorem numerarylaw02_same.mono : ∀ a0 a1 k, LeO (numerarylaw02_same.f k a0 a1) (numerarylaw02_same.f (k + 1) a0 a1) := by
  intro a0 a1 k
  unfold numerarylaw02_same.f
  repeat' first
      | (with_reducible exact numeraryref02_Cmp.mono _ _ _)
      | (with_reducible exact LeO.refl _)
      | (with_reducible exact LeO.none _)
      | (with_reducible refine LeO.ite ?_ ?_)
      | (with_reducible refine LeO.bind ?_ (fun _ => ?_))
      | exact numeraryref02_Cmp.mono _ _ _
      | exact LeO.none _
      | refine LeO.ite ?_ ?_
      | refine LeO.bind ?_ (fun _ => ?_)
set_option maxHeartbeats 8000000 in
set_option maxRecDepth 100000 in
theorem numerarylaw02_same.calls (k : Nat) (A0 : Option Addr) (c0 : Nat) (l0 : List Int) (A1 : Option Addr) (c1 : Nat) (l1 : List Int) (r : Bool) (w : World) (hr0 : Kd.C (Kd.int .i64) w A0 l0.length l0) (hc0 : l0.length ≤ c0) (hr1 : Kd.C (Kd.int .i64) w A1 l1.length l1) (hc1 : l1.length ≤ c1) (h : numerarylaw02_same.f k l0 l1 = some r) :
    Calls Try.prog 34 #[.slice A0 l0.length c0, .slice A1 l1.length c1] w fun e w' => e = .returned (.bool r) ∧ Drawn0 w w' := by
  have HR0 := Aside0.mk hr0
  have HC0 := Aside0.mk hc0
  clear hr0 hc0
  have HR1 := Aside0.mk hr1
  have HC1 := Aside0.mk hc1
  clear hr1 hc1
  have H : ((numeraryref02_Cmp.f k l0 l1).bind fun t418 => (some (t418 == 0))) = some r := h
  clear h
  replace H := Option.bind_eq_some_iff.mp H
  obtain ⟨t418, A30, H⟩ := H
  replace H : (some (t418 == 0)) = some r := H
  have A3 := Aside0.mk A30
  clear A30
  obtain rfl := Option.some.inj H
  go_enter Try.func34, Try.ntmps34
  go_wp2_with (first | ((with_reducible refine gate_callee (f := 22) rfl ?_); refine goesL_ (some 7) rfl rfl Try.func22 (by kernel_rfl) rfl #[.slice A0 l0.length c0, .slice A1 l1.length c1] rfl (by (try simp only [List.map_toArray, List.map_cons, List.map_nil]); first | done | rfl | (simp only [List.length_drop, List.length_take]; rfl)) ?_; (with_reducible refine (numeraryref02_Cmp.calls k _ _ l0 _ _ l1 t418 _ ?side1 ?side2 ?side3 ?side4 A3.out).mono ?_); (case side1 => repeat (first | exact HR0.out | (with_reducible refine Kd.C_alloc ?_ _) | (with_reducible refine Kd.C_drewN ?_ _) | (with_reducible refine Kd.C_drew ?_))); (case side2 => exact HC0.out); (case side3 => repeat (first | exact HR1.out | (with_reducible refine Kd.C_alloc ?_ _) | (with_reducible refine Kd.C_drewN ?_ _) | (with_reducible refine Kd.C_drew ?_))); (case side4 => exact HC1.out); rintro e w' ⟨rfl, ⟨nd, rfl⟩⟩; refine ⟨_, rfl, ?_⟩))
  go_ret
  exact ⟨by first | rfl | (simp; done) | (simp [*]; done), by repeat (first | exact Drawn0.refl _ | apply Drawn0.step)⟩

end Go.Proofs.Ytcepdndhkidehaa.PA

namespace Go.Proofs.Ytcepdndhkidehaa.PA
open Go.RowKit Go.Proofs.YtcepdndhkidehaaW.PrintWords Go.Proofs.YtcepdndhkidehaaW.PrintLast Go.Proofs.YtcepdndhkidehaaW.PrintMore
attribute [local go_sem] max2_int min2_int max_two min_two max_three min_three max_four min_four   -- for this text's walks alone
set_option linter.unusedVariables false
set_option linter.unusedSimpArgs false

/-! ### numerarylaw02_of: function 35 -/
def numerarylaw02_of.f (k : Nat) (l0_0 : List Int) : Option (List Int) := (nat_Nat_Limbs.f l0_0).bind fun t420 => ((numeraryref02_Made.f k t420).bind fun t423 => (some t423))
theorem numerarylaw02_of.mono : ∀ a0 k, LeO (numerarylaw02_of.f k a0) (numerarylaw02_of.f (k + 1) a0) := by
  intro a0 k
  unfold numerarylaw02_of.f
  repeat' first
      | (with_reducible exact numeraryref02_Made.mono _ _)
      | (with_reducible exact LeO.refl _)
      | (with_reducible exact LeO.none _)
      | (with_reducible refine LeO.ite ?_ ?_)
      | (with_reducible refine LeO.bind ?_ (fun _ => ?_))
      | exact numeraryref02_Made.mono _ _
      | exact LeO.none _
      | refine LeO.ite ?_ ?_
      | refine LeO.bind ?_ (fun _ => ?_)
set_option maxHeartbeats 8000000 in
set_option maxRecDepth 100000 in
theorem numerarylaw02_of.calls (k : Nat) (A0_0 : Option Addr) (c0_0 : Nat) (l0_0 : List Int) (r : List Int) (w : World) (hr0_0 : Kd.C (Kd.int .u32) w A0_0 l0_0.length l0_0) (hc0_0 : l0_0.length ≤ c0_0) (h : numerarylaw02_of.f k l0_0 = some r) :
    Calls Try.prog 35 #[.agg #[.slice A0_0 l0_0.length c0_0]] w fun e w' => ∃ v0_ : Value, e = .returned (v0_) ∧ Kd.R (Kd.int .i64) 3 w' w.heap.size (fun _ => True) v0_ r ∧ Below w.heap.size w w' := by
  have hu25 := Try.underlying25
  have HR0_0 := Aside0.mk hr0_0
  have HC0_0 := Aside0.mk hc0_0
  clear hr0_0 hc0_0
  have HB := Aside0.mk (Below.refl w.heap.size w)
  have H : ((nat_Nat_Limbs.f l0_0).bind fun t420 => ((numeraryref02_Made.f k t420).bind fun t423 => (some t423))) = some r := h
  clear h
  replace H := Option.bind_eq_some_iff.mp H
  obtain ⟨t420, A20, H⟩ := H
  replace H : ((numeraryref02_Made.f k t420).bind fun t423 => (some t423)) = some r := H
  have A2 := Aside0.mk A20
  clear A20
  replace H := Option.bind_eq_some_iff.mp H
  obtain ⟨t423, A30, H⟩ := H
  replace H : (some t423) = some r := H
  have A3 := Aside0.mk A30
  clear A30
  obtain rfl := Option.some.inj H
  go_enter Try.func35, Try.ntmps35
  go_wp2_with (first | ((with_reducible refine gate_dst (N := 1) rfl ?_); refine box_event ?hg (N := 1) ?hd (cs := #[.slice A0_0 l0_0.length c0_0]) (t := 25) ?hr ?_; (case hd => rfl); (case hg => rfl); (case hr => first | (go_simp; done) | (go_simp; rfl)); intro gb419 hg w4 hbox hb; have n0_ := Aside0.mk (below_step (by repeat (first | (with_reducible first | exact HB.out | apply below_alloc | apply pw_below_drewN | apply below_drew1) | exact HB.out)) hb); have n1_ := Aside0.mk (hbox); have n2_ := Aside0.mk ((by rw [hg]; exact (below_size (by repeat (first | (with_reducible first | exact HB.out | apply below_alloc | apply pw_below_drewN | apply below_drew1) | exact HB.out))) : w.heap.size ≤ gb419)); have n3_ := Aside0.mk ((by rw [hg]; exact (below_size (by repeat (first | (with_reducible first | exact HB.out | apply below_alloc | apply pw_below_drewN | apply below_drew1) | exact HB.out))) : w.heap.size ≤ gb419)); clear HB; have HB := n0_; have BK419 := n1_; have GW419 := n2_; have GE419 := n3_; clear n0_ n1_ n2_ n3_; clear hb hbox hg; have hcz5_0 : w4.cell? ⟨gb419, 0, none⟩ = some (.slice A0_0 l0_0.length c0_0) := (blk_cell BK419.out 0).trans rfl; have hfz5_0 := blk_frozen BK419.out 0) | ((with_reducible refine gate_callee (f := 31) rfl ?_); refine goesL_ (some 4) rfl rfl Try.func31 (by kernel_rfl) rfl #[.agg #[.slice A0_0 l0_0.length c0_0]] rfl (by (try simp only [List.map_toArray, List.map_cons, List.map_nil]); first | done | rfl | (simp only [List.length_drop, List.length_take]; rfl)) ?_; (with_reducible refine (nat_Nat_Limbs.calls _ _ l0_0 t420 _ ?side1 ?side2 A2.out).mono ?_); (case side1 => repeat (first | exact (Kd.C_below HR0_0.out HB.out) | (with_reducible refine Kd.C_alloc ?_ _) | (with_reducible refine Kd.C_drewN ?_ _) | (with_reducible refine Kd.C_drew ?_))); (case side2 => exact HC0_0.out); rintro e w6 ⟨v421, rfl, ho0, hb⟩; refine ⟨_, rfl, ?_⟩; have n0_ := Aside0.mk (Kd.R_lower ho0 (below_size (by repeat (first | (with_reducible first | exact HB.out | apply below_alloc | apply pw_below_drewN | apply below_drew1 | refine below_set ?_ GE419.out) | exact HB.out)))); have n1_ := Aside0.mk (blk_below (g := gb419) (o := .cells #[.slice A0_0 l0_0.length c0_0] 25 (0, 0)) (by (with_reducible repeat (first | refine blk_drewN ?_ _ | refine blk_drew ?_ | refine blk_alloc ?_ _)); exact BK419.out) hb); have n2_ := Aside0.mk (below_step (by repeat (first | (with_reducible first | exact HB.out | apply below_alloc | apply pw_below_drewN | apply below_drew1 | refine below_set ?_ GE419.out) | exact HB.out)) hb); clear BK419; clear HB; have HO422 := n0_; have BK419 := n1_; have HB := n2_; clear n0_ n1_ n2_; (try clear hb); (try clear hb2); (try clear hk); (try clear hi); (try clear ho0); obtain ⟨Ao7, co7, eo7⟩ := Kd.R_slice HO422.out; subst eo7) | ((with_reducible refine gate_callee (f := 18) rfl ?_); refine goesL_ (some 5) rfl rfl Try.func18 (by kernel_rfl) rfl #[.slice Ao7 t420.length co7] rfl (by (try simp only [List.map_toArray, List.map_cons, List.map_nil]); first | done | rfl | (simp only [List.length_drop, List.length_take]; rfl)) ?_; (with_reducible refine (numeraryref02_Made.calls k _ _ t420 t423 _ ?side1 ?side2 A3.out).mono ?_); (case side1 => repeat (first | exact (Kd.R_reads' HO422.out).2.2 | (with_reducible refine Kd.C_alloc ?_ _) | (with_reducible refine Kd.C_drewN ?_ _) | (with_reducible refine Kd.C_drew ?_))); (case side2 => exact (Kd.R_reads' HO422.out).2.1); rintro e w8 ⟨v424, rfl, ho0, hb⟩; refine ⟨_, rfl, ?_⟩; have n0_ := Aside0.mk (Kd.R_below (by (with_reducible repeat (first | apply Kd.R_alloc | apply Kd.R_drewN | apply Kd.R_drew)); exact HO422.out) hb); have n1_ := Aside0.mk (Kd.R_lower ho0 (below_size (by repeat (first | (with_reducible first | exact HB.out | apply below_alloc | apply pw_below_drewN | apply below_drew1 | refine below_set ?_ GE419.out) | exact HB.out)))); have n2_ := Aside0.mk (blk_below (g := gb419) (o := .cells #[.slice A0_0 l0_0.length c0_0] 25 (0, 0)) (by (with_reducible repeat (first | refine blk_drewN ?_ _ | refine blk_drew ?_ | refine blk_alloc ?_ _)); exact BK419.out) hb); have n3_ := Aside0.mk (below_step (by repeat (first | (with_reducible first | exact HB.out | apply below_alloc | apply pw_below_drewN | apply below_drew1 | refine below_set ?_ GE419.out) | exact HB.out)) hb); clear HO422; clear BK419; clear HB; have HO422 := n0_; have HO425 := n1_; have BK419 := n2_; have HB := n3_; clear n0_ n1_ n2_ n3_; (try clear hb); (try clear hb2); (try clear hk); (try clear hi); (try clear ho0)))
  go_ret
  exact ⟨_, by first | rfl | (simp [errW_none, errW_some] <;> rfl) | (simp [*, errW_none, errW_some] <;> rfl), by (with_reducible repeat (first | apply Kd.R_alloc | apply Kd.R_drewN | apply Kd.R_drew)); exact HO425.out, by repeat (first | (with_reducible first | exact HB.out | apply below_alloc | apply pw_below_drewN | apply below_drew1 | refine below_set ?_ GE419.out) | exact HB.out)⟩

end Go.Proofs.Ytcepdndhkidehaa.PA


namespace Go.Proofs.Ytcepdndhkidehaa.M
open Go.RowKit Go.Proofs.YtcepdndhkidehaaW.PrintWords Go.Proofs.YtcepdndhkidehaaW.PrintLast Go.Proofs.YtcepdndhkidehaaW.PrintMore Go.Proofs.Ytcepdndhkidehaa.PA
set_option linter.unusedVariables false
set_option linter.unusedSimpArgs false
theorem wakes02 : Ev (fun k => numerarylaw02_wakes.f k) true := Ev.of numerarylaw02_wakes.mono numerarylaw02_wakes.is_
theorem few02 (l : List Nat) : numerarylaw02_few.f (nl l) = some (nl (l.take 30)) := by
  obtain ⟨h1, h2, h3⟩ := few_of (l := l) 30 (N := 30) rfl
  unfold numerarylaw02_few.f
  rw [if_pos h2, if_pos h3]
  exact congrArg some h1
theorem of02 {n : Nat} (h : ln n ≤ 1073741824) : Ev (fun k => numerarylaw02_of.f k (L n)) (D n) :=
  ev_some (limbs_nl (by rw [L_length]; omega)) (Ev.bind (rmade_L h) (Ev.now _))
theorem same02 {n : Nat} (h : dn n ≤ 1099511627776) : Ev (fun k => numerarylaw02_same.f k (D n) (D n)) true := by
  refine Ev.bind (rcmp_D h h) (ev_now ?_)
  rw [cmpI_self]; rfl
end Go.Proofs.Ytcepdndhkidehaa.M


namespace Go.Proofs.Ytcepdndhkidehaa.Pure
open Go.RowKit Go.Proofs.Ytcepdndhkidehaa.PA Go.Proofs.YtcepdndhkidehaaW.PrintWords Go.Proofs.YtcepdndhkidehaaW.PrintLast Go.Proofs.Ytcepdndhkidehaa.M
set_option linter.unusedVariables false
theorem NatBack : numerarylaw02_NatBack.Pure := by
  intro l0 l1 l2 _ _ h0 _ _ h1 _ _ h2
  obtain ⟨s, rfl, hs⟩ := num_in h0
  obtain ⟨t, rfl, ht⟩ := num_in h1
  obtain ⟨u, rfl, hu⟩ := num_in h2
  obtain ⟨a, la, ma, _⟩ := hs 30 (by omega)
  obtain ⟨b, lb, mb, _⟩ := ht 30 (by omega)
  obtain ⟨c, lc, mc, _⟩ := hu 30 (by omega)
  have lab := ln_add a b
  have lbc := ln_add b c
  have labc := ln_add (a + b) c
  refine Ev.rounds ?_
  refine ev_some (few02 s) (Ev.bind ma (ev_some (few02 t) (Ev.bind mb (ev_some (few02 u) (Ev.bind mc (Ev.bind (nadd (by omega) (by omega)) (Ev.bind (nsub_ge (by omega) (Nat.le_add_left b a)) (Ev.bind wakes02 (ev_pos rfl (ev_pos rfl ?_))))))))))
  refine ncmp_eq (by have := ln_mono (Nat.sub_le (a + b) b); omega) (Nat.add_sub_cancel a b) ?_
  refine Ev.bind (nadd (by omega) (by omega)) (ncmp_eq (by omega) (Nat.add_comm a b) ?_)
  refine Ev.bind (ncmp (by omega) (by omega)) (ev_pos (cmpI_ge.mpr (Nat.le_add_right a b)) ?_)
  refine Ev.bind (nadd (by omega) (by omega)) (Ev.bind (nadd (by omega) (by omega)) (Ev.bind (nadd (by omega) (by omega)) (ncmp_eq (by omega) (Nat.add_assoc a b c) ?_)))
  have e1 := nbits (n := a + b) (by omega)
  have e2 := nbits (n := a) (by omega)
  have e3 := nbits (n := b) (by omega)
  have m1 := bl_mono (Nat.le_add_right a b)
  have m2 := bl_mono (Nat.le_add_left b a)
  have m3 := bl_add a b
  have q1 := bl_le_ln a
  have q2 := bl_le_ln b
  have hx : mx ((bl a : Nat) : Int) ((bl b : Nat) : Int) = ((max (bl a) (bl b) : Nat) : Int) := by unfold mx; split <;> omega
  refine ev_some e1 (ev_some e2 (ev_some e3 (ev_pos (by rw [hx]; omega) (ev_some e1 (ev_some e2 (ev_some e3 (ev_now ?_)))))))
  rw [hx, succ_wrap (by omega)]
  exact decide_eq_true (by omega)
end Go.Proofs.Ytcepdndhkidehaa.Pure

namespace Go.Proofs.Ytcepdndhkidehaa.natBack
open Go.ChangeShapes Go.WideShapes Go.ChangeAt Go.RowKit
open Go.ChangeMaps (open_string shut_string)
set_option linter.unusedVariables false
theorem own : ownKnob Try.prog.godebug = none := by kernel_rfl
theorem laidOut : laidOutB Try.prog = true := by kernel_rfl
def IsRow (k : IntKind) (w : World) (a : Option Addr) (len cap : Nat) (zs : List Int) : Prop :=
  (a = none ∧ len = 0 ∧ cap = 0 ∧ zs = []) ∨
  ∃ x, a = some x ∧ len ≤ cap ∧ cap ≤ maxLen ∧ zs.length = cap ∧ (∀ i, i < zs.length → w.cell? (x.add i) = some (.int k (zs.getD i 0))) ∧ ∀ n ∈ zs, (Lit.int k n).wf = true
set_option maxRecDepth 100000 in
theorem lifted (os : Os) (started : os.Started) (H : Type) (enc : TypeId × Value → H) :
    ReturnsInHanded {} Try.checked os 7 .any (Rows.natBackSpec.pre6 enc Try.prog Try.f7 Rows.natBackRow.domain false) (Rows.natBackSpec.post enc Try.prog Try.f7 false true false false) := by
  refine returnsInHanded_of_change_sized (C := Try.checked) own started (by kernel_rfl) Try.func7
    (ChangeSpec.witness6 (enc := enc) (C := Try.checked) false ⟨#[], #[.slice none 0 0, .slice none 0 0, .slice none 0 0], []⟩ 8 (by kernel_rfl) (by kernel_rfl) (by kernel_rfl) (by kernel_rfl)) ?_
  intro W base args ds gs before hval0 hW hcnd hsz0 _
  have hsz : (DataW.weightsEach Try.prog (Try.f7.params.toList ++ Rows.natBackSpec.plain.varTypes Try.prog) (ds ++ gs)).all (· ≤ reachBytes) = true := hsz0
  have hval : ∀ (j : Nat) t v, Try.f7.params[j]? = some t → args[j]? = some v → Value.okWide Try.prog W .any base t v := hval0
  have hW' := hW
  obtain ⟨p, q, hA0, hV, rfl, hfz, hnd⟩ := hW
  have hA : DataW.TrodAll enc Try.prog W 0 (fun _ => true) true Try.f7.params.toList args.toList ds p := hA0
  rw [Try.params7] at hA hval hsz
  obtain ⟨v0, vs0, d0, ds0, p0, q0, hargs, rfl, rfl, h0, r0⟩ := trodAll_cons hA
  obtain ⟨v1, vs1, d1, ds1, p1, q1, rfl, rfl, rfl, h1, r1⟩ := trodAll_cons r0
  obtain ⟨v2, vs2, d2, ds2, p2, q2, rfl, rfl, rfl, h2, r2⟩ := trodAll_cons r1
  obtain ⟨rfl, rfl, rfl⟩ := trodAll_nil r2
  obtain rfl : args = #[v0, v1, v2] := by cases args; simp_all
  obtain ⟨rfl, rfl⟩ := trodVars_none hV
  obtain ⟨a0, len0, cap0, rfl⟩ := okWide_slice Try.underlying22 (hval 0 22 v0 rfl rfl)
  have k0 := h0
  have lt0 : ∀ x ∈ p0, x.block < W.heap.size := by obtain ⟨m, hm⟩ := k0; exact DataW.trod_lt m _ _ _ hm
  obtain ⟨z0, w0⟩ : ∃ zs, IsRow .u32 W a0 len0 cap0 zs := by
    obtain ⟨fuel, hf⟩ := h0
    rcases open_ints Try.underlying22 Try.underlying23 (by kernel_rfl) hf with ⟨hcs, _⟩ | ⟨x, l, c, zs, hcs, _, hl, hm, hz, _, hcell, hwz⟩
    · simp [Value.cells] at hcs
      obtain ⟨rfl, rfl, rfl⟩ := hcs
      exact ⟨[], .inl ⟨rfl, rfl, rfl, rfl⟩⟩
    · simp [Value.cells] at hcs
      obtain ⟨rfl, rfl, rfl⟩ := hcs
      exact ⟨zs, .inr ⟨_, rfl, hl, hm, by simpa using hz, hcell, hwz⟩⟩
  have y0 : len0 * 4 ≤ 140737488351232 := Go.Proofs.YtcepdndhkidehaaW.PrintWords.sized_ints hsz (j := 0) (t := 22) rfl rfl Try.underlying22 Try.underlying23 (by kernel_rfl) (by kernel_rfl) h0
  obtain ⟨a1, len1, cap1, rfl⟩ := okWide_slice Try.underlying22 (hval 1 22 v1 rfl rfl)
  have k1 := h1
  have lt1 : ∀ x ∈ p1, x.block < W.heap.size := by obtain ⟨m, hm⟩ := k1; exact DataW.trod_lt m _ _ _ hm
  obtain ⟨z1, w1⟩ : ∃ zs, IsRow .u32 W a1 len1 cap1 zs := by
    obtain ⟨fuel, hf⟩ := h1
    rcases open_ints Try.underlying22 Try.underlying23 (by kernel_rfl) hf with ⟨hcs, _⟩ | ⟨x, l, c, zs, hcs, _, hl, hm, hz, _, hcell, hwz⟩
    · simp [Value.cells] at hcs
      obtain ⟨rfl, rfl, rfl⟩ := hcs
      exact ⟨[], .inl ⟨rfl, rfl, rfl, rfl⟩⟩
    · simp [Value.cells] at hcs
      obtain ⟨rfl, rfl, rfl⟩ := hcs
      exact ⟨zs, .inr ⟨_, rfl, hl, hm, by simpa using hz, hcell, hwz⟩⟩
  have y1 : len1 * 4 ≤ 140737488351232 := Go.Proofs.YtcepdndhkidehaaW.PrintWords.sized_ints hsz (j := 1) (t := 22) rfl rfl Try.underlying22 Try.underlying23 (by kernel_rfl) (by kernel_rfl) h1
  obtain ⟨a2, len2, cap2, rfl⟩ := okWide_slice Try.underlying22 (hval 2 22 v2 rfl rfl)
  have k2 := h2
  have lt2 : ∀ x ∈ p2, x.block < W.heap.size := by obtain ⟨m, hm⟩ := k2; exact DataW.trod_lt m _ _ _ hm
  obtain ⟨z2, w2⟩ : ∃ zs, IsRow .u32 W a2 len2 cap2 zs := by
    obtain ⟨fuel, hf⟩ := h2
    rcases open_ints Try.underlying22 Try.underlying23 (by kernel_rfl) hf with ⟨hcs, _⟩ | ⟨x, l, c, zs, hcs, _, hl, hm, hz, _, hcell, hwz⟩
    · simp [Value.cells] at hcs
      obtain ⟨rfl, rfl, rfl⟩ := hcs
      exact ⟨[], .inl ⟨rfl, rfl, rfl, rfl⟩⟩
    · simp [Value.cells] at hcs
      obtain ⟨rfl, rfl, rfl⟩ := hcs
      exact ⟨zs, .inr ⟨_, rfl, hl, hm, by simpa using hz, hcell, hwz⟩⟩
  have y2 : len2 * 4 ≤ 140737488351232 := Go.Proofs.YtcepdndhkidehaaW.PrintWords.sized_ints hsz (j := 2) (t := 22) rfl rfl Try.underlying22 Try.underlying23 (by kernel_rfl) (by kernel_rfl) h2
  clear hA0 hval0 hsz0 hsz
  refine (PA.numerarylaw02_NatBack.walk Pure.NatBack a0 len0 cap0 z0 a1 len1 cap1 z1 a2 len2 cap2 z2 W w0 y0 w1 y1 w2 y2).mono fun e W' ⟨he, bel⟩ => ?_
  subst he
  exact ⟨_, rfl, _, _, _, [], _, [], hW', trodAll_mk1 (shut_bool Try.underlying4 _), (trodAll_cons_mk (Below.trod laidOut (by kernel_rfl) (of_decide_eq_true (by kernel_rfl)) k0 bel lt0) (trodAll_cons_mk (Below.trod laidOut (by kernel_rfl) (of_decide_eq_true (by kernel_rfl)) k1 bel lt1) (trodAll_cons_mk (Below.trod laidOut (by kernel_rfl) (of_decide_eq_true (by kernel_rfl)) k2 bel lt2) trodAll_mk0))), rfl, bel.frame _, fun h => by cases h⟩
theorem over : Rows.natBackRow.holds Try.pinned (OpenSpec.ofChange Rows.natBackSpec) :=
  OpenClaim.holds_of_wide 7 Try.f7 rfl rfl rfl rfl rfl rfl rfl ⟨rfl, rfl, rfl, rfl, rfl⟩ rfl rfl rfl rfl rfl (by kernel_rfl) Try.func7 (by kernel_rfl)
    (of_decide_eq_true (by kernel_rfl)) (by unfold Func.isWrapper; first | (rw [if_pos (by decide +kernel)]; kernel_rfl) | (rw [if_neg (by decide +kernel)]; exact ⟨rfl, rfl⟩))
    (fun os started H enc _ => lifted os started H enc)
theorem proved : Rows.NatBackSaid := over
#print axioms proved
end Go.Proofs.Ytcepdndhkidehaa.natBack
namespace Go.Proofs.Ytcepdndhkidehaa
/-- The row, under a short name, for the claim. -/
theorem natBack_holds : Rows.NatBackSaid := natBack.proved
end Go.Proofs.Ytcepdndhkidehaa

