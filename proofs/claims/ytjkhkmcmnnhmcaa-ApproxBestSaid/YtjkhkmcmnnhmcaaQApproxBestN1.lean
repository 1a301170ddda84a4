/- Natural numbers of the program and of the document: what each call comes to. -/
import Derived.Test.YtjkhkmcmnnhmcaaQApproxBestC
import Derived.Test.YtjkhkmcmnnhmcaaQApproxBestN0
namespace Go.Proofs.Ytjkhkmcmnnhmcaa.F
open Go Go.Proofs.Ytjkhkmcmnnhmcaa.E
set_option linter.unusedVariables false
set_option linter.unusedSimpArgs false

/-- A number's limbs, and its decimals. -/
def L (n : Nat) : List Int := nl (dg 4294967296 n)
def D (n : Nat) : List Int := nl (dg 10 n)
theorem b32 : 2 ≤ 4294967296 := by decide
theorem b10 : 2 ≤ 10 := by decide
def ln (n : Nat) : Nat := (dg 4294967296 n).length
def dn (n : Nat) : Nat := (dg 10 n).length
theorem L_length (n : Nat) : (L n).length = ln n := nl_length _
theorem D_length (n : Nat) : (D n).length = dn n := nl_length _

theorem pred_wrap {n : Nat} (h : n ≤ 4611686018427387904) : IntKind.i64.wrap (((n + 1 : Nat) : Int) - 1) = (n : Int) := by rw [wrap_id] <;> omega
theorem succ_wrap {n : Nat} (h : n ≤ 4611686018427387904) : IntKind.i64.wrap ((n : Int) + 1) = ((n + 1 : Nat) : Int) := by rw [wrap_id] <;> omega
theorem zero_pred : IntKind.i64.wrap (((0 : Nat) : Int) - 1) = -1 := by rw [wrap_id] <;> omega

theorem clone_nl {l : List Int} (h : l.length ≤ 1099511627776) : Ev (slices_Clone_uint32_uint32.f l) l :=
  ev_eq slices_Clone_uint32_uint32.f_eq (ev_nq (fun h => ev_now h.symm) (ev_pos (by simp; omega) (ev_now (List.nil_append _))))
theorem limbs_nl {l : List Int} (h : l.length ≤ 1099511627776) : Ev (nat_Nat_Limbs.f l) l := ev_eq nat_Nat_Limbs.f_eq (Ev.bind (clone_nl h) (ev_now rfl))

theorem made_loop {l : List Nat} (hl : l.length ≤ 1099511627776) : ∀ n, n ≤ l.length → (∀ i, n ≤ i → gd l i = 0) → Ev (nat_Made.l0 (nl l) [] (n : Int)) (nl (trim l)) := by
  intro n
  have fin : ∀ n, n ≤ l.length → (n = 0 ∨ gd l (n - 1) ≠ 0) → (∀ i, n ≤ i → gd l i = 0) → Ev (slices_Clone_uint32_uint32.f ((nl l).take ((n : Int)).toNat)) (nl (trim l)) := by
    intro n hn h1 h2
    rw [Int.toNat_natCast, nl_take, trim_take hn h1 h2]
    exact clone_nl (by rw [nl_length, List.length_take]; omega)
  induction n with
  | zero =>
    intro hn hz
    refine ev_loop nat_Made.l0_eq nat_Made.l0_step ?_
    refine ev_neg (by omega) (ev_pos (by omega) (ev_pos (by rw [nl_length]; omega) (Ev.bind (fin 0 hn (.inl rfl) hz) (ev_now rfl))))
  | succ n ih =>
    intro hn hz
    refine ev_loop nat_Made.l0_eq nat_Made.l0_step ?_
    rw [pred_wrap (by omega)]
    refine ev_pos (by omega) (ev_pos (by omega) (ev_pos (by rw [nl_length]; omega) ?_))
    by_cases h0 : gd l n = 0
    · refine ev_pos (by rw [rd_nl, h0]; rfl) (ih (by omega) fun i hi => ?_)
      rcases Nat.lt_or_eq_of_le hi with h | rfl
      · exact hz i h
      · exact h0
    · refine ev_neg (by rw [rd_nl]; omega) (ev_pos (by omega) (ev_pos (by rw [nl_length]; omega) (Ev.bind (fin (n + 1) hn (.inr (by simpa using h0)) hz) (ev_now rfl))))
theorem made_nl {l : List Nat} (hl : l.length ≤ 1099511627776) : Ev (nat_Made.f (nl l)) (nl (trim l)) := by
  have := made_loop hl l.length (Nat.le_refl _) (fun i hi => gd_ge hi)
  refine ev_eq nat_Made.f_eq ?_
  rw [nl_length]
  exact this
theorem made_val {l : List Nat} (hl : l.length ≤ 1099511627776) (h : Dg 4294967296 l) : Ev (nat_Made.f (nl l)) (L (val 4294967296 l)) := by
  unfold L; rw [dg_val b32 h]; exact made_nl hl

theorem rtrim_loop {l : List Nat} (hl : l.length ≤ 1099511627776) : ∀ n, n ≤ l.length → (∀ i, n ≤ i → gd l i = 0) → Ev (numeraryref02_trim.l0 (nl l) (n : Int)) (nl (trim l)) := by
  intro n
  have fin : ∀ n, n ≤ l.length → (n = 0 ∨ gd l (n - 1) ≠ 0) → (∀ i, n ≤ i → gd l i = 0) → (nl l).take ((n : Int)).toNat = nl (trim l) := by
    intro n hn h1 h2
    rw [Int.toNat_natCast, nl_take, trim_take hn h1 h2]
  induction n with
  | zero =>
    intro hn hz
    refine ev_loop numeraryref02_trim.l0_eq numeraryref02_trim.l0_step ?_
    exact ev_neg (by omega) (ev_pos (by omega) (ev_pos (by rw [nl_length]; omega) (ev_now (fin 0 hn (.inl rfl) hz))))
  | succ n ih =>
    intro hn hz
    refine ev_loop numeraryref02_trim.l0_eq numeraryref02_trim.l0_step ?_
    rw [pred_wrap (by omega)]
    refine ev_pos (by omega) (ev_pos (by omega) (ev_pos (by rw [nl_length]; omega) ?_))
    by_cases h0 : gd l n = 0
    · refine ev_pos (by rw [rd_nl, h0]; rfl) (ih (by omega) fun i hi => ?_)
      rcases Nat.lt_or_eq_of_le hi with h | rfl
      · exact hz i h
      · exact h0
    · exact ev_neg (by rw [rd_nl]; omega) (ev_pos (by omega) (ev_pos (by rw [nl_length]; omega) (ev_now (fin (n + 1) hn (.inr (by simpa using h0)) hz))))
theorem rtrim_val {l : List Nat} (hl : l.length ≤ 1099511627776) (h : Dg 10 l) : Ev (numeraryref02_trim.f (nl l)) (D (val 10 l)) := by
  have := rtrim_loop hl l.length (Nat.le_refl _) (fun i hi => gd_ge hi)
  refine ev_eq numeraryref02_trim.f_eq ?_
  unfold D
  rw [nl_length, dg_val b10 h]
  exact this

/-- of up to 64 bits. -/
theorem of_val {n : Nat} (hn : n < 18446744073709551616) : Ev (nat_Of.f (n : Int)) (L n) := by
  have h : Dg 4294967296 [n % 4294967296, n / 4294967296] := Dg.cons (Nat.mod_lt _ (by decide)) (Dg.cons (by omega) (Dg.nil _))
  have h1 := made_val (l := [n % 4294967296, n / 4294967296]) (by simp) h
  have h2 : val 4294967296 [n % 4294967296, n / 4294967296] = n := by simp only [val]; omega
  rw [h2] at h1
  refine ev_eq nat_Of.f_eq ?_
  have h3 : ([IntKind.u32.wrap (n : Int), IntKind.u32.wrap ((n : Int).fdiv (2 ^ 32))] : List Int) = nl [n % 4294967296, n / 4294967296] := by
    rw [nl_cons, nl_cons, nl_nil, u32_def, u32_def, Int.fdiv_eq_ediv_of_nonneg _ (by decide)]
    congr 2
    omega
  rw [h3]
  exact h1.bind (ev_now rfl)

/-! ### the document's -/
theorem rat_nl (l : List Nat) (i : Nat) : Ev (numeraryref02_at.f (nl l) (i : Int)) ((gd l i : Nat) : Int) := by
  refine ev_eq numeraryref02_at.f_eq ?_
  by_cases h : i < l.length
  · (repeat (first | refine ev_pos (by (try simp only [nl_length, L_length, D_length, rd_nl, getD_nl, List.length_append, List.length_cons, List.length_nil, List.length_set, List.length_replicate, List.length_take, List.length_drop, Nat.zero_add, ge_iff_le, gt_iff_lt]); omega) ?_ | refine ev_neg (by (try simp only [nl_length, L_length, D_length, rd_nl, getD_nl, List.length_append, List.length_cons, List.length_nil, List.length_set, List.length_replicate, List.length_take, List.length_drop, Nat.zero_add, ge_iff_le, gt_iff_lt]); omega) ?_))
    exact ev_now (rd_nl _ _)
  · (repeat (first | refine ev_pos (by (try simp only [nl_length, L_length, D_length, rd_nl, getD_nl, List.length_append, List.length_cons, List.length_nil, List.length_set, List.length_replicate, List.length_take, List.length_drop, Nat.zero_add, ge_iff_le, gt_iff_lt]); omega) ?_ | refine ev_neg (by (try simp only [nl_length, L_length, D_length, rd_nl, getD_nl, List.length_append, List.length_cons, List.length_nil, List.length_set, List.length_replicate, List.length_take, List.length_drop, Nat.zero_add, ge_iff_le, gt_iff_lt]); omega) ?_))
    exact ev_now (by rw [gd_ge (by omega)]; rfl)
theorem nat_at_nl (l : List Nat) (i : Nat) : Ev (nat_Nat_at.f (nl l) (i : Int)) ((gd l i : Nat) : Int) := by
  refine ev_eq nat_Nat_at.f_eq ?_
  by_cases h : i < l.length
  · (repeat (first | refine ev_pos (by (try simp only [nl_length, L_length, D_length, rd_nl, getD_nl, List.length_append, List.length_cons, List.length_nil, List.length_set, List.length_replicate, List.length_take, List.length_drop, Nat.zero_add, ge_iff_le, gt_iff_lt]); omega) ?_ | refine ev_neg (by (try simp only [nl_length, L_length, D_length, rd_nl, getD_nl, List.length_append, List.length_cons, List.length_nil, List.length_set, List.length_replicate, List.length_take, List.length_drop, Nat.zero_add, ge_iff_le, gt_iff_lt]); omega) ?_))
    exact ev_now (rd_nl _ _)
  · (repeat (first | refine ev_pos (by (try simp only [nl_length, L_length, D_length, rd_nl, getD_nl, List.length_append, List.length_cons, List.length_nil, List.length_set, List.length_replicate, List.length_take, List.length_drop, Nat.zero_add, ge_iff_le, gt_iff_lt]); omega) ?_ | refine ev_neg (by (try simp only [nl_length, L_length, D_length, rd_nl, getD_nl, List.length_append, List.length_cons, List.length_nil, List.length_set, List.length_replicate, List.length_take, List.length_drop, Nat.zero_add, ge_iff_le, gt_iff_lt]); omega) ?_))
    exact ev_now (by rw [gd_ge (by omega)]; rfl)

theorem rof_loop : ∀ (n : Nat) (out : List Nat), n < 18446744073709551616 → out.length + (dg 10 n).length ≤ 1000 → Ev (numeraryref02_Of.l0 (n : Int) (nl out)) (nl (out ++ dg 10 n)) := by
  intro n
  induction n using Nat.strongRecOn with
  | _ n ih =>
    intro out hn hl
    refine ev_loop numeraryref02_Of.l0_eq numeraryref02_Of.l0_step ?_
    rcases Nat.eq_zero_or_pos n with rfl | h0
    · exact ev_neg (by omega) (ev_now (by rw [dg_zero, List.append_nil]))
    · rw [dg_pos b10 h0] at hl ⊢
      simp only [List.length_cons] at hl
      refine ev_pos (by omega) (ev_pos (by (try simp only [nl_length, L_length, D_length, rd_nl, getD_nl, List.length_append, List.length_cons, List.length_nil, List.length_set, List.length_replicate, List.length_take, List.length_drop, Nat.zero_add, ge_iff_le, gt_iff_lt]); omega) ?_)
      have h1 : IntKind.u64.wrap (Int.tdiv (n : Int) 10) = ((n / 10 : Nat) : Int) := by
        rw [Int.tdiv_eq_ediv_of_nonneg (by omega), u64_id] <;> omega
      have h2 : IntKind.i64.wrap (Int.tmod (n : Int) 10) = ((n % 10 : Nat) : Int) := by
        rw [Int.tmod_eq_emod_of_nonneg (by omega), wrap_id] <;> omega
      have h3 := ih (n / 10) (by omega) (out ++ [n % 10]) (by omega) (by simp only [List.length_append, List.length_cons, List.length_nil]; omega)
      rw [h1, h2, show nl out ++ [((n % 10 : Nat) : Int)] = nl (out ++ [n % 10]) by rw [nl_append]; rfl]
      rw [List.append_assoc] at h3
      exact h3
theorem rof_val {n : Nat} (hn : n < 18446744073709551616) : Ev (numeraryref02_Of.f (n : Int)) (D n) := by
  have h : (dg 10 n).length ≤ 20 := (dg_len b10 n 20).mpr (by omega)
  exact ev_eq numeraryref02_Of.f_eq (rof_loop n [] hn (by simp; omega))

/-! times a small number -/
theorem rtimes_tail (a : List Nat) (m : Nat) (hm : m < 1099511627776) : ∀ (c : Nat) (out : List Nat), c ≤ m → Dg 10 out → a.length ≤ out.length → out.length + (dg 10 c).length ≤ 1099511627776 →
    Ev (numeraryref02_Times.l0 (nl a) (m : Int) (nl out) (c : Int) (out.length : Int)) (D (val 10 out + 10 ^ out.length * c)) := by
  intro c
  induction c using Nat.strongRecOn with
  | _ c ih =>
    intro out hc ho hl hb
    refine ev_loop numeraryref02_Times.l0_eq numeraryref02_Times.l0_step ?_
    refine ev_neg (by rw [nl_length]; omega) ?_
    rcases Nat.eq_zero_or_pos c with rfl | h0
    · refine ev_neg (by omega) ?_
      rw [Nat.mul_zero, Nat.add_zero]
      exact (rtrim_val (by omega) ho).bind (ev_now rfl)
    · rw [dg_pos b10 h0] at hb
      simp only [List.length_cons] at hb
      refine ev_pos (by omega) (Ev.bind (rat_nl a out.length) (ev_pos (by (try simp only [nl_length, L_length, D_length, rd_nl, getD_nl, List.length_append, List.length_cons, List.length_nil, List.length_set, List.length_replicate, List.length_take, List.length_drop, Nat.zero_add, ge_iff_le, gt_iff_lt]); omega) ?_))
      rw [gd_ge hl, show IntKind.i64.wrap ((c : Int) + IntKind.i64.wrap (((0 : Nat) : Int) * (m : Int))) = (c : Int) by rw [show (((0 : Nat) : Int) * (m : Int)) = 0 by simp, wrap_id (x := 0) (by omega) (by omega), wrap_id] <;> omega]
      have h1 : IntKind.i64.wrap (Int.tdiv (c : Int) 10) = ((c / 10 : Nat) : Int) := by
        rw [Int.tdiv_eq_ediv_of_nonneg (by omega), wrap_id] <;> omega
      have h2 : Int.tmod (c : Int) 10 = ((c % 10 : Nat) : Int) := by
        rw [Int.tmod_eq_emod_of_nonneg (by omega)]; omega
      have h3 := ih (c / 10) (by omega) (out ++ [c % 10]) (by omega) (ho.append (Dg.cons (Nat.mod_lt _ (by decide)) (Dg.nil _))) (by simp; omega) (by simp only [List.length_append, List.length_cons, List.length_nil]; omega)
      rw [h1, h2, succ_wrap (by omega), show nl out ++ [((c % 10 : Nat) : Int)] = nl (out ++ [c % 10]) by rw [nl_append]; rfl]
      rw [val_snoc, List.length_append, List.length_cons, List.length_nil, Nat.zero_add] at h3
      have h4 : val 10 out + 10 ^ out.length * (c % 10) + 10 ^ (out.length + 1) * (c / 10) = val 10 out + 10 ^ out.length * c := by
        have := Nat.mod_add_div c 10
        rw [Nat.pow_succ]
        grind
      rw [h4] at h3
      exact h3
theorem rtimes_head (a : List Nat) (m : Nat) (hm : m < 1099511627776) (ha : Dg 10 a) (hb : a.length ≤ 549755813888) : ∀ (d c : Nat) (out : List Nat), out.length + d = a.length → c ≤ m → Dg 10 out → val 10 out + 10 ^ out.length * c = val 10 (a.take out.length) * m →
    Ev (numeraryref02_Times.l0 (nl a) (m : Int) (nl out) (c : Int) (out.length : Int)) (D (val 10 a * m)) := by
  intro d
  induction d with
  | zero =>
    intro c out hd hc ho hv
    have h1 : (dg 10 c).length ≤ 20 := (dg_len b10 c 20).mpr (by omega)
    have := rtimes_tail a m hm c out hc ho (by omega) (by omega)
    rw [hv, List.take_of_length_le (by omega)] at this
    exact this
  | succ d ih =>
    intro c out hd hc ho hv
    have hg := ha.gd (by decide) out.length
    refine ev_loop numeraryref02_Times.l0_eq numeraryref02_Times.l0_step ?_
    refine ev_pos (by rw [nl_length]; omega) (Ev.bind (rat_nl a out.length) (ev_pos (by (try simp only [nl_length, L_length, D_length, rd_nl, getD_nl, List.length_append, List.length_cons, List.length_nil, List.length_set, List.length_replicate, List.length_take, List.length_drop, Nat.zero_add, ge_iff_le, gt_iff_lt]); omega) ?_))
    obtain ⟨g, hge⟩ : ∃ g, gd a out.length = g := ⟨_, rfl⟩
    rw [hge] at hg ⊢
    have hgm : g * m ≤ 9 * m := Nat.mul_le_mul_right m (by omega)
    obtain ⟨p, hp⟩ : ∃ p, g * m = p := ⟨_, rfl⟩
    rw [hp] at hgm
    rw [wrap_mul (by rw [hp]; omega), hp, wrap_add (by omega), tdiv10, tmod10, wrap_nat (by omega), succ_wrap (by omega), nl_snoc]
    have h3 := ih ((c + p) / 10) (out ++ [(c + p) % 10]) (by simp only [List.length_append, List.length_cons, List.length_nil]; omega) (by omega) (ho.append (Dg.cons (Nat.mod_lt _ (by decide)) (Dg.nil _)))
    rw [val_snoc, List.length_append, List.length_cons, List.length_nil, Nat.zero_add] at h3
    refine h3 ?_
    rw [val_take_succ, hge]
    have := Nat.mod_add_div (c + p) 10
    rw [Nat.pow_succ]
    grind
theorem rtimes_val {a : List Nat} {m : Nat} (ha : Dg 10 a) (hb : a.length ≤ 549755813888) (hm : m < 1099511627776) : Ev (numeraryref02_Times.f (nl a) (m : Int)) (D (val 10 a * m)) :=
  ev_eq numeraryref02_Times.f_eq (rtimes_head a m hm ha hb a.length 0 [] (by simp) (Nat.zero_le _) (Dg.nil _) (by simp [val]))
theorem rtimes_D {n m : Nat} (hb : dn n ≤ 549755813888) (hm : m < 1099511627776) : Ev (numeraryref02_Times.f (D n) (m : Int)) (D (n * m)) := by
  have := rtimes_val (Dg_dg b10 n) hb hm
  rw [val_dg b10] at this
  exact this

/-! the sum -/
theorem radd_step (a b : List Nat) (ha : Dg 10 a) (hb : Dg 10 b) (c : Nat) (out : List Nat) (hl : out.length < 1099511627776) (hc : c ≤ 1) {r : List Int}
    (h : Ev (numeraryref02_Add.l0 (nl a) (nl b) (nl (out ++ [(c + gd a out.length + gd b out.length) % 10])) (((c + gd a out.length + gd b out.length) / 10 : Nat) : Int) ((out.length + 1 : Nat) : Int)) r) :
    Ev (M.bind (numeraryref02_at.f (nl a) (out.length : Int)) fun t1 => M.bind (numeraryref02_at.f (nl b) (out.length : Int)) fun t2 => if (nl out).length + ([(IntKind.i64.wrap ((IntKind.i64.wrap ((c : Int) + t1)) + t2)).tmod 10] : List Int).length ≤ 1099511627776 then numeraryref02_Add.l0 (nl a) (nl b) (nl out ++ ([(IntKind.i64.wrap ((IntKind.i64.wrap ((c : Int) + t1)) + t2)).tmod 10] : List Int)) (IntKind.i64.wrap ((IntKind.i64.wrap ((IntKind.i64.wrap ((c : Int) + t1)) + t2)).tdiv 10)) (IntKind.i64.wrap ((out.length : Int) + 1)) else M.none) r := by
  refine Ev.bind (rat_nl a out.length) (Ev.bind (rat_nl b out.length) (ev_pos (by (try simp only [nl_length, L_length, D_length, rd_nl, getD_nl, List.length_append, List.length_cons, List.length_nil, List.length_set, List.length_replicate, List.length_take, List.length_drop, Nat.zero_add, ge_iff_le, gt_iff_lt]); omega) ?_))
  have hg := ha.gd (by decide) out.length
  have hg2 := hb.gd (by decide) out.length
  obtain ⟨g, hge⟩ : ∃ g, gd a out.length = g := ⟨_, rfl⟩
  obtain ⟨g2, hge2⟩ : ∃ g, gd b out.length = g := ⟨_, rfl⟩
  rw [hge] at hg h ⊢
  rw [hge2] at hg2 h ⊢
  rw [show IntKind.i64.wrap (IntKind.i64.wrap ((c : Int) + (g : Int)) + (g2 : Int)) = ((c + g + g2 : Nat) : Int) by rw [wrap_id (x := (c : Int) + (g : Int)) (by omega) (by omega), wrap_id] <;> omega]
  have h1 : IntKind.i64.wrap (Int.tdiv ((c + g + g2 : Nat) : Int) 10) = (((c + g + g2) / 10 : Nat) : Int) := by
    rw [Int.tdiv_eq_ediv_of_nonneg (by omega), wrap_id] <;> omega
  have h2 : Int.tmod ((c + g + g2 : Nat) : Int) 10 = (((c + g + g2) % 10 : Nat) : Int) := by
    rw [Int.tmod_eq_emod_of_nonneg (by omega)]; omega
  rw [h1, h2, succ_wrap (by omega), show nl out ++ [(((c + g + g2) % 10 : Nat) : Int)] = nl (out ++ [(c + g + g2) % 10]) by rw [nl_append]; rfl]
  exact h
theorem radd_loop (a b : List Nat) (ha : Dg 10 a) (hb : Dg 10 b) (hl : a.length ≤ 549755813888) (hl2 : b.length ≤ 549755813888) : ∀ (d c : Nat) (out : List Nat), max a.length b.length + 1 ≤ out.length + d → out.length ≤ max a.length b.length + 1 → (out.length = max a.length b.length + 1 → c = 0) → c ≤ 1 → Dg 10 out → val 10 out + 10 ^ out.length * c = val 10 (a.take out.length) + val 10 (b.take out.length) →
    Ev (numeraryref02_Add.l0 (nl a) (nl b) (nl out) (c : Int) (out.length : Int)) (D (val 10 a + val 10 b)) := by
  intro d
  have fin : ∀ (c : Nat) (out : List Nat), max a.length b.length ≤ out.length → out.length ≤ max a.length b.length + 1 → c = 0 → Dg 10 out → val 10 out + 10 ^ out.length * c = val 10 (a.take out.length) + val 10 (b.take out.length) →
      Ev (numeraryref02_Add.l0 (nl a) (nl b) (nl out) (c : Int) (out.length : Int)) (D (val 10 a + val 10 b)) := by
    intro c out h1 h2 h3 ho hv
    subst h3
    refine ev_loop numeraryref02_Add.l0_eq numeraryref02_Add.l0_step ?_
    refine ev_neg (by rw [nl_length]; omega) (ev_neg (by rw [nl_length]; omega) ?_)
    refine ev_neg (by omega) ?_
    rw [List.take_of_length_le (by omega), List.take_of_length_le (by omega), Nat.mul_zero, Nat.add_zero] at hv
    rw [← hv]
    exact (rtrim_val (by omega) ho).bind (ev_now rfl)
  induction d with
  | zero =>
    intro c out h1 h2 h3 h4 ho hv
    exact fin c out (by omega) h2 (h3 (by omega)) ho hv
  | succ d ih =>
    intro c out h1 h2 h3 h4 ho hv
    have hg := ha.gd (by decide) out.length
    have hg2 := hb.gd (by decide) out.length
    have more : out.length ≤ max a.length b.length → Ev (M.bind (numeraryref02_at.f (nl a) (out.length : Int)) fun t1 => M.bind (numeraryref02_at.f (nl b) (out.length : Int)) fun t2 => if (nl out).length + ([(IntKind.i64.wrap ((IntKind.i64.wrap ((c : Int) + t1)) + t2)).tmod 10] : List Int).length ≤ 1099511627776 then numeraryref02_Add.l0 (nl a) (nl b) (nl out ++ ([(IntKind.i64.wrap ((IntKind.i64.wrap ((c : Int) + t1)) + t2)).tmod 10] : List Int)) (IntKind.i64.wrap ((IntKind.i64.wrap ((IntKind.i64.wrap ((c : Int) + t1)) + t2)).tdiv 10)) (IntKind.i64.wrap ((out.length : Int) + 1)) else M.none) (D (val 10 a + val 10 b)) := by
      intro hm
      refine radd_step a b ha hb c out (by omega) h4 ?_
      have h := ih ((c + gd a out.length + gd b out.length) / 10) (out ++ [(c + gd a out.length + gd b out.length) % 10]) (by simp only [List.length_append, List.length_cons, List.length_nil]; omega) (by simp only [List.length_append, List.length_cons, List.length_nil]; omega)
        (by
          simp only [List.length_append, List.length_cons, List.length_nil]
          intro h
          rw [gd_ge (l := a) (by omega), gd_ge (l := b) (by omega)]
          omega) (by omega) (ho.append (Dg.cons (Nat.mod_lt _ (by decide)) (Dg.nil _)))
      rw [val_snoc, List.length_append, List.length_cons, List.length_nil, Nat.zero_add] at h
      refine h ?_
      rw [val_take_succ, val_take_succ]
      have := Nat.mod_add_div (c + gd a out.length + gd b out.length) 10
      rw [Nat.pow_succ]
      grind
    refine ev_loop numeraryref02_Add.l0_eq numeraryref02_Add.l0_step ?_
    by_cases c1 : out.length < a.length
    · exact ev_pos (by rw [nl_length]; omega) (more (by omega))
    · refine ev_neg (by rw [nl_length]; omega) ?_
      by_cases c2 : out.length < b.length
      · exact ev_pos (by rw [nl_length]; omega) (more (by omega))
      · refine ev_neg (by rw [nl_length]; omega) ?_
        by_cases c3 : c = 0
        · subst c3
          refine ev_neg (by omega) ?_
          have hv2 := hv
          rw [List.take_of_length_le (by omega), List.take_of_length_le (by omega), Nat.mul_zero, Nat.add_zero] at hv2
          rw [← hv2]
          exact (rtrim_val (by omega) ho).bind (ev_now rfl)
        · have hm : out.length ≤ max a.length b.length := by
            rcases Nat.lt_or_ge (max a.length b.length) out.length with h | h
            · exact absurd (h3 (by omega)) c3
            · exact h
          exact ev_pos (by omega) (more hm)
theorem radd_val {a b : List Nat} (ha : Dg 10 a) (hb : Dg 10 b) (hl : a.length ≤ 549755813888) (hl2 : b.length ≤ 549755813888) : Ev (numeraryref02_Add.f (nl a) (nl b)) (D (val 10 a + val 10 b)) :=
  ev_eq numeraryref02_Add.f_eq (radd_loop a b ha hb hl hl2 (max a.length b.length + 1) 0 [] (by simp) (by simp) (by simp) (by omega) (Dg.nil _) (by simp [val]))
theorem radd_D {m n : Nat} (hl : dn m ≤ 549755813888) (hl2 : dn n ≤ 549755813888) : Ev (numeraryref02_Add.f (D m) (D n)) (D (m + n)) := by
  have := radd_val (Dg_dg b10 m) (Dg_dg b10 n) hl hl2
  rw [val_dg b10, val_dg b10] at this
  exact this

/-! which is greater -/
def cmpI (m n : Nat) : Int := if m < n then -1 else if n < m then 1 else 0
theorem rcmp_loop (m n : Nat) (hl : dn m = dn n) (hb : dn m ≤ 1099511627776) : ∀ i, i ≤ dn m → (dg 10 m).drop i = (dg 10 n).drop i → Ev (numeraryref02_Cmp.l0 (D m) (D n) ((i : Int) - 1)) (cmpI m n) := by
  intro i
  induction i with
  | zero =>
    intro h1 h2
    rw [List.drop_zero, List.drop_zero] at h2
    have := dg_inj b10 h2
    subst this
    refine ev_loop numeraryref02_Cmp.l0_eq numeraryref02_Cmp.l0_step ?_
    exact ev_neg (by omega) (ev_now (by unfold cmpI; rw [if_neg (Nat.lt_irrefl _), if_neg (Nat.lt_irrefl _)]))
  | succ i ih =>
    intro h1 h2
    have e : (((i + 1 : Nat) : Int) - 1) = (i : Int) := by omega
    rw [e]
    refine ev_loop numeraryref02_Cmp.l0_eq numeraryref02_Cmp.l0_step ?_
    unfold dn at h1 hl hb
    refine ev_pos (by omega) (ev_pos (by omega) (ev_pos (by rw [D_length]; unfold dn; omega) (ev_pos (by omega) (ev_pos (by rw [D_length]; unfold dn; omega) ?_))))
    unfold D
    by_cases c1 : gd (dg 10 m) i < gd (dg 10 n) i
    · refine ev_pos (by rw [rd_nl, rd_nl]; omega) (ev_now ?_)
      have := val_cmp (by decide) (Dg_dg b10 m) (Dg_dg b10 n) hl (by omega) h2 c1
      rw [val_dg b10, val_dg b10] at this
      unfold cmpI; rw [if_pos this]
    · refine ev_neg (by rw [rd_nl, rd_nl]; omega) (ev_pos (by omega) (ev_pos (by (try simp only [nl_length, L_length, D_length, rd_nl, getD_nl, List.length_append, List.length_cons, List.length_nil, List.length_set, List.length_replicate, List.length_take, List.length_drop, Nat.zero_add, ge_iff_le, gt_iff_lt]); omega) (ev_pos (by omega) (ev_pos (by (try simp only [nl_length, L_length, D_length, rd_nl, getD_nl, List.length_append, List.length_cons, List.length_nil, List.length_set, List.length_replicate, List.length_take, List.length_drop, Nat.zero_add, ge_iff_le, gt_iff_lt]); omega) ?_))))
      by_cases c2 : gd (dg 10 n) i < gd (dg 10 m) i
      · refine ev_pos (by rw [rd_nl, rd_nl]; omega) (ev_now ?_)
        have := val_cmp (by decide) (Dg_dg b10 n) (Dg_dg b10 m) hl.symm (by omega) h2.symm c2
        rw [val_dg b10, val_dg b10] at this
        unfold cmpI; rw [if_neg (by omega), if_pos this]
      · refine ev_neg (by rw [rd_nl, rd_nl]; omega) ?_
        have h3 := ih (by unfold dn; omega) (by rw [drop_cons _ i (by omega), drop_cons _ i (by omega), h2, show gd (dg 10 m) i = gd (dg 10 n) i by omega])
        rw [wrap_id (by omega) (by omega)]
        exact h3
theorem rcmp_D {m n : Nat} (hb : dn m ≤ 1099511627776) (hb2 : dn n ≤ 1099511627776) : Ev (numeraryref02_Cmp.f (D m) (D n)) (cmpI m n) := by
  refine ev_eq numeraryref02_Cmp.f_eq ?_
  rw [D_length, D_length]
  by_cases c1 : dn m = dn n
  · refine ev_neg (by omega) ?_
    have := rcmp_loop m n c1 hb (dn m) (Nat.le_refl _) (by rw [List.drop_of_length_le (by unfold dn; omega), List.drop_of_length_le (by rw [c1]; unfold dn; omega)])
    rw [wrap_id (by omega) (by omega)]
    exact this
  · refine ev_pos (by omega) ?_
    by_cases c2 : dn m < dn n
    · exact ev_pos (by omega) (ev_now (by have := len_cmp b10 c2; unfold cmpI; rw [if_pos this]))
    · exact ev_neg (by omega) (ev_now (by have := len_cmp b10 (m := n) (n := m) (by unfold dn at *; omega); unfold cmpI; rw [if_neg (by omega), if_pos this]))
end Go.Proofs.Ytjkhkmcmnnhmcaa.F
