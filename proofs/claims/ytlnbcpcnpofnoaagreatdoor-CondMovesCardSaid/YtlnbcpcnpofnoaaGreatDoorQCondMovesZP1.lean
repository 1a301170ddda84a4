/- Natural numbers of the program and of the document: what each call comes to. -/
import Derived.Test.YtlnbcpcnpofnoaaGreatDoorQCondMovesC
import Derived.Test.YtlnbcpcnpofnoaaGreatDoorQCondMovesN0
namespace Go.Proofs.YtlnbcpcnpofnoaaGreatDoor.F
open Go Go.Proofs.YtlnbcpcnpofnoaaGreatDoor.E
set_option linter.unusedVariables false
set_option linter.unusedSimpArgs false

/-- A number's limbs, and its decimals. -/
def L (n : Nat) : List Int := nl (dg 4294967296 n)
def D (n : Nat) : List Int := nl (dg 10 n)
theorem b32 : 2 ≤ 4294967296 := by decide
theorem b10 : 2 ≤ 10 := by decide
def ln (n : Nat) : Nat := (dg 4294967296 n).length
def dn (n : Nat) : Nat := (dg 10 n).length
theorem L_length (n : Nat) : (L n).length = ln n := nl_length _
theorem D_length (n : Nat) : (D n).length = dn n := nl_length _

theorem pred_wrap {n : Nat} (h : n ≤ 4611686018427387904) : IntKind.i64.wrap (((n + 1 : Nat) : Int) - 1) = (n : Int) := by rw [wrap_id] <;> omega
theorem succ_wrap {n : Nat} (h : n ≤ 4611686018427387904) : IntKind.i64.wrap ((n : Int) + 1) = ((n + 1 : Nat) : Int) := by rw [wrap_id] <;> omega
theorem zero_pred : IntKind.i64.wrap (((0 : Nat) : Int) - 1) = -1 := by rw [wrap_id] <;> omega

theorem clone_nl {l : List Int} (h : l.length ≤ 1099511627776) : Ev (slices_Clone_uint32_uint32.f l) l :=
  ev_eq slices_Clone_uint32_uint32.f_eq (ev_nq (fun h => ev_now h.symm) (ev_pos (by simp; omega) (ev_now (List.nil_append _))))
theorem limbs_nl {l : List Int} (h : l.length ≤ 1099511627776) : Ev (nat_Nat_Limbs.f l) l := ev_eq nat_Nat_Limbs.f_eq (Ev.bind (clone_nl h) (ev_now rfl))

theorem made_loop {l : List Nat} (hl : l.length ≤ 1099511627776) : ∀ n, n ≤ l.length → (∀ i, n ≤ i → gd l i = 0) → Ev (nat_Made.l0 (nl l) [] (n : Int)) (nl (trim l)) := by
  intro n
  have fin : ∀ n, n ≤ l.length → (n = 0 ∨ gd l (n - 1) ≠ 0) → (∀ i, n ≤ i → gd l i = 0) → Ev (slices_Clone_uint32_uint32.f ((nl l).take ((n : Int)).toNat)) (nl (trim l)) := by
    intro n hn h1 h2
    rw [Int.toNat_natCast, nl_take, trim_take hn h1 h2]
    exact clone_nl (by rw [nl_length, List.length_take]; omega)
  induction n with
  | zero =>
    intro hn hz
    refine ev_loop nat_Made.l0_eq nat_Made.l0_step ?_
    refine ev_neg (by omega) (ev_pos (by omega) (ev_pos (by rw [nl_length]; omega) (Ev.bind (fin 0 hn (.inl rfl) hz) (ev_now rfl))))
  | succ n ih =>
    intro hn hz
    refine ev_loop nat_Made.l0_eq nat_Made.l0_step ?_
    rw [pred_wrap (by omega)]
    refine ev_pos (by omega) (ev_pos (by omega) (ev_pos (by rw [nl_length]; omega) ?_))
    by_cases h0 : gd l n = 0
    · refine ev_pos (by rw [rd_nl, h0]; rfl) (ih (by omega) fun i hi => ?_)
      rcases Nat.lt_or_eq_of_le hi with h | rfl
      · exact hz i h
      · exact h0
    · refine ev_neg (by rw [rd_nl]; omega) (ev_pos (by omega) (ev_pos (by rw [nl_length]; omega) (Ev.bind (fin (n + 1) hn (.inr (by simpa using h0)) hz) (ev_now rfl))))
theorem made_nl {l : List Nat} (hl : l.length ≤ 1099511627776) : Ev (nat_Made.f (nl l)) (nl (trim l)) := by
  have := made_loop hl l.length (Nat.le_refl _) (fun i hi => gd_ge hi)
  refine ev_eq nat_Made.f_eq ?_
  rw [nl_length]
  exact this
theorem made_val {l : List Nat} (hl : l.length ≤ 1099511627776) (h : Dg 4294967296 l) : Ev (nat_Made.f (nl l)) (L (val 4294967296 l)) := by
  unfold L; rw [dg_val b32 h]; exact made_nl hl

theorem rtrim_loop {l : List Nat} (hl : l.length ≤ 1099511627776) : ∀ n, n ≤ l.length → (∀ i, n ≤ i → gd l i = 0) → Ev (numeraryref02_trim.l0 (nl l) (n : Int)) (nl (trim l)) := by
  intro n
  have fin : ∀ n, n ≤ l.length → (n = 0 ∨ gd l (n - 1) ≠ 0) → (∀ i, n ≤ i → gd l i = 0) → (nl l).take ((n : Int)).toNat = nl (trim l) := by
    intro n hn h1 h2
    rw [Int.toNat_natCast, nl_take, trim_take hn h1 h2]
  induction n with
  | zero =>
    intro hn hz
    refine ev_loop numeraryref02_trim.l0_eq numeraryref02_trim.l0_step ?_
    exact ev_neg (by omega) (ev_pos (by omega) (ev_pos (by rw [nl_length]; omega) (ev_now (fin 0 hn (.inl rfl) hz))))
  | succ n ih =>
    intro hn hz
    refine ev_loop numeraryref02_trim.l0_eq numeraryref02_trim.l0_step ?_
    rw [pred_wrap (by omega)]
    refine ev_pos (by omega) (ev_pos (by omega) (ev_pos (by rw [nl_length]; omega) ?_))
    by_cases h0 : gd l n = 0
    · refine ev_pos (by rw [rd_nl, h0]; rfl) (ih (by omega) fun i hi => ?_)
      rcases Nat.lt_or_eq_of_le hi with h | rfl
      · exact hz i h
      · exact h0
    · exact ev_neg (by rw [rd_nl]; omega) (ev_pos (by omega) (ev_pos (by rw [nl_length]; omega) (ev_now (fin (n + 1) hn (.inr (by simpa using h0)) hz))))
theorem rtrim_val {l : List Nat} (hl : l.length ≤ 1099511627776) (h : Dg 10 l) : Ev (numeraryref02_trim.f (nl l)) (D (val 10 l)) := by
  have := rtrim_loop hl l.length (Nat.le_refl _) (fun i hi => gd_ge hi)
  refine ev_eq numeraryref02_trim.f_eq ?_
  unfold D
  rw [nl_length, dg_val b10 h]
  exact this

/-- of up to 64 bits. -/
theorem of_val {n : Nat} (hn : n < 18446744073709551616) : Ev (nat_Of.f (n : Int)) (L n) := by
  have h : Dg 4294967296 [n % 4294967296, n / 4294967296] := Dg.cons (Nat.mod_lt _ (by decide)) (Dg.cons (by omega) (Dg.nil _))
  have h1 := made_val (l := [n % 4294967296, n / 4294967296]) (by simp) h
  have h2 : val 4294967296 [n % 4294967296, n / 4294967296] = n := by simp only [val]; omega
  rw [h2] at h1
  refine ev_eq nat_Of.f_eq ?_
  have h3 : ([IntKind.u32.wrap (n : Int), IntKind.u32.wrap ((n : Int).fdiv (2 ^ 32))] : List Int) = nl [n % 4294967296, n / 4294967296] := by
    rw [nl_cons, nl_cons, nl_nil, u32_def, u32_def, Int.fdiv_eq_ediv_of_nonneg _ (by decide)]
    congr 2
    omega
  rw [h3]
  exact h1.bind (ev_now rfl)

/-! ### the document's -/
theorem rat_nl (l : List Nat) (i : Nat) : Ev (numeraryref02_at.f (nl l) (i : Int)) ((gd l i : Nat) : Int) := by
  refine ev_eq numeraryref02_at.f_eq ?_
  by_cases h : i < l.length
  · (repeat (first | refine ev_pos (by (try simp only [nl_length, L_length, D_length, rd_nl, getD_nl, List.length_append, List.length_cons, List.length_nil, List.length_set, List.length_replicate, List.length_take, List.length_drop, Nat.zero_add, ge_iff_le, gt_iff_lt]); omega) ?_ | refine ev_neg (by (try simp only [nl_length, L_length, D_length, rd_nl, getD_nl, List.length_append, List.length_cons, List.length_nil, List.length_set, List.length_replicate, List.length_take, List.length_drop, Nat.zero_add, ge_iff_le, gt_iff_lt]); omega) ?_))
    exact ev_now (rd_nl _ _)
  · (repeat (first | refine ev_pos (by (try simp only [nl_length, L_length, D_length, rd_nl, getD_nl, List.length_append, List.length_cons, List.length_nil, List.length_set, List.length_replicate, List.length_take, List.length_drop, Nat.zero_add, ge_iff_le, gt_iff_lt]); omega) ?_ | refine ev_neg (by (try simp only [nl_length, L_length, D_length, rd_nl, getD_nl, List.length_append, List.length_cons, List.length_nil, List.length_set, List.length_replicate, List.length_take, List.length_drop, Nat.zero_add, ge_iff_le, gt_iff_lt]); omega) ?_))
    exact ev_now (by rw [gd_ge (by omega)]; rfl)
theorem nat_at_nl (l : List Nat) (i : Nat) : Ev (nat_Nat_at.f (nl l) (i : Int)) ((gd l i : Nat) : Int) := by
  refine ev_eq nat_Nat_at.f_eq ?_
  by_cases h : i < l.length
  · (repeat (first | refine ev_pos (by (try simp only [nl_length, L_length, D_length, rd_nl, getD_nl, List.length_append, List.length_cons, List.length_nil, List.length_set, List.length_replicate, List.length_take, List.length_drop, Nat.zero_add, ge_iff_le, gt_iff_lt]); omega) ?_ | refine ev_neg (by (try simp only [nl_length, L_length, D_length, rd_nl, getD_nl, List.length_append, List.length_cons, List.length_nil, List.length_set, List.length_replicate, List.length_take, List.length_drop, Nat.zero_add, ge_iff_le, gt_iff_lt]); omega) ?_))
    exact ev_now (rd_nl _ _)
  · (repeat (first | refine ev_pos (by (try simp only [nl_length, L_length, D_length, rd_nl, getD_nl, List.length_append, List.length_cons, List.length_nil, List.length_set, List.length_replicate, List.length_take, List.length_drop, Nat.zero_add, ge_iff_le, gt_iff_lt]); omega) ?_ | refine ev_neg (by (try simp only [nl_length, L_length, D_length, rd_nl, getD_nl, List.length_append, List.length_cons, List.length_nil, List.length_set, List.length_replicate, List.length_take, List.length_drop, Nat.zero_add, ge_iff_le, gt_iff_lt]); omega) ?_))
    exact ev_now (by rw [gd_ge (by omega)]; rfl)

theorem rof_loop : ∀ (n : Nat) (out : List Nat), n < 18446744073709551616 → out.length + (dg 10 n).length ≤ 1000 → Ev (numeraryref02_Of.l0 (n : Int) (nl out)) (nl (out ++ dg 10 n)) := by
  intro n
  induction n using Nat.strongRecOn with
  | _ n ih =>
    intro out hn hl
    refine ev_loop numeraryref02_Of.l0_eq numeraryref02_Of.l0_step ?_
    rcases Nat.eq_zero_or_pos n with rfl | h0
    · exact ev_neg (by omega) (ev_now (by rw [dg_zero, List.append_nil]))
    · rw [dg_pos b10 h0] at hl ⊢
      simp only [List.length_cons] at hl
      refine ev_pos (by omega) (ev_pos (by (try simp only [nl_length, L_length, D_length, rd_nl, getD_nl, List.length_append, List.length_cons, List.length_nil, List.length_set, List.length_replicate, List.length_take, List.length_drop, Nat.zero_add, ge_iff_le, gt_iff_lt]); omega) ?_)
      have h1 : IntKind.u64.wrap (Int.tdiv (n : Int) 10) = ((n / 10 : Nat) : Int) := by
        rw [Int.tdiv_eq_ediv_of_nonneg (by omega), u64_id] <;> omega
      have h2 : IntKind.i64.wrap (Int.tmod (n : Int) 10) = ((n % 10 : Nat) : Int) := by
        rw [Int.tmod_eq_emod_of_nonneg (by omega), wrap_id] <;> omega
      have h3 := ih (n / 10) (by omega) (out ++ [n % 10]) (by omega) (by simp only [List.length_append, List.length_cons, List.length_nil]; omega)
      rw [h1, h2, show nl out ++ [((n % 10 : Nat) : Int)] = nl (out ++ [n % 10]) by rw [nl_append]; rfl]
      rw [List.append_assoc] at h3
      exact h3
theorem rof_val {n : Nat} (hn : n < 18446744073709551616) : Ev (numeraryref02_Of.f (n : Int)) (D n) := by
  have h : (dg 10 n).length ≤ 20 := (dg_len b10 n 20).mpr (by omega)
  exact ev_eq numeraryref02_Of.f_eq (rof_loop n [] hn (by simp; omega))

/-! times a small number -/
theorem rtimes_tail (a : List Nat) (m : Nat) (hm : m < 1099511627776) : ∀ (c : Nat) (out : List Nat), c ≤ m → Dg 10 out → a.length ≤ out.length → out.length + (dg 10 c).length ≤ 1099511627776 →
    Ev (numeraryref02_Times.l0 (nl a) (m : Int) (nl out) (c : Int) (out.length : Int)) (D (val 10 out + 10 ^ out.length * c)) := by
  intro c
  induction c using Nat.strongRecOn with
  | _ c ih =>
    intro out hc ho hl hb
    refine ev_loop numeraryref02_Times.l0_eq numeraryref02_Times.l0_step ?_
    refine ev_neg (by rw [nl_length]; omega) ?_
    rcases Nat.eq_zero_or_pos c with rfl | h0
    · refine ev_neg (by omega) ?_
      rw [Nat.mul_zero, Nat.add_zero]
      exact (rtrim_val (by omega) ho).bind (ev_now rfl)
    · rw [dg_pos b10 h0] at hb
      simp only [List.length_cons] at hb
      refine ev_pos (by omega) (Ev.bind (rat_nl a out.length) (ev_pos (by (try simp only [nl_length, L_length, D_length, rd_nl, getD_nl, List.length_append, List.length_cons, List.length_nil, List.length_set, List.length_replicate, List.length_take, List.length_drop, Nat.zero_add, ge_iff_le, gt_iff_lt]); omega) ?_))
      rw [gd_ge hl, show IntKind.i64.wrap ((c : Int) + IntKind.i64.wrap (((0 : Nat) : Int) * (m : Int))) = (c : Int) by rw [show (((0 : Nat) : Int) * (m : Int)) = 0 by simp, wrap_id (x := 0) (by omega) (by omega), wrap_id] <;> omega]
      have h1 : IntKind.i64.wrap (Int.tdiv (c : Int) 10) = ((c / 10 : Nat) : Int) := by
        rw [Int.tdiv_eq_ediv_of_nonneg (by omega), wrap_id] <;> omega
      have h2 : Int.tmod (c : Int) 10 = ((c % 10 : Nat) : Int) := by
        rw [Int.tmod_eq_emod_of_nonneg (by omega)]; omega
      have h3 := ih (c / 10) (by omega) (out ++ [c % 10]) (by omega) (ho.append (Dg.cons (Nat.mod_lt _ (by decide)) (Dg.nil _))) (by simp; omega) (by simp only [List.length_append, List.length_cons, List.length_nil]; omega)
      rw [h1, h2, succ_wrap (by omega), show nl out ++ [((c % 10 : Nat) : Int)] = nl (out ++ [c % 10]) by rw [nl_append]; rfl]
      rw [val_snoc, List.length_append, List.length_cons, List.length_nil, Nat.zero_add] at h3
      have h4 : val 10 out + 10 ^ out.length * (c % 10) + 10 ^ (out.length + 1) * (c / 10) = val 10 out + 10 ^ out.length * c := by
        have := Nat.mod_add_div c 10
        rw [Nat.pow_succ]
        grind
      rw [h4] at h3
      exact h3
theorem rtimes_head (a : List Nat) (m : Nat) (hm : m < 1099511627776) (ha : Dg 10 a) (hb : a.length ≤ 549755813888) : ∀ (d c : Nat) (out : List Nat), out.length + d = a.length → c ≤ m → Dg 10 out → val 10 out + 10 ^ out.length * c = val 10 (a.take out.length) * m →
    Ev (numeraryref02_Times.l0 (nl a) (m : Int) (nl out) (c : Int) (out.length : Int)) (D (val 10 a * m)) := by
  intro d
  induction d with
  | zero =>
    intro c out hd hc ho hv
    have h1 : (dg 10 c).length ≤ 20 := (dg_len b10 c 20).mpr (by omega)
    have := rtimes_tail a m hm c out hc ho (by omega) (by omega)
    rw [hv, List.take_of_length_le (by omega)] at this
    exact this
  | succ d ih =>
    intro c out hd hc ho hv
    have hg := ha.gd (by decide) out.length
    refine ev_loop numeraryref02_Times.l0_eq numeraryref02_Times.l0_step ?_
    refine ev_pos (by rw [nl_length]; omega) (Ev.bind (rat_nl a out.length) (ev_pos (by (try simp only [nl_length, L_length, D_length, rd_nl, getD_nl, List.length_append, List.length_cons, List.length_nil, List.length_set, List.length_replicate, List.length_take, List.length_drop, Nat.zero_add, ge_iff_le, gt_iff_lt]); omega) ?_))
    obtain ⟨g, hge⟩ : ∃ g, gd a out.length = g := ⟨_, rfl⟩
    rw [hge] at hg ⊢
    have hgm : g * m ≤ 9 * m := Nat.mul_le_mul_right m (by omega)
    obtain ⟨p, hp⟩ : ∃ p, g * m = p := ⟨_, rfl⟩
    rw [hp] at hgm
    rw [wrap_mul (by rw [hp]; omega), hp, wrap_add (by omega), tdiv10, tmod10, wrap_nat (by omega), succ_wrap (by omega), nl_snoc]
    have h3 := ih ((c + p) / 10) (out ++ [(c + p) % 10]) (by simp only [List.length_append, List.length_cons, List.length_nil]; omega) (by omega) (ho.append (Dg.cons (Nat.mod_lt _ (by decide)) (Dg.nil _)))
    rw [val_snoc, List.length_append, List.length_cons, List.length_nil, Nat.zero_add] at h3
    refine h3 ?_
    rw [val_take_succ, hge]
    have := Nat.mod_add_div (c + p) 10
    rw [Nat.pow_succ]
    grind
theorem rtimes_val {a : List Nat} {m : Nat} (ha : Dg 10 a) (hb : a.length ≤ 549755813888) (hm : m < 1099511627776) : Ev (numeraryref02_Times.f (nl a) (m : Int)) (D (val 10 a * m)) :=
  ev_eq numeraryref02_Times.f_eq (rtimes_head a m hm ha hb a.length 0 [] (by simp) (Nat.zero_le _) (Dg.nil _) (by simp [val]))
theorem rtimes_D {n m : Nat} (hb : dn n ≤ 549755813888) (hm : m < 1099511627776) : Ev (numeraryref02_Times.f (D n) (m : Int)) (D (n * m)) := by
  have := rtimes_val (Dg_dg b10 n) hb hm
  rw [val_dg b10] at this
  exact this

/-! the sum -/
theorem radd_step (a b : List Nat) (ha : Dg 10 a) (hb : Dg 10 b) (c : Nat) (out : List Nat) (hl : out.length < 1099511627776) (hc : c ≤ 1) {r : List Int}
    (h : Ev (numeraryref02_Add.l0 (nl a) (nl b) (nl (out ++ [(c + gd a out.length + gd b out.length) % 10])) (((c + gd a out.length + gd b out.length) / 10 : Nat) : Int) ((out.length + 1 : Nat) : Int)) r) :
    Ev (M.bind (numeraryref02_at.f (nl a) (out.length : Int)) fun t1 => M.bind (numeraryref02_at.f (nl b) (out.length : Int)) fun t2 => if (nl out).length + ([(IntKind.i64.wrap ((IntKind.i64.wrap ((c : Int) + t1)) + t2)).tmod 10] : List Int).length ≤ 1099511627776 then numeraryref02_Add.l0 (nl a) (nl b) (nl out ++ ([(IntKind.i64.wrap ((IntKind.i64.wrap ((c : Int) + t1)) + t2)).tmod 10] : List Int)) (IntKind.i64.wrap ((IntKind.i64.wrap ((IntKind.i64.wrap ((c : Int) + t1)) + t2)).tdiv 10)) (IntKind.i64.wrap ((out.length : Int) + 1)) else M.none) r := by
  refine Ev.bind (rat_nl a out.length) (Ev.bind (rat_nl b out.length) (ev_pos (by (try simp only [nl_length, L_length, D_length, rd_nl, getD_nl, List.length_append, List.length_cons, List.length_nil, List.length_set, List.length_replicate, List.length_take, List.length_drop, Nat.zero_add, ge_iff_le, gt_iff_lt]); omega) ?_))
  have hg := ha.gd (by decide) out.length
  have hg2 := hb.gd (by decide) out.length
  obtain ⟨g, hge⟩ : ∃ g, gd a out.length = g := ⟨_, rfl⟩
  obtain ⟨g2, hge2⟩ : ∃ g, gd b out.length = g := ⟨_, rfl⟩
  rw [hge] at hg h ⊢
  rw [hge2] at hg2 h ⊢
  rw [show IntKind.i64.wrap (IntKind.i64.wrap ((c : Int) + (g : Int)) + (g2 : Int)) = ((c + g + g2 : Nat) : Int) by rw [wrap_id (x := (c : Int) + (g : Int)) (by omega) (by omega), wrap_id] <;> omega]
  have h1 : IntKind.i64.wrap (Int.tdiv ((c + g + g2 : Nat) : Int) 10) = (((c + g + g2) / 10 : Nat) : Int) := by
    rw [Int.tdiv_eq_ediv_of_nonneg (by omega), wrap_id] <;> omega
  have h2 : Int.tmod ((c + g + g2 : Nat) : Int) 10 = (((c + g + g2) % 10 : Nat) : Int) := by
    rw [Int.tmod_eq_emod_of_nonneg (by omega)]; omega
  rw [h1, h2, succ_wrap (by omega), show nl out ++ [(((c + g + g2) % 10 : Nat) : Int)] = nl (out ++ [(c + g + g2) % 10]) by rw [nl_append]; rfl]
  exact h
theorem radd_loop (a b : List Nat) (ha : Dg 10 a) (hb : Dg 10 b) (hl : a.length ≤ 549755813888) (hl2 : b.length ≤ 549755813888) : ∀ (d c : Nat) (out : List Nat), max a.length b.length + 1 ≤ out.length + d → out.length ≤ max a.length b.length + 1 → (out.length = max a.length b.length + 1 → c = 0) → c ≤ 1 → Dg 10 out → val 10 out + 10 ^ out.length * c = val 10 (a.take out.length) + val 10 (b.take out.length) →
    Ev (numeraryref02_Add.l0 (nl a) (nl b) (nl out) (c : Int) (out.length : Int)) (D (val 10 a + val 10 b)) := by
  intro d
  have fin : ∀ (c : Nat) (out : List Nat), max a.length b.length ≤ out.length → out.length ≤ max a.length b.length + 1 → c = 0 → Dg 10 out → val 10 out + 10 ^ out.length * c = val 10 (a.take out.length) + val 10 (b.take out.length) →
      Ev (numeraryref02_Add.l0 (nl a) (nl b) (nl out) (c : Int) (out.length : Int)) (D (val 10 a + val 10 b)) := by
    intro c out h1 h2 h3 ho hv
    subst h3
    refine ev_loop numeraryref02_Add.l0_eq numeraryref02_Add.l0_step ?_
    refine ev_neg (by rw [nl_length]; omega) (ev_neg (by rw [nl_length]; omega) ?_)
    refine ev_neg (by omega) ?_
    rw [List.take_of_length_le (by omega), List.take_of_length_le (by omega), Nat.mul_zero, Nat.add_zero] at hv
    rw [← hv]
    exact (rtrim_val (by omega) ho).bind (ev_now rfl)
  induction d with
  | zero =>
    intro c out h1 h2 h3 h4 ho hv
    exact fin c out (by omega) h2 (h3 (by omega)) ho hv
  | succ d ih =>
    intro c out h1 h2 h3 h4 ho hv
    have hg := ha.gd (by decide) out.length
    have hg2 := hb.gd (by decide) out.length
    have more : out.length ≤ max a.length b.length → Ev (M.bind (numeraryref02_at.f (nl a) (out.length : Int)) fun t1 => M.bind (numeraryref02_at.f (nl b) (out.length : Int)) fun t2 => if (nl out).length + ([(IntKind.i64.wrap ((IntKind.i64.wrap ((c : Int) + t1)) + t2)).tmod 10] : List Int).length ≤ 1099511627776 then numeraryref02_Add.l0 (nl a) (nl b) (nl out ++ ([(IntKind.i64.wrap ((IntKind.i64.wrap ((c : Int) + t1)) + t2)).tmod 10] : List Int)) (IntKind.i64.wrap ((IntKind.i64.wrap ((IntKind.i64.wrap ((c : Int) + t1)) + t2)).tdiv 10)) (IntKind.i64.wrap ((out.length : Int) + 1)) else M.none) (D (val 10 a + val 10 b)) := by
      intro hm
      refine radd_step a b ha hb c out (by omega) h4 ?_
      have h := ih ((c + gd a out.length + gd b out.length) / 10) (out ++ [(c + gd a out.length + gd b out.length) % 10]) (by simp only [List.length_append, List.length_cons, List.length_nil]; omega) (by simp only [List.length_append, List.length_cons, List.length_nil]; omega)
        (by
          simp only [List.length_append, List.length_cons, List.length_nil]
          intro h
          rw [gd_ge (l := a) (by omega), gd_ge (l := b) (by omega)]
          omega) (by omega) (ho.append (Dg.cons (Nat.mod_lt _ (by decide)) (Dg.nil _)))
      rw [val_snoc, List.length_append, List.length_cons, List.length_nil, Nat.zero_add] at h
      refine h ?_
      rw [val_take_succ, val_take_succ]
      have := Nat.mod_add_div (c + gd a out.length + gd b out.length) 10
      rw [Nat.pow_succ]
      grind
    refine ev_loop numeraryref02_Add.l0_eq numeraryref02_Add.l0_step ?_
    by_cases c1 : out.length < a.length
    · exact ev_pos (by rw [nl_length]; omega) (more (by omega))
    · refine ev_neg (by rw [nl_length]; omega) ?_
      by_cases c2 : out.length < b.length
      · exact ev_pos (by rw [nl_length]; omega) (more (by omega))
      · refine ev_neg (by rw [nl_length]; omega) ?_
        by_cases c3 : c = 0
        · subst c3
          refine ev_neg (by omega) ?_
          have hv2 := hv
          rw [List.take_of_length_le (by omega), List.take_of_length_le (by omega), Nat.mul_zero, Nat.add_zero] at hv2
          rw [← hv2]
          exact (rtrim_val (by omega) ho).bind (ev_now rfl)
        · have hm : out.length ≤ max a.length b.length := by
            rcases Nat.lt_or_ge (max a.length b.length) out.length with h | h
            · exact absurd (h3 (by omega)) c3
            · exact h
          exact ev_pos (by omega) (more hm)
theorem radd_val {a b : List Nat} (ha : Dg 10 a) (hb : Dg 10 b) (hl : a.length ≤ 549755813888) (hl2 : b.length ≤ 549755813888) : Ev (numeraryref02_Add.f (nl a) (nl b)) (D (val 10 a + val 10 b)) :=
  ev_eq numeraryref02_Add.f_eq (radd_loop a b ha hb hl hl2 (max a.length b.length + 1) 0 [] (by simp) (by simp) (by simp) (by omega) (Dg.nil _) (by simp [val]))
theorem radd_D {m n : Nat} (hl : dn m ≤ 549755813888) (hl2 : dn n ≤ 549755813888) : Ev (numeraryref02_Add.f (D m) (D n)) (D (m + n)) := by
  have := radd_val (Dg_dg b10 m) (Dg_dg b10 n) hl hl2
  rw [val_dg b10, val_dg b10] at this
  exact this

/-! which is greater -/
def cmpI (m n : Nat) : Int := if m < n then -1 else if n < m then 1 else 0
theorem rcmp_loop (m n : Nat) (hl : dn m = dn n) (hb : dn m ≤ 1099511627776) : ∀ i, i ≤ dn m → (dg 10 m).drop i = (dg 10 n).drop i → Ev (numeraryref02_Cmp.l0 (D m) (D n) ((i : Int) - 1)) (cmpI m n) := by
  intro i
  induction i with
  | zero =>
    intro h1 h2
    rw [List.drop_zero, List.drop_zero] at h2
    have := dg_inj b10 h2
    subst this
    refine ev_loop numeraryref02_Cmp.l0_eq numeraryref02_Cmp.l0_step ?_
    exact ev_neg (by omega) (ev_now (by unfold cmpI; rw [if_neg (Nat.lt_irrefl _), if_neg (Nat.lt_irrefl _)]))
  | succ i ih =>
    intro h1 h2
    have e : (((i + 1 : Nat) : Int) - 1) = (i : Int) := by omega
    rw [e]
    refine ev_loop numeraryref02_Cmp.l0_eq numeraryref02_Cmp.l0_step ?_
    unfold dn at h1 hl hb
    refine ev_pos (by omega) (ev_pos (by omega) (ev_pos (by rw [D_length]; unfold dn; omega) (ev_pos (by omega) (ev_pos (by rw [D_length]; unfold dn; omega) ?_))))
    unfold D
    by_cases c1 : gd (dg 10 m) i < gd (dg 10 n) i
    · refine ev_pos (by rw [rd_nl, rd_nl]; omega) (ev_now ?_)
      have := val_cmp (by decide) (Dg_dg b10 m) (Dg_dg b10 n) hl (by omega) h2 c1
      rw [val_dg b10, val_dg b10] at this
      unfold cmpI; rw [if_pos this]
    · refine ev_neg (by rw [rd_nl, rd_nl]; omega) (ev_pos (by omega) (ev_pos (by (try simp only [nl_length, L_length, D_length, rd_nl, getD_nl, List.length_append, List.length_cons, List.length_nil, List.length_set, List.length_replicate, List.length_take, List.length_drop, Nat.zero_add, ge_iff_le, gt_iff_lt]); omega) (ev_pos (by omega) (ev_pos (by (try simp only [nl_length, L_length, D_length, rd_nl, getD_nl, List.length_append, List.length_cons, List.length_nil, List.length_set, List.length_replicate, List.length_take, List.length_drop, Nat.zero_add, ge_iff_le, gt_iff_lt]); omega) ?_))))
      by_cases c2 : gd (dg 10 n) i < gd (dg 10 m) i
      · refine ev_pos (by rw [rd_nl, rd_nl]; omega) (ev_now ?_)
        have := val_cmp (by decide) (Dg_dg b10 n) (Dg_dg b10 m) hl.symm (by omega) h2.symm c2
        rw [val_dg b10, val_dg b10] at this
        unfold cmpI; rw [if_neg (by omega), if_pos this]
      · refine ev_neg (by rw [rd_nl, rd_nl]; omega) ?_
        have h3 := ih (by unfold dn; omega) (by rw [drop_cons _ i (by omega), drop_cons _ i (by omega), h2, show gd (dg 10 m) i = gd (dg 10 n) i by omega])
        rw [wrap_id (by omega) (by omega)]
        exact h3
theorem rcmp_D {m n : Nat} (hb : dn m ≤ 1099511627776) (hb2 : dn n ≤ 1099511627776) : Ev (numeraryref02_Cmp.f (D m) (D n)) (cmpI m n) := by
  refine ev_eq numeraryref02_Cmp.f_eq ?_
  rw [D_length, D_length]
  by_cases c1 : dn m = dn n
  · refine ev_neg (by omega) ?_
    have := rcmp_loop m n c1 hb (dn m) (Nat.le_refl _) (by rw [List.drop_of_length_le (by unfold dn; omega), List.drop_of_length_le (by rw [c1]; unfold dn; omega)])
    rw [wrap_id (by omega) (by omega)]
    exact this
  · refine ev_pos (by omega) ?_
    by_cases c2 : dn m < dn n
    · exact ev_pos (by omega) (ev_now (by have := len_cmp b10 c2; unfold cmpI; rw [if_pos this]))
    · exact ev_neg (by omega) (ev_now (by have := len_cmp b10 (m := n) (n := m) (by unfold dn at *; omega); unfold cmpI; rw [if_neg (by omega), if_pos this]))
end Go.Proofs.YtlnbcpcnpofnoaaGreatDoor.F

/- The program's natural numbers: bits, comparisons, sums, differences, products, powers. -/
namespace Go.Proofs.YtlnbcpcnpofnoaaGreatDoor.F
open Go Go.Proofs.YtlnbcpcnpofnoaaGreatDoor.E
set_option linter.unusedVariables false
set_option linter.unusedSimpArgs false

/-! ### bit operations -/
theorem wrap_u64_nat {n : Nat} (h : n < 18446744073709551616) : IntKind.u64.wrap (n : Int) = (n : Int) := u64_id (by omega) (by omega)
theorem bits_or64 {a b : Nat} (ha : a < 18446744073709551616) (hb : b < 18446744073709551616) : IntKind.u64.wrap ((BitVec.ofInt IntKind.u64.bits (a : Int) ||| BitVec.ofInt IntKind.u64.bits (b : Int)).toNat) = ((a ||| b : Nat) : Int) := by
  have h1 : (BitVec.ofInt IntKind.u64.bits (a : Int)).toNat = a := by simp [IntKind.bits]; omega
  have h2 : (BitVec.ofInt IntKind.u64.bits (b : Int)).toNat = b := by simp [IntKind.bits]; omega
  simp only [BitVec.toNat_or, h1, h2]
  exact wrap_u64_nat (Nat.or_lt_two_pow (n := 64) ha hb)
theorem bits_and64 {a b : Nat} (ha : a < 18446744073709551616) (hb : b < 18446744073709551616) : IntKind.u64.wrap ((BitVec.ofInt IntKind.u64.bits (a : Int) &&& BitVec.ofInt IntKind.u64.bits (b : Int)).toNat) = ((a &&& b : Nat) : Int) := by
  have h1 : (BitVec.ofInt IntKind.u64.bits (a : Int)).toNat = a := by simp [IntKind.bits]; omega
  have h2 : (BitVec.ofInt IntKind.u64.bits (b : Int)).toNat = b := by simp [IntKind.bits]; omega
  simp only [BitVec.toNat_and, h1, h2]
  exact wrap_u64_nat (Nat.and_lt_two_pow (n := 64) a hb)
theorem bits_and_i64 {a b : Nat} (ha : a < 9223372036854775808) (hb : b < 9223372036854775808) : IntKind.i64.wrap ((BitVec.ofInt IntKind.i64.bits (a : Int) &&& BitVec.ofInt IntKind.i64.bits (b : Int)).toNat) = ((a &&& b : Nat) : Int) := by
  have h1 : (BitVec.ofInt IntKind.i64.bits (a : Int)).toNat = a := by simp [IntKind.bits]; omega
  have h2 : (BitVec.ofInt IntKind.i64.bits (b : Int)).toNat = b := by simp [IntKind.bits]; omega
  simp only [BitVec.toNat_and, h1, h2]
  have h3 : a &&& b < 2 ^ 63 := Nat.and_lt_two_pow (n := 63) a hb
  exact wrap_id (by omega) (by omega)
theorem and_one {a : Nat} (ha : a < 9223372036854775808) : IntKind.i64.wrap ((BitVec.ofInt IntKind.i64.bits (a : Int) &&& BitVec.ofInt IntKind.i64.bits 1).toNat) = ((a % 2 : Nat) : Int) := by
  have := bits_and_i64 ha (b := 1) (by decide)
  rw [Nat.and_one_is_mod] at this
  exact this
theorem bits_and32 {a b : Nat} (ha : a < 4294967296) (hb : b < 4294967296) : IntKind.u32.wrap ((BitVec.ofInt IntKind.u32.bits (a : Int) &&& BitVec.ofInt IntKind.u32.bits (b : Int)).toNat) = ((a &&& b : Nat) : Int) := by
  have h1 : (BitVec.ofInt IntKind.u32.bits (a : Int)).toNat = a := by simp [IntKind.bits]; omega
  have h2 : (BitVec.ofInt IntKind.u32.bits (b : Int)).toNat = b := by simp [IntKind.bits]; omega
  have h3 : a &&& b < 2 ^ 32 := Nat.and_lt_two_pow (n := 32) a hb
  simp only [BitVec.toNat_and, h1, h2]
  exact (u32_def _).trans (Int.emod_eq_of_lt (by omega) (by omega))
theorem bits_or32 {a b : Nat} (ha : a < 4294967296) (hb : b < 4294967296) : IntKind.u32.wrap ((BitVec.ofInt IntKind.u32.bits (a : Int) ||| BitVec.ofInt IntKind.u32.bits (b : Int)).toNat) = ((a ||| b : Nat) : Int) := by
  have h1 : (BitVec.ofInt IntKind.u32.bits (a : Int)).toNat = a := by simp [IntKind.bits]; omega
  have h2 : (BitVec.ofInt IntKind.u32.bits (b : Int)).toNat = b := by simp [IntKind.bits]; omega
  have h3 : a ||| b < 2 ^ 32 := Nat.or_lt_two_pow (n := 32) ha hb
  simp only [BitVec.toNat_or, h1, h2]
  exact (u32_def _).trans (Int.emod_eq_of_lt (by omega) (by omega))
theorem bits_xor32 {a b : Nat} (ha : a < 4294967296) (hb : b < 4294967296) : IntKind.u32.wrap ((BitVec.ofInt IntKind.u32.bits (a : Int) ^^^ BitVec.ofInt IntKind.u32.bits (b : Int)).toNat) = ((a ^^^ b : Nat) : Int) := by
  have h1 : (BitVec.ofInt IntKind.u32.bits (a : Int)).toNat = a := by simp [IntKind.bits]; omega
  have h2 : (BitVec.ofInt IntKind.u32.bits (b : Int)).toNat = b := by simp [IntKind.bits]; omega
  have h3 : a ^^^ b < 2 ^ 32 := Nat.xor_lt_two_pow (n := 32) ha hb
  simp only [BitVec.toNat_xor, h1, h2]
  exact (u32_def _).trans (Int.emod_eq_of_lt (by omega) (by omega))

/-! ### sums and differences of limbs -/
theorem add32_nat {a b c : Nat} (ha : a < 4294967296) (hb : b < 4294967296) (hc : c ≤ 1) : Ev (mbits_Add32.f (a : Int) (b : Int) (c : Int)) ((((a + b + c) % 4294967296 : Nat) : Int), (((a + b + c) / 4294967296 : Nat) : Int)) := by
  refine ev_eq mbits_Add32.f_eq (ev_now ?_)
  rw [wrap_u64_nat (n := a) (by omega), wrap_u64_nat (n := b) (by omega), wrap_u64_nat (n := c) (by omega), show (a : Int) + (b : Int) = ((a + b : Nat) : Int) by omega, wrap_u64_nat (by omega), show ((a + b : Nat) : Int) + (c : Int) = ((a + b + c : Nat) : Int) by omega, wrap_u64_nat (by omega), u32_def, u32_def, Int.fdiv_eq_ediv_of_nonneg _ (by decide)]
  congr 1
  omega
/-- the greatest bit of a limb, of an operation on limbs -/
theorem top_and (a b : Nat) : (a &&& b) / 2147483648 = (a / 2147483648) &&& (b / 2147483648) := by
  have := Nat.shiftRight_and_distrib (a := a) (b := b) (i := 31)
  rw [Nat.shiftRight_eq_div_pow, Nat.shiftRight_eq_div_pow, Nat.shiftRight_eq_div_pow] at this
  exact this
theorem top_or (a b : Nat) : (a ||| b) / 2147483648 = (a / 2147483648) ||| (b / 2147483648) := by
  have := Nat.shiftRight_or_distrib (a := a) (b := b) (i := 31)
  rw [Nat.shiftRight_eq_div_pow, Nat.shiftRight_eq_div_pow, Nat.shiftRight_eq_div_pow] at this
  exact this
theorem top_xor (a b : Nat) : (a ^^^ b) / 2147483648 = (a / 2147483648) ^^^ (b / 2147483648) := by
  have := Nat.shiftRight_xor_distrib (a := a) (b := b) (i := 31)
  rw [Nat.shiftRight_eq_div_pow, Nat.shiftRight_eq_div_pow, Nat.shiftRight_eq_div_pow] at this
  exact this
theorem sub32_nat {a b c : Nat} (ha : a < 4294967296) (hb : b < 4294967296) (hc : c ≤ 1) : Ev (mbits_Sub32.f (a : Int) (b : Int) (c : Int)) (((if a < b + c then a + 4294967296 - b - c else a - b - c : Nat) : Int), ((if a < b + c then 1 else 0 : Nat) : Int)) := by
  refine ev_eq mbits_Sub32.f_eq (ev_now ?_)
  obtain ⟨d, hd⟩ : ∃ d : Nat, d = (if a < b + c then a + 4294967296 - b - c else a - b - c) := ⟨_, rfl⟩
  have e1 : IntKind.u32.wrap (IntKind.u32.wrap ((a : Int) - (b : Int)) - (c : Int)) = (d : Int) := by rw [hd, u32_def, u32_def]; split <;> omega
  have hdl : d < 4294967296 := by rw [hd]; split <;> omega
  rw [e1, ← hd]
  have x1 := bits_xor32 (a := 4294967295) (by omega) ha
  have x2 := bits_xor32 ha hb
  have l1 : 4294967295 ^^^ a < 4294967296 := Nat.xor_lt_two_pow (n := 32) (by omega) ha
  have l2 : a ^^^ b < 4294967296 := Nat.xor_lt_two_pow (n := 32) ha hb
  have x3 := bits_xor32 (a := 4294967295) (by omega) l2
  have l3 : 4294967295 ^^^ (a ^^^ b) < 4294967296 := Nat.xor_lt_two_pow (n := 32) (by omega) l2
  have a1 := bits_and32 l1 hb
  have a2 := bits_and32 l3 hdl
  have l4 : (4294967295 ^^^ a) &&& b < 4294967296 := Nat.and_lt_two_pow (n := 32) _ hb
  have l5 : (4294967295 ^^^ (a ^^^ b)) &&& d < 4294967296 := Nat.and_lt_two_pow (n := 32) _ hdl
  have o1 := bits_or32 l4 l5
  rw [show (4294967295 : Int) = ((4294967295 : Nat) : Int) by rfl, x1, a1, x2, x3, a2, o1]
  have t : ((4294967295 ^^^ a) &&& b ||| (4294967295 ^^^ (a ^^^ b)) &&& d) / 2147483648 = if a < b + c then 1 else 0 := by
    rw [top_or, top_and, top_and, top_xor, top_xor, top_xor]
    have ta : a / 2147483648 = 0 ∨ a / 2147483648 = 1 := by omega
    have tb : b / 2147483648 = 0 ∨ b / 2147483648 = 1 := by omega
    have td : d / 2147483648 = 0 ∨ d / 2147483648 = 1 := by omega
    clear x1 x2 x3 a1 a2 o1 l1 l2 l3 l4 l5 e1
    by_cases hlt : a < b + c
    · rw [if_pos hlt] at hd ⊢
      rcases ta with ta | ta <;> rcases tb with tb | tb <;> rcases td with td | td <;> rw [ta, tb, td] <;> first | rfl | (exfalso; omega)
    · rw [if_neg hlt] at hd ⊢
      rcases ta with ta | ta <;> rcases tb with tb | tb <;> rcases td with td | td <;> rw [ta, tb, td] <;> first | rfl | (exfalso; omega)
  have t2 : (((4294967295 ^^^ a) &&& b ||| (4294967295 ^^^ (a ^^^ b)) &&& d : Nat) : Int).fdiv (2 ^ 31) = ((if a < b + c then 1 else 0 : Nat) : Int) := by rw [← t, Int.fdiv_eq_ediv_of_nonneg _ (by decide)]; omega
  rw [t2]

/-! ### comparisons -/
theorem cmpint_eq (a b : Int) : Ev (cmp_Compare_int.f a b) (if a < b then -1 else if b < a then 1 else 0) := by
  refine ev_eq cmp_Compare_int.f_eq (Ev.bind (ev_eq cmp_isNaN_int.f_eq (ev_now rfl)) (Ev.bind (ev_eq cmp_isNaN_int.f_eq (ev_now rfl)) ?_))
  refine ev_neg (by simp) (ev_neg (by simp) ?_)
  by_cases h : a < b
  · exact ev_pos h (ev_now (by rw [if_pos h]))
  · refine ev_neg h ?_
    by_cases h2 : a > b
    · exact ev_pos h2 (ev_now (by rw [if_neg h, if_pos h2]))
    · exact ev_neg h2 (ev_now (by rw [if_neg h, if_neg h2]))
theorem cmpu32_eq (a b : Int) : Ev (cmp_Compare_uint32.f a b) (if a < b then -1 else if b < a then 1 else 0) := by
  refine ev_eq cmp_Compare_uint32.f_eq (Ev.bind (ev_eq cmp_isNaN_uint32.f_eq (ev_now rfl)) (Ev.bind (ev_eq cmp_isNaN_uint32.f_eq (ev_now rfl)) ?_))
  refine ev_neg (by simp) (ev_neg (by simp) ?_)
  by_cases h : a < b
  · exact ev_pos h (ev_now (by rw [if_pos h]))
  · refine ev_neg h ?_
    by_cases h2 : a > b
    · exact ev_pos h2 (ev_now (by rw [if_neg h, if_pos h2]))
    · exact ev_neg h2 (ev_now (by rw [if_neg h, if_neg h2]))
theorem ncmp_loop (m n : Nat) (hl : ln m = ln n) (hb : ln m ≤ 1099511627776) : ∀ i, i ≤ ln m → (dg 4294967296 m).drop i = (dg 4294967296 n).drop i → Ev (nat_Cmp.l0 (L m) (L n) ((i : Int) - 1)) (cmpI m n) := by
  intro i
  induction i with
  | zero =>
    intro h1 h2
    rw [List.drop_zero, List.drop_zero] at h2
    have := dg_inj b32 h2
    subst this
    refine ev_loop nat_Cmp.l0_eq nat_Cmp.l0_step ?_
    exact ev_neg (by omega) (ev_now (by unfold cmpI; rw [if_neg (Nat.lt_irrefl _), if_neg (Nat.lt_irrefl _)]))
  | succ i ih =>
    intro h1 h2
    have e : (((i + 1 : Nat) : Int) - 1) = (i : Int) := by omega
    rw [e]
    refine ev_loop nat_Cmp.l0_eq nat_Cmp.l0_step ?_
    unfold ln at h1 hl hb
    refine ev_pos (by omega) (ev_pos (by omega) (ev_pos (by rw [L_length]; unfold ln; omega) (ev_pos (by omega) (ev_pos (by rw [L_length]; unfold ln; omega) ?_))))
    unfold L
    rw [rd_nl, rd_nl]
    have e2 := cmpu32_eq ((gd (dg 4294967296 m) i : Nat) : Int) ((gd (dg 4294967296 n) i : Nat) : Int)
    by_cases c1 : gd (dg 4294967296 m) i < gd (dg 4294967296 n) i
    · rw [if_pos (by omega)] at e2
      refine Ev.bind e2 (ev_pos (by omega) (ev_now ?_))
      have := val_cmp (by decide) (Dg_dg b32 m) (Dg_dg b32 n) hl (by omega) h2 c1
      rw [val_dg b32, val_dg b32] at this
      unfold cmpI; rw [if_pos this]
    · rw [if_neg (by omega)] at e2
      by_cases c2 : gd (dg 4294967296 n) i < gd (dg 4294967296 m) i
      · rw [if_pos (by omega)] at e2
        refine Ev.bind e2 (ev_pos (by omega) (ev_now ?_))
        have := val_cmp (by decide) (Dg_dg b32 n) (Dg_dg b32 m) hl.symm (by omega) h2.symm c2
        rw [val_dg b32, val_dg b32] at this
        unfold cmpI; rw [if_neg (by omega), if_pos this]
      · rw [if_neg (by omega)] at e2
        refine Ev.bind e2 (ev_neg (by omega) ?_)
        have h3 := ih (by unfold ln; omega) (by rw [drop_cons _ i (by omega), drop_cons _ i (by omega), h2, show gd (dg 4294967296 m) i = gd (dg 4294967296 n) i by omega])
        rw [wrap_id (by omega) (by omega)]
        exact h3
theorem ncmp {m n : Nat} (hb : ln m ≤ 1099511627776) (hb2 : ln n ≤ 1099511627776) : Ev (nat_Cmp.f (L m) (L n)) (cmpI m n) := by
  refine ev_eq nat_Cmp.f_eq ?_
  rw [L_length, L_length]
  have e2 := cmpint_eq (ln m : Int) (ln n : Int)
  by_cases c1 : ln m = ln n
  · rw [if_neg (by omega), if_neg (by omega)] at e2
    refine Ev.bind e2 (ev_neg (by omega) ?_)
    have := ncmp_loop m n c1 hb (ln m) (Nat.le_refl _) (by rw [List.drop_of_length_le (by unfold ln; omega), List.drop_of_length_le (by rw [c1]; unfold ln; omega)])
    rw [wrap_id (by omega) (by omega)]
    exact this
  · by_cases c2 : ln m < ln n
    · rw [if_pos (by omega)] at e2
      exact Ev.bind e2 (ev_pos (by omega) (ev_now (by have := len_cmp b32 c2; unfold cmpI; rw [if_pos this])))
    · rw [if_neg (by omega), if_pos (by omega)] at e2
      exact Ev.bind e2 (ev_pos (by omega) (ev_now (by have := len_cmp b32 (m := n) (n := m) (by unfold ln at *; omega); unfold cmpI; rw [if_neg (by omega), if_pos this])))

/-! ### sums -/
theorem nadd_loop (a b : List Nat) (ha : Dg 4294967296 a) (hb : Dg 4294967296 b) (w : Nat) (hw : w ≤ 1099511627776) (hla : a.length < w) (hlb : b.length < w) : ∀ (d i c : Nat) (out : List Nat), i + d = w → out.length = w → c ≤ 1 → (i = w → c = 0) → Dg 4294967296 out → val 4294967296 (out.take i) + 4294967296 ^ i * c = val 4294967296 (a.take i) + val 4294967296 (b.take i) →
    Ev (nat_Add.l0 (nl a) (nl b) [] (nl out) (c : Int) (w : Int) (i : Int)) (L (val 4294967296 a + val 4294967296 b)) := by
  intro d
  induction d with
  | zero =>
    intro i c out hi ho hc hz hdo hv
    have hcz := hz (by omega)
    subst hcz
    refine ev_loop nat_Add.l0_eq nat_Add.l0_step ?_
    refine ev_neg (by omega) ?_
    rw [List.take_of_length_le (by omega), List.take_of_length_le (by omega), List.take_of_length_le (by omega), Nat.mul_zero, Nat.add_zero] at hv
    rw [← hv]
    exact (made_val (by omega) hdo).bind (ev_now rfl)
  | succ d ih =>
    intro i c out hi ho hc hz hdo hv
    have hg := ha.gd (by decide) i
    have hg2 := hb.gd (by decide) i
    refine ev_loop nat_Add.l0_eq nat_Add.l0_step ?_
    refine ev_pos (by omega) (Ev.bind (nat_at_nl a i) (Ev.bind (nat_at_nl b i) (Ev.bind (add32_nat hg hg2 hc) (ev_pos (by omega) (ev_pos (by rw [nl_length]; omega) ?_)))))
    rw [Int.toNat_natCast, nl_set, succ_wrap (by omega)]
    refine ih (i + 1) ((gd a i + gd b i + c) / 4294967296) (out.set i ((gd a i + gd b i + c) % 4294967296)) (by omega) (by rw [List.length_set]; omega) (by omega) ?_ (hdo.set i (Nat.mod_lt _ (by decide))) ?_
    · intro h
      have hv2 := hv
      rw [gd_ge (l := a) (by omega), gd_ge (l := b) (by omega)]
      omega
    · rw [take_set_succ _ _ _ (by omega), val_snoc, List.length_take, Nat.min_eq_left (by omega), val_take_succ, val_take_succ]
      have := Nat.mod_add_div (gd a i + gd b i + c) 4294967296
      rw [Nat.pow_succ]
      grind
theorem nadd {m n : Nat} (hl : ln m ≤ 549755813888) (hl2 : ln n ≤ 549755813888) : Ev (nat_Add.f (L m) (L n)) (L (m + n)) := by
  have hx : mxI ((L m).length : Int) ((L n).length : Int) = ((max (ln m) (ln n) : Nat) : Int) := by rw [L_length, L_length]; unfold mxI; split <;> omega
  refine ev_eq nat_Add.f_eq ?_
  rw [hx, succ_wrap (by omega), Int.toNat_natCast]
  refine ev_pos (by omega) (ev_pos (by omega) ?_)
  have h := nadd_loop (dg 4294967296 m) (dg 4294967296 n) (Dg_dg b32 m) (Dg_dg b32 n) (max (ln m) (ln n) + 1) (by omega) (by unfold ln; omega) (by unfold ln; omega) (max (ln m) (ln n) + 1) 0 0 (List.replicate (max (ln m) (ln n) + 1) 0) (by omega) (by rw [List.length_replicate]) (by omega) (by omega) (Dg.replicate (by decide) _) (by simp [val])
  rw [val_dg b32, val_dg b32] at h
  rw [show List.replicate (max (ln m) (ln n) + 1) (0 : Int) = nl (List.replicate (max (ln m) (ln n) + 1) 0) from nl_replicate _ 0, nl_length, List.length_replicate]
  exact h

/-! ### differences -/
end Go.Proofs.YtlnbcpcnpofnoaaGreatDoor.F

/- Products, powers, bits, small values; the document's differences, products and numbers of limbs. -/
namespace Go.Proofs.YtlnbcpcnpofnoaaGreatDoor.F
open Go Go.Proofs.YtlnbcpcnpofnoaaGreatDoor.E
set_option linter.unusedVariables false
set_option linter.unusedSimpArgs false

/-! ### the document's difference -/
/-! ### how long decimals are -/
theorem dn_le_ln (n : Nat) : dn n ≤ 10 * ln n := by
  refine (dg_len b10 n _).mpr ?_
  have h := dg_lt b32 n
  have h2 : 4294967296 ^ ln n ≤ 10 ^ (10 * ln n) := by rw [Nat.pow_mul]; exact Nat.pow_le_pow_left (by decide) _
  exact Nat.lt_of_lt_of_le h h2

theorem len_mul {B : Nat} (hB : 2 ≤ B) (a b : Nat) : (dg B (a * b)).length ≤ (dg B a).length + (dg B b).length := by
  refine (dg_len hB _ _).mpr ?_
  rw [Nat.pow_add]
  exact Nat.mul_lt_mul'' (dg_lt hB a) (dg_lt hB b)
theorem len_add {B : Nat} (hB : 2 ≤ B) (a b : Nat) : (dg B (a + b)).length ≤ max (dg B a).length (dg B b).length + 1 := by
  refine (dg_len hB _ _).mpr ?_
  have h1 := Nat.lt_of_lt_of_le (dg_lt hB a) (Nat.pow_le_pow_right (n := B) (by omega) (Nat.le_max_left _ (dg B b).length))
  have h2 := Nat.lt_of_lt_of_le (dg_lt hB b) (Nat.pow_le_pow_right (n := B) (by omega) (Nat.le_max_right (dg B a).length _))
  rw [Nat.pow_succ]
  have := Nat.mul_le_mul_left (B ^ max (dg B a).length (dg B b).length) hB
  omega
theorem ln_mul (a b : Nat) : ln (a * b) ≤ ln a + ln b := len_mul b32 a b
theorem dn_mul (a b : Nat) : dn (a * b) ≤ dn a + dn b := len_mul b10 a b
theorem ln_add (a b : Nat) : ln (a + b) ≤ max (ln a) (ln b) + 1 := len_add b32 a b
theorem dn_add (a b : Nat) : dn (a + b) ≤ max (dn a) (dn b) + 1 := len_add b10 a b
theorem ln_mono {a b : Nat} (h : a ≤ b) : ln a ≤ ln b := dg_len_mono b32 h
theorem dn_mono {a b : Nat} (h : a ≤ b) : dn a ≤ dn b := dg_len_mono b10 h
theorem ln_small {n : Nat} (h : n < 18446744073709551616) : ln n ≤ 2 := (dg_len b32 n 2).mpr (by omega)
theorem dn_small {n : Nat} (h : n < 18446744073709551616) : dn n ≤ 20 := (dg_len b10 n 20).mpr (by omega)
theorem ln_val {l : List Nat} (hd : Dg 4294967296 l) : ln (val 4294967296 l) ≤ l.length := (dg_len b32 _ _).mpr (val_lt (by decide) hd)
theorem dn_val {l : List Nat} (hd : Dg 10 l) : dn (val 10 l) ≤ l.length := (dg_len b10 _ _).mpr (val_lt (by decide) hd)

/-! ### numbers of limbs -/
/-! ### the document's product -/
theorem u32_nat (n : Nat) : IntKind.u32.wrap (n : Int) = ((n % 4294967296 : Nat) : Int) := by rw [u32_def]; omega
theorem fdiv32 (n : Nat) : (n : Int).fdiv (2 ^ 32) = ((n / 4294967296 : Nat) : Int) := by rw [Int.fdiv_eq_ediv_of_nonneg _ (by decide)]; omega
theorem fdiv1 (n : Nat) : (n : Int).fdiv (2 ^ 1) = ((n / 2 : Nat) : Int) := by rw [Int.fdiv_eq_ediv_of_nonneg _ (by decide)]; omega
theorem fdiv16 (n : Nat) : (n : Int).fdiv (2 ^ 16) = ((n / 65536 : Nat) : Int) := by rw [Int.fdiv_eq_ediv_of_nonneg _ (by decide)]; omega
theorem fdiv8 (n : Nat) : (n : Int).fdiv (2 ^ 8) = ((n / 256 : Nat) : Int) := by rw [Int.fdiv_eq_ediv_of_nonneg _ (by decide)]; omega
/-! ### the program's product -/
theorem mul_step {c u v o : Nat} (hc : c < 4294967296) (hu : u < 4294967296) (hv : v < 4294967296) (ho : o < 4294967296) :
    IntKind.u64.wrap ((c : Int) + (IntKind.u64.wrap ((IntKind.u64.wrap ((IntKind.u64.wrap (u : Int)) * (IntKind.u64.wrap (v : Int)))) + (IntKind.u64.wrap (o : Int))))) = ((c + (u * v + o) : Nat) : Int) ∧ (c + (u * v + o)) / 4294967296 < 4294967296 := by
  have hp : u * v ≤ 4294967295 * 4294967295 := Nat.mul_le_mul (by omega) (by omega)
  obtain ⟨p, hpp⟩ : ∃ p, p = u * v := ⟨_, rfl⟩
  rw [wrap_u64_nat (n := u) (by omega), wrap_u64_nat (n := v) (by omega), wrap_u64_nat (n := o) (by omega), show (u : Int) * (v : Int) = ((u * v : Nat) : Int) from (Int.natCast_mul u v).symm]
  rw [← hpp] at hp ⊢
  rw [wrap_u64_nat (by omega), show (p : Int) + (o : Int) = ((p + o : Nat) : Int) from (Int.natCast_add _ _).symm, wrap_u64_nat (by omega), show (c : Int) + ((p + o : Nat) : Int) = ((c + (p + o) : Nat) : Int) from (Int.natCast_add _ _).symm, wrap_u64_nat (by omega)]
  exact ⟨rfl, by omega⟩
theorem mul_inner (x y : List Nat) (hx : Dg 4294967296 x) (hy : Dg 4294967296 y) (hlx : x.length ≤ 549755813888) (hly : y.length ≤ 549755813888) (i : Nat) (hi : i < x.length) (T : Nat) {r : List Int}
    (nxt : ∀ out, out.length = x.length + y.length → Dg 4294967296 out → (∀ j, i + 1 + y.length ≤ j → gd out j = 0) → val 4294967296 out = T + 4294967296 ^ i * (gd x i * val 4294967296 y) →
      Ev (times_Mul.l0 [] (nl y) (nl out) (nl x) (x.length : Int) ((i + 1 : Nat) : Int)) r) :
    ∀ (d j c : Nat) (out : List Nat), j + d = y.length → out.length = x.length + y.length → Dg 4294967296 out → (∀ j, i + y.length ≤ j → gd out j = 0) → c < 4294967296 → val 4294967296 out + 4294967296 ^ (i + j) * c = T + 4294967296 ^ i * (gd x i * val 4294967296 (y.take j)) →
      Ev (times_Mul.l1 [] (nl y) (nl out) (i : Int) ((gd x i : Nat) : Int) (c : Int) (nl x) (x.length : Int) (i : Int) (nl y) (y.length : Int) (j : Int)) r := by
  intro d
  induction d with
  | zero =>
    intro j c out hj ho hd hz hc hv
    have hj : j = y.length := by omega
    subst hj
    refine ev_loop times_Mul.l1_eq times_Mul.l1_step ?_
    refine ev_neg (by omega) ?_
    rw [nl_length, wrap_add (by omega), Int.toNat_natCast, u32_id (x := (c : Int)) (by omega) (by omega), nl_set, succ_wrap (by omega), nl_length]
    refine ev_pos (by omega) (ev_pos (by omega) ?_)
    have hs := val_set 4294967296 out (i + y.length) c (by omega)
    rw [hz _ (Nat.le_refl _), Nat.mul_zero, Nat.add_zero] at hs
    refine nxt (out.set (i + y.length) c) (by rw [List.length_set]; exact ho) (hd.set _ hc) ?_ ?_
    · intro j hj
      rw [gd_set _ _ _ _ (by omega), if_neg (by omega)]
      exact hz j (by omega)
    · rw [hs, hv, List.take_of_length_le (Nat.le_refl _)]
  | succ d ih =>
    intro j c out hj ho hd hz hc hv
    have hu := hx.gd (by decide) i
    have hw := hy.gd (by decide) j
    have ho2 := hd.gd (by decide) (i + j)
    refine ev_loop times_Mul.l1_eq times_Mul.l1_step ?_
    refine ev_pos (by omega) (ev_pos (by omega) (ev_pos (by rw [nl_length]; omega) ?_))
    rw [wrap_add (by omega)]
    refine ev_pos (by omega) (ev_pos (by rw [nl_length]; omega) (ev_pos (by omega) (ev_pos (by rw [nl_length]; omega) ?_)))
    rw [rd_nl, Int.toNat_natCast, getD_nl]
    obtain ⟨u, hu1⟩ : ∃ u, gd x i = u := ⟨_, rfl⟩
    obtain ⟨v, hv1⟩ : ∃ u, gd y j = u := ⟨_, rfl⟩
    obtain ⟨o, ho1⟩ : ∃ u, gd out (i + j) = u := ⟨_, rfl⟩
    have hst := mul_step hc hu hw ho2
    have ih := ih (j + 1) ((c + (gd x i * gd y j + gd out (i + j))) / 4294967296) (out.set (i + j) ((c + (gd x i * gd y j + gd out (i + j))) % 4294967296)) (by omega) (by rw [List.length_set]; exact ho) (hd.set _ (Nat.mod_lt _ (by decide)))
      (by intro q hq; rw [gd_set _ _ _ _ (by omega), if_neg (by omega)]; exact hz q hq) hst.2
    rw [hu1, hv1, ho1] at hst ih ⊢
    rw [hu1] at hu hv
    rw [hv1] at hw
    rw [ho1] at ho2
    rw [hst.1, u32_nat, fdiv32, nl_set, succ_wrap (by omega)]
    refine ih ?_
    have hs := val_set 4294967296 out (i + j) ((c + (u * v + o)) % 4294967296) (by omega)
    rw [ho1] at hs
    rw [val_take_succ, hv1]
    have hm := Nat.mod_add_div (c + (u * v + o)) 4294967296
    rw [show i + (j + 1) = i + j + 1 by omega, Nat.mul_add u, Nat.mul_add (4294967296 ^ i), show 4294967296 ^ i * (u * (4294967296 ^ j * v)) = 4294967296 ^ (i + j) * (u * v) by rw [Nat.pow_add, Nat.mul_assoc, Nat.mul_left_comm u], Nat.pow_succ]
    generalize 4294967296 ^ (i + j) = P at hv hs ⊢
    generalize 4294967296 ^ i * (u * val 4294967296 (y.take j)) = Q at hv ⊢
    generalize u * v = x at *
    generalize (c + (x + o)) % 4294967296 = md at *
    generalize (c + (x + o)) / 4294967296 = dv at *
    have e1 : P * (md + 4294967296 * dv) = P * c + P * x + P * o := by rw [hm, Nat.mul_add, Nat.mul_add]; omega
    rw [Nat.mul_add, ← Nat.mul_assoc] at e1
    omega
theorem mul_outer (x y : List Nat) (hx : Dg 4294967296 x) (hy : Dg 4294967296 y) (hlx : x.length ≤ 549755813888) (hly : y.length ≤ 549755813888) : ∀ (d i : Nat) (out : List Nat), i + d = x.length → out.length = x.length + y.length → Dg 4294967296 out → (∀ j, i + y.length ≤ j → gd out j = 0) → val 4294967296 out = val 4294967296 (x.take i) * val 4294967296 y →
    Ev (times_Mul.l0 [] (nl y) (nl out) (nl x) (x.length : Int) (i : Int)) (L (val 4294967296 x * val 4294967296 y)) := by
  intro d
  induction d with
  | zero =>
    intro i out hi ho hd hz hv
    refine ev_loop times_Mul.l0_eq times_Mul.l0_step ?_
    refine ev_neg (by omega) ?_
    rw [List.take_of_length_le (by omega)] at hv
    rw [← hv]
    exact (made_val (by omega) hd).bind (ev_now rfl)
  | succ d ih =>
    intro i out hi ho hd hz hv
    refine ev_loop times_Mul.l0_eq times_Mul.l0_step ?_
    refine ev_pos (by omega) (ev_pos (by omega) (ev_pos (by rw [nl_length]; omega) ?_))
    rw [rd_nl, nl_length]
    refine mul_inner x y hx hy hlx hly i (by omega) (val 4294967296 (x.take i) * val 4294967296 y) ?_ y.length 0 0 out (by omega) ho hd hz (by decide) (by rw [hv]; simp [val])
    intro out2 h1 h2 h3 h4
    refine ih (i + 1) out2 (by omega) h1 h2 h3 ?_
    rw [h4, val_take_succ]
    grind
theorem nmul {m n : Nat} (hm : ln m ≤ 549755813888) (hn : ln n ≤ 549755813888) : Ev (times_Mul.f (L m) (L n)) (L (m * n)) := by
  refine ev_eq times_Mul.f_eq ?_
  refine Ev.bind (limbs_nl (by rw [L_length]; omega)) (Ev.bind (limbs_nl (by rw [L_length]; omega)) ?_)
  rw [L_length, L_length, wrap_add (by omega), Int.toNat_natCast]
  refine ev_pos (by omega) (ev_pos (by omega) ?_)
  have h := mul_outer (dg 4294967296 m) (dg 4294967296 n) (Dg_dg b32 m) (Dg_dg b32 n) hm hn (ln m) 0 (List.replicate (ln m + ln n) 0) (by unfold ln; omega) (by rw [List.length_replicate]; rfl) (Dg.replicate (by decide) _) (fun j _ => gd_replicate _ _) (by rw [val_replicate]; simp [val])
  rw [val_dg b32, val_dg b32] at h
  rw [show List.replicate (ln m + ln n) (0 : Int) = nl (List.replicate (ln m + ln n) 0) from nl_replicate _ 0]
  exact h

/-! ### powers -/
theorem npow_loop : ∀ (k n out c : Nat), k < 9223372036854775808 → ln out + 2 * (k * c) ≤ 549755813888 → ln n ≤ c → Ev (times_Pow.l0 (k : Int) (L n) [] (L out)) (L (out * n ^ k)) := by
  intro k
  induction k using Nat.strongRecOn with
  | _ k ih =>
    intro n out c hk ho hn
    refine ev_loop times_Pow.l0_eq times_Pow.l0_step ?_
    rcases Nat.eq_zero_or_pos k with rfl | h0
    · exact ev_neg (by omega) (ev_now (by rw [Nat.pow_zero, Nat.mul_one]))
    · refine ev_pos (by omega) ?_
      rw [and_one hk]
      have e2 := fdiv1 k
      have hnn : ln (n * n) ≤ 2 * c := Nat.le_trans (ln_mul n n) (by omega)
      have hc1 : c ≤ k * c := by
        have := Nat.mul_le_mul_right c h0
        rw [Nat.succ_eq_add_one, Nat.zero_add, Nat.one_mul] at this
        exact this
      rw [e2]
      by_cases hodd : k % 2 = 1
      · refine ev_pos (by omega) (Ev.bind (nmul (by omega) (by omega)) ?_)
        have hon : ln (out * n) ≤ ln out + c := Nat.le_trans (ln_mul out n) (by omega)
        by_cases h1 : k = 1
        · refine ev_neg (by omega) ?_
          subst h1
          have := ih 0 (by omega) n (out * n) c (by omega) (by omega) hn
          rw [Nat.pow_zero, Nat.mul_one] at this
          rw [Nat.pow_one]
          exact this
        · refine ev_pos (by omega) (Ev.bind (nmul (by omega) (by omega)) ?_)
          have hk2 : k / 2 * (2 * c) = (k - 1) * c := by
            rw [← Nat.mul_assoc, show k / 2 * 2 = k - 1 by omega]
          have hk3 : (k - 1) * c + c = k * c := by
            rw [← Nat.succ_mul]; congr 1; omega
          have := ih (k / 2) (by omega) (n * n) (out * n) (2 * c) (by omega) (by omega) hnn
          have e3 : out * n * (n * n) ^ (k / 2) = out * n ^ k := by
            rw [Nat.mul_assoc, show (n * n) = n ^ 2 by rw [Nat.pow_two], ← Nat.pow_mul, ← Nat.pow_succ']
            rw [show (2 * (k / 2)).succ = k by omega]
          rw [e3] at this
          exact this
      · refine ev_neg (by omega) (ev_pos (by omega) (Ev.bind (nmul (by omega) (by omega)) ?_))
        have hk2 : k / 2 * (2 * c) = k * c := by
          rw [← Nat.mul_assoc, show k / 2 * 2 = k by omega]
        have := ih (k / 2) (by omega) (n * n) out (2 * c) (by omega) (by omega) hnn
        have e3 : out * (n * n) ^ (k / 2) = out * n ^ k := by
          rw [show (n * n) = n ^ 2 by rw [Nat.pow_two], ← Nat.pow_mul]
          rw [show (2 * (k / 2)) = k by omega]
        rw [e3] at this
        exact this
theorem npow {n k : Nat} (hk : k < 9223372036854775808) (h : 2 * (k * ln n) ≤ 274877906944) : Ev (times_Pow.f (L n) (k : Int)) (L (n ^ k)) := by
  refine ev_eq times_Pow.f_eq (Ev.bind (of_val (n := 1) (by decide)) ?_)
  have h1 : ln 1 ≤ 2 := ln_small (by decide)
  have := npow_loop k n 1 (ln n) hk (by omega) (Nat.le_refl _)
  rw [Nat.one_mul] at this
  exact this
theorem npow_neg {n : Nat} {k : Int} (hk : k ≤ 0) : Ev (times_Pow.f (L n) k) (L 1) := by
  refine ev_eq times_Pow.f_eq (Ev.bind (of_val (n := 1) (by decide)) ?_)
  refine ev_loop times_Pow.l0_eq times_Pow.l0_step ?_
  exact ev_neg (by omega) (ev_now rfl)
/-! ### bits -/
def bl (n : Nat) : Nat := if n = 0 then 0 else n.log2 + 1
theorem bl_le (n k : Nat) : bl n ≤ k ↔ n < 2 ^ k := by
  unfold bl
  by_cases h : n = 0
  · subst h; simp; exact Nat.pow_pos (by decide)
  · rw [if_neg h, ← Nat.log2_lt h]; omega
theorem bl_lt (n : Nat) : n < 2 ^ bl n := (bl_le n _).mp (Nat.le_refl _)
theorem bl_ge {n : Nat} (h : 0 < n) : 2 ^ (bl n - 1) ≤ n := by
  rcases Nat.lt_or_ge n (2 ^ (bl n - 1)) with h1 | h1
  · have := (bl_le n _).mpr h1
    have h2 : 0 < bl n := by unfold bl; rw [if_neg (by omega)]; omega
    omega
  · exact h1
theorem bl_eq {n k : Nat} (h1 : 2 ^ k ≤ n) (h2 : n < 2 ^ (k + 1)) : bl n = k + 1 := by
  have h3 := (bl_le n (k + 1)).mpr h2
  have h4 : ¬ bl n ≤ k := fun h => by have := (bl_le n k).mp h; omega
  omega
theorem bl_zero : bl 0 = 0 := rfl
theorem bl_pos {n : Nat} (h : 0 < n) : 0 < bl n := by unfold bl; rw [if_neg (by omega)]; omega
theorem bl_mono {m n : Nat} (h : m ≤ n) : bl m ≤ bl n := (bl_le m _).mpr (Nat.lt_of_le_of_lt h (bl_lt n))
theorem bl_shift {t low k : Nat} (ht : 0 < t) (hl : low < 2 ^ k) : bl (low + 2 ^ k * t) = k + bl t := by
  have h1 := bl_ge ht
  have h2 := bl_lt t
  have h3 := bl_pos ht
  obtain ⟨b, hb⟩ : ∃ b, bl t = b + 1 := ⟨bl t - 1, by omega⟩
  rw [hb] at h1 h2 ⊢
  rw [Nat.add_sub_cancel] at h1
  refine bl_eq (k := k + b) ?_ ?_
  · rw [Nat.pow_add]
    have := Nat.mul_le_mul_left (2 ^ k) h1
    omega
  · rw [show k + b + 1 = k + (b + 1) by omega, Nat.pow_add]
    have := Nat.mul_le_mul_left (2 ^ k) (Nat.succ_le_of_lt h2)
    rw [Nat.succ_eq_add_one, Nat.mul_add] at this
    omega
def lenTab : ByteArray := (⟨#[0, 1, 2, 2, 3, 3, 3, 3, 4, 4, 4, 4, 4, 4, 4, 4, 5, 5, 5, 5, 5, 5, 5, 5, 5, 5, 5, 5, 5, 5, 5, 5, 6, 6, 6, 6, 6, 6, 6, 6, 6, 6, 6, 6, 6, 6, 6, 6, 6, 6, 6, 6, 6, 6, 6, 6, 6, 6, 6, 6, 6, 6, 6, 6, 7, 7, 7, 7, 7, 7, 7, 7, 7, 7, 7, 7, 7, 7, 7, 7, 7, 7, 7, 7, 7, 7, 7, 7, 7, 7, 7, 7, 7, 7, 7, 7, 7, 7, 7, 7, 7, 7, 7, 7, 7, 7, 7, 7, 7, 7, 7, 7, 7, 7, 7, 7, 7, 7, 7, 7, 7, 7, 7, 7, 7, 7, 7, 7, 8, 8, 8, 8, 8, 8, 8, 8, 8, 8, 8, 8, 8, 8, 8, 8, 8, 8, 8, 8, 8, 8, 8, 8, 8, 8, 8, 8, 8, 8, 8, 8, 8, 8, 8, 8, 8, 8, 8, 8, 8, 8, 8, 8, 8, 8, 8, 8, 8, 8, 8, 8, 8, 8, 8, 8, 8, 8, 8, 8, 8, 8, 8, 8, 8, 8, 8, 8, 8, 8, 8, 8, 8, 8, 8, 8, 8, 8, 8, 8, 8, 8, 8, 8, 8, 8, 8, 8, 8, 8, 8, 8, 8, 8, 8, 8, 8, 8, 8, 8, 8, 8, 8, 8, 8, 8, 8, 8, 8, 8, 8, 8, 8, 8, 8, 8, 8, 8, 8, 8, 8, 8, 8, 8, 8, 8, 8, 8]⟩ : ByteArray)
def lenAt (x : Int) (b : Int) : M Int := if 0 ≤ IntKind.u8.wrap x then (if IntKind.u8.wrap x < (lenTab.size : Int) then M.ret (IntKind.i64.wrap (b + IntKind.i64.wrap (byteAt lenTab (IntKind.u8.wrap x)))) else M.none) else M.none
theorem len32_def (a : Int) : mbits_Len32.f a = if a ≥ 65536 then (if a.fdiv (2 ^ 16) ≥ 256 then lenAt ((a.fdiv (2 ^ 16)).fdiv (2 ^ 8)) (IntKind.i64.wrap (16 + 8)) else lenAt (a.fdiv (2 ^ 16)) 16) else (if a ≥ 256 then lenAt (a.fdiv (2 ^ 8)) (IntKind.i64.wrap (0 + 8)) else lenAt a 0) := mbits_Len32.f_eq
theorem lenAt_ok {t : Nat} (ht : t < 256) {b : Nat} (hb : b ≤ 24) : Ev (lenAt (t : Int) (b : Int)) ((b + bl t : Nat) : Int) := by
  have h8 := (bl_le t 8).mpr (by omega)
  have e : byteAt lenTab (t : Int) = (bl t : Int) := by
    have : ∀ j : Fin 256, byteAt lenTab (j.val : Int) = (bl j.val : Int) := by decide +kernel
    exact this ⟨t, ht⟩
  have hs : (lenTab.size : Int) = 256 := by decide +kernel
  unfold lenAt
  rw [u8_id (x := (t : Int)) (by omega) (by omega), e, hs]
  exact ev_pos (by omega) (ev_pos (by omega) (ev_now (by rw [wrap_nat (by omega), wrap_add (by omega)])))
theorem len32 {a : Nat} (ha : a < 4294967296) : Ev (mbits_Len32.f (a : Int)) ((bl a : Nat) : Int) := by
  have key : ∀ (s t : Nat), t < 256 → (s = 0 ∨ 0 < t) → s ≤ 24 → a / 2 ^ s = t → bl a = s + bl t := by
    intro s t ht h hs hat
    have hm := Nat.mod_add_div a (2 ^ s)
    rw [hat] at hm
    rcases h with rfl | h
    · rw [Nat.pow_zero] at hat; rw [← hat, Nat.div_one]; omega
    · have := bl_shift h (Nat.mod_lt a (Nat.pow_pos (n := s) (by decide : 0 < 2)))
      rw [hm] at this
      omega
  rw [len32_def]
  by_cases h1 : 65536 ≤ a
  · refine ev_pos (by omega) ?_
    rw [fdiv16]
    by_cases h2 : 16777216 ≤ a
    · refine ev_pos (by omega) ?_
      rw [fdiv8, show a / 65536 / 256 = a / 16777216 by omega, key 24 (a / 16777216) (by omega) (.inr (by omega)) (by omega) rfl]
      exact lenAt_ok (by omega) (b := 24) (by omega)
    · refine ev_neg (by omega) ?_
      rw [key 16 (a / 65536) (by omega) (.inr (by omega)) (by omega) rfl]
      exact lenAt_ok (by omega) (b := 16) (by omega)
  · refine ev_neg (by omega) ?_
    by_cases h2 : 256 ≤ a
    · refine ev_pos (by omega) ?_
      rw [fdiv8, key 8 (a / 256) (by omega) (.inr (by omega)) (by omega) rfl]
      exact lenAt_ok (by omega) (b := 8) (by omega)
    · refine ev_neg (by omega) ?_
      have := lenAt_ok (t := a) (by omega) (b := 0) (by omega)
      rw [Nat.zero_add] at this
      exact this
theorem nbits {n : Nat} (hl : ln n ≤ 1099511627776) : Ev (nat_Nat_Bits.f (L n)) ((bl n : Nat) : Int) := by
  refine ev_eq nat_Nat_Bits.f_eq ?_
  rw [L_length]
  rcases Nat.eq_zero_or_pos n with rfl | hn
  · exact ev_pos rfl (ev_now rfl)
  · have h0 : 0 < ln n := by unfold ln; rw [dg_pos b32 hn]; simp
    obtain ⟨m, hm⟩ : ∃ m, ln n = m + 1 := ⟨ln n - 1, by omega⟩
    have hdl : (dg 4294967296 n).length = m + 1 := hm
    rw [hm, pred_wrap (by omega)]
    refine ev_neg (by omega) (ev_pos (by omega) (ev_pos (by omega) ?_))
    unfold L
    have hg := (Dg_dg b32 n).gd (by decide) m
    rw [rd_nl, show (32 : Int) * (m : Int) = ((32 * m : Nat) : Int) by omega, wrap_nat (by omega)]
    refine Ev.bind (len32 hg) (ev_now ?_)
    have h1 := dg_last b32 hn
    rw [hdl, Nat.add_sub_cancel] at h1
    have h2 := val_split 4294967296 (dg 4294967296 n) m (by omega)
    rw [val_drop _ _ _ (by omega), List.drop_of_length_le (by omega), val_dg b32] at h2
    have h3 := val_lt (by decide) ((Dg_dg b32 n).take m)
    rw [List.length_take, Nat.min_eq_left (by omega)] at h3
    have e : (4294967296 : Nat) ^ m = 2 ^ (32 * m) := by rw [Nat.pow_mul]
    rw [e] at h2 h3
    have h4 := bl_shift h1 h3
    rw [show val 4294967296 [] = 0 from rfl, Nat.mul_zero, Nat.add_zero] at h2
    rw [← h2] at h4
    have h5 := (bl_le (gd (dg 4294967296 n) m) 32).mpr hg
    rw [wrap_add (by omega), h4]

/-! ### small values -/
end Go.Proofs.YtlnbcpcnpofnoaaGreatDoor.F

/- What comes in: limbs. -/
namespace Go.Proofs.YtlnbcpcnpofnoaaGreatDoor.F
open Go Go.Proofs.YtlnbcpcnpofnoaaGreatDoor.E
set_option linter.unusedVariables false
set_option linter.unusedSimpArgs false
theorem wf_u32 {x : Int} (h : (Lit.int .u32 x).wf = true) : 0 ≤ x ∧ x < 4294967296 := by
  simp [Lit.wf, IntKind.min, IntKind.max, IntKind.signed, IntKind.bits] at h
  omega
theorem wf_u64 {x : Int} (h : (Lit.int .u64 x).wf = true) : 0 ≤ x ∧ x < 18446744073709551616 := by
  simp [Lit.wf, IntKind.min, IntKind.max, IntKind.signed, IntKind.bits] at h
  omega
theorem wf_i64 {x : Int} (h : (Lit.int .i64 x).wf = true) : -9223372036854775808 ≤ x ∧ x < 9223372036854775808 := by
  simp [Lit.wf, IntKind.min, IntKind.max, IntKind.signed, IntKind.bits] at h
  omega
theorem wf_u8 {x : Int} (h : (Lit.int .u8 x).wf = true) : 0 ≤ x ∧ x < 256 := by
  simp [Lit.wf, IntKind.min, IntKind.max, IntKind.signed, IntKind.bits] at h
  omega
theorem limbs_in {l : List Int} (h : ∀ x ∈ l, (Lit.int .u32 x).wf = true) : ∃ t : List Nat, l = nl t ∧ Dg 4294967296 t := by
  refine ⟨l.map Int.toNat, toNl fun x hx => (wf_u32 (h x hx)).1, fun y hy => ?_⟩
  obtain ⟨x, hx, rfl⟩ := List.mem_map.mp hy
  have := wf_u32 (h x hx)
  omega
theorem few_of {l : List Nat} (n : Nat) {N : Int} (hN : N = (n : Int)) : (nl l).take ((mnI ((nl l).length : Int) N) : Int).toNat = nl (l.take n) ∧ 0 ≤ mnI ((nl l).length : Int) N ∧ mnI ((nl l).length : Int) N ≤ ((nl l).length : Int) := by
  subst hN
  rw [nl_length]
  unfold mnI
  refine ⟨?_, ?_, ?_⟩
  · split
    · rw [Int.toNat_natCast, nl_take]
    · rw [Int.toNat_natCast, nl_take, List.take_of_length_le (Nat.le_refl _), List.take_of_length_le (by omega)]
  · split <;> omega
  · split <;> omega
theorem cmpI_neg (m n : Nat) : IntKind.i64.wrap (0 - cmpI m n) = cmpI n m := by
  have h : cmpI n m = -(cmpI m n) := by
    unfold cmpI
    rcases Nat.lt_trichotomy m n with h | h | h
    · rw [if_neg (by omega), if_pos h, if_pos h]; rfl
    · subst h; rw [if_neg (Nat.lt_irrefl _), if_neg (Nat.lt_irrefl _)]; rfl
    · rw [if_pos h, if_neg (by omega), if_pos h]
  have h2 : -1 ≤ cmpI m n ∧ cmpI m n ≤ 1 := by unfold cmpI; split <;> (try split) <;> omega
  rw [h, wrap_id (by omega) (by omega)]; omega
theorem cmpI_self (m : Nat) : cmpI m m = 0 := by unfold cmpI; rw [if_neg (Nat.lt_irrefl _), if_neg (Nat.lt_irrefl _)]
theorem cmpI_ge {m n : Nat} : 0 ≤ cmpI m n ↔ n ≤ m := by unfold cmpI; split <;> (try split) <;> omega
theorem cmpI_eq0 {m n : Nat} : cmpI m n = 0 ↔ m = n := by unfold cmpI; split <;> (try split) <;> omega
theorem cmpI_lt {m n : Nat} : cmpI m n < 0 ↔ m < n := by unfold cmpI; split <;> (try split) <;> omega
theorem cmpI_gt {m n : Nat} : 0 < cmpI m n ↔ n < m := by unfold cmpI; split <;> (try split) <;> omega
theorem cmpI_pos {m n : Nat} : cmpI m n = 1 ↔ n < m := by unfold cmpI; split <;> (try split) <;> omega
theorem bl_add (a b : Nat) : bl (a + b) ≤ max (bl a) (bl b) + 1 := by
  refine (bl_le _ _).mpr ?_
  have h1 := Nat.lt_of_lt_of_le (bl_lt a) (Nat.pow_le_pow_right (n := 2) (by omega) (Nat.le_max_left (bl a) (bl b)))
  have h2 := Nat.lt_of_lt_of_le (bl_lt b) (Nat.pow_le_pow_right (n := 2) (by omega) (Nat.le_max_right (bl a) (bl b)))
  rw [Nat.pow_succ]; omega
theorem bl_mul (a b : Nat) : bl (a * b) ≤ bl a + bl b := by
  refine (bl_le _ _).mpr ?_
  rw [Nat.pow_add]
  exact Nat.mul_lt_mul'' (bl_lt a) (bl_lt b)
theorem bl_eq0 {n : Nat} : bl n = 0 ↔ n = 0 := by
  unfold bl; split <;> simp_all
theorem bl_le_ln (n : Nat) : bl n ≤ 32 * ln n := by
  refine (bl_le _ _).mpr ?_
  rw [Nat.pow_mul]
  exact dg_lt b32 n
end Go.Proofs.YtlnbcpcnpofnoaaGreatDoor.F

/- Quotients: by one limb, shifts, the guess of a digit, a digit times a number taken off, and put back. -/
namespace Go.Proofs.YtlnbcpcnpofnoaaGreatDoor.F
open Go Go.Proofs.YtlnbcpcnpofnoaaGreatDoor.E
set_option linter.unusedVariables false
set_option linter.unusedSimpArgs false

theorem or_add {a b : Nat} (hb : b < 4294967296) : 4294967296 * a ||| b = 4294967296 * a + b := (Nat.two_pow_add_eq_or_of_lt (i := 32) hb a).symm
theorem two_limbs {h l : Nat} (hh : h < 4294967296) (hl : l < 4294967296) : IntKind.u64.wrap ((BitVec.ofInt IntKind.u64.bits (IntKind.u64.wrap ((IntKind.u64.wrap (h : Int)) * 2 ^ 32)) ||| BitVec.ofInt IntKind.u64.bits (IntKind.u64.wrap (l : Int))).toNat) = ((4294967296 * h + l : Nat) : Int) := by
  rw [wrap_u64_nat (n := h) (by omega), wrap_u64_nat (n := l) (by omega), show (h : Int) * 2 ^ 32 = ((4294967296 * h : Nat) : Int) by omega, wrap_u64_nat (n := 4294967296 * h) (by omega), bits_or64 (by omega) (by omega), or_add hl]
theorem tdiv_nat (a b : Nat) : Int.tdiv (a : Int) (b : Int) = ((a / b : Nat) : Int) := rfl
theorem tmod_nat (a b : Nat) : Int.tmod (a : Int) (b : Int) = ((a % b : Nat) : Int) := rfl
theorem div32_nat {h l d : Nat} (hd : h < d) (hd2 : d < 4294967296) (hl : l < 4294967296) : Ev (mbits_Div32.f (h : Int) (l : Int) (d : Int)) ((((4294967296 * h + l) / d : Nat) : Int), (((4294967296 * h + l) % d : Nat) : Int)) := by
  have hq : (4294967296 * h + l) / d < 4294967296 := by
    rw [Nat.div_lt_iff_lt_mul (by omega)]
    have := Nat.mul_le_mul_left 4294967296 (Nat.succ_le_of_lt hd)
    rw [Nat.succ_eq_add_one, Nat.mul_add] at this
    omega
  have hr : (4294967296 * h + l) % d < d := Nat.mod_lt _ (by omega)
  refine ev_eq mbits_Div32.f_eq ?_
  rw [wrap_u64_nat (n := d) (by omega), two_limbs (by omega) hl, tdiv_nat, tmod_nat, wrap_u64_nat (by omega), u32_nat, u32_nat, Nat.mod_eq_of_lt hq, Nat.mod_eq_of_lt (a := (4294967296 * h + l) % d) (by omega)]
  exact ev_pos (by omega) (ev_neg (by omega) (ev_pos (by omega) (ev_pos (by omega) (ev_now rfl))))

theorem small_loop (x : List Nat) (d : Nat) (hx : Dg 4294967296 x) (h0 : 0 < d) (hd : d < 4294967296) (hl : x.length ≤ 1099511627776) : ∀ (i : Nat) (q : List Nat), i ≤ x.length → q.length = x.length → Dg 4294967296 q → val 4294967296 (q.drop i) = val 4294967296 (x.drop i) / d →
    ∃ Q : List Nat, Q.length = x.length ∧ Dg 4294967296 Q ∧ val 4294967296 Q = val 4294967296 x / d ∧ Ev (quot_small.l0 (nl x) (d : Int) (nl q) ((val 4294967296 (x.drop i) % d : Nat) : Int) ((i : Int) - 1)) (nl Q, ((val 4294967296 x % d : Nat) : Int)) := by
  intro i
  induction i with
  | zero =>
    intro q hi hq hdq hv
    refine ⟨q, hq, hdq, by simpa using hv, ?_⟩
    refine ev_loop quot_small.l0_eq quot_small.l0_step ?_
    exact ev_neg (by omega) (ev_now (by rw [List.drop_zero]))
  | succ i ih =>
    intro q hi hq hdq hv
    have hg := hx.gd (by decide) i
    have hr : val 4294967296 (x.drop (i + 1)) % d < d := Nat.mod_lt _ h0
    have hdv := div32_nat hr hd hg
    have hxd := val_drop 4294967296 x i (by omega)
    have hm := Nat.mod_add_div (val 4294967296 (x.drop (i + 1))) d
    have e0 : val 4294967296 (x.drop i) = d * (4294967296 * (val 4294967296 (x.drop (i + 1)) / d)) + (4294967296 * (val 4294967296 (x.drop (i + 1)) % d) + gd x i) := by
      rw [hxd]
      generalize val 4294967296 (x.drop (i + 1)) / d = q0 at *
      generalize val 4294967296 (x.drop (i + 1)) % d = r0 at *
      rw [← hm, Nat.mul_left_comm d, Nat.mul_add]; omega
    have e1 : val 4294967296 (x.drop i) / d = 4294967296 * (val 4294967296 (x.drop (i + 1)) / d) + (4294967296 * (val 4294967296 (x.drop (i + 1)) % d) + gd x i) / d := by rw [e0, Nat.mul_add_div h0]
    have e2 : val 4294967296 (x.drop i) % d = (4294967296 * (val 4294967296 (x.drop (i + 1)) % d) + gd x i) % d := by rw [e0, Nat.mul_add_mod]
    have hql : (4294967296 * (val 4294967296 (x.drop (i + 1)) % d) + gd x i) / d < 4294967296 := by
      rw [Nat.div_lt_iff_lt_mul h0]
      have := Nat.mul_le_mul_left 4294967296 (Nat.succ_le_of_lt hr)
      rw [Nat.succ_eq_add_one, Nat.mul_add] at this
      omega
    obtain ⟨Q, h1, h2, h3, h4⟩ := ih (q.set i ((4294967296 * (val 4294967296 (x.drop (i + 1)) % d) + gd x i) / d)) (by omega) (by rw [List.length_set]; exact hq) (hdq.set i hql) (by
      rw [val_drop _ _ _ (by rw [List.length_set]; omega), drop_set_succ, hv, gd_set _ _ _ _ (by omega), if_pos rfl, e1]; omega)
    refine ⟨Q, h1, h2, h3, ?_⟩
    rw [show (((i + 1 : Nat) : Int) - 1) = (i : Int) by omega]
    refine ev_loop quot_small.l0_eq quot_small.l0_step ?_
    refine ev_pos (by omega) (ev_pos (by omega) (ev_pos (by rw [nl_length]; omega) ?_))
    rw [rd_nl]
    refine Ev.bind hdv (ev_pos (by omega) (ev_pos (by rw [nl_length]; omega) ?_))
    rw [Int.toNat_natCast, nl_set, wrap_id (by omega) (by omega), ← e2]
    exact h4
theorem qsmall {x : List Nat} {d : Nat} (hx : Dg 4294967296 x) (h0 : 0 < d) (hd : d < 4294967296) (hl : x.length ≤ 1099511627776) :
    ∃ Q : List Nat, Q.length = x.length ∧ Dg 4294967296 Q ∧ val 4294967296 Q = val 4294967296 x / d ∧ Ev (quot_small.f (nl x) (d : Int)) (nl Q, ((val 4294967296 x % d : Nat) : Int)) := by
  obtain ⟨Q, h1, h2, h3, h4⟩ := small_loop x d hx h0 hd hl x.length (List.replicate x.length 0) (Nat.le_refl _) (by rw [List.length_replicate]) (Dg.replicate (by decide) _) (by rw [List.drop_of_length_le (by simp), List.drop_of_length_le (Nat.le_refl _)]; simp [val])
  refine ⟨Q, h1, h2, h3, ?_⟩
  rw [List.drop_of_length_le (Nat.le_refl _)] at h4
  refine ev_eq quot_small.f_eq ?_
  rw [nl_length, Int.toNat_natCast, wrap_id (by omega) (by omega)]
  refine ev_pos (by omega) (ev_pos (by omega) ?_)
  rw [show List.replicate x.length (0 : Int) = nl (List.replicate x.length 0) from nl_replicate _ 0]
  rw [show val 4294967296 [] % d = 0 from Nat.zero_mod d] at h4
  exact h4

/-! ### shifts by less than a limb -/
theorem shl32 {v k : Nat} (hk : k < 32) : IntKind.u32.wrap ((v : Int) * 2 ^ (min ((k : Nat) : Int).toNat 32)) = ((v * 2 ^ k % 4294967296 : Nat) : Int) := by
  rw [Int.toNat_natCast, Nat.min_eq_left (a := k) (b := 32) (by omega), u32_def, show (v : Int) * 2 ^ k = ((v * 2 ^ k : Nat) : Int) by rw [Int.natCast_mul, Int.natCast_pow]; rfl]
  rfl
theorem shl64 {v k : Nat} (hk : k < 32) (hv : v < 4294967296) : IntKind.u64.wrap (IntKind.u64.wrap (v : Int) * 2 ^ (min ((k : Nat) : Int).toNat 64)) = ((v * 2 ^ k : Nat) : Int) := by
  have h1 : 2 ^ k ≤ 2 ^ 31 := Nat.pow_le_pow_right (by decide) (by omega)
  have h2 : v * 2 ^ k ≤ 4294967295 * 2 ^ 31 := Nat.mul_le_mul (by omega) h1
  rw [wrap_u64_nat (by omega), Int.toNat_natCast, Nat.min_eq_left (a := k) (b := 64) (by omega), show (v : Int) * 2 ^ k = ((v * 2 ^ k : Nat) : Int) by rw [Int.natCast_mul, Int.natCast_pow]; rfl, wrap_u64_nat (by omega)]
theorem or_low {c a k : Nat} (hc : c < 2 ^ k) : c ||| 2 ^ k * a = c + 2 ^ k * a := by
  rw [Nat.or_comm, ← Nat.two_pow_add_eq_or_of_lt hc a, Nat.add_comm]
theorem shl_low (v k : Nat) (hk : k < 32) : v * 2 ^ k % 4294967296 = 2 ^ k * (v % 2 ^ (32 - k)) := by
  have : (4294967296 : Nat) = 2 ^ k * 2 ^ (32 - k) := by rw [← Nat.pow_add, show k + (32 - k) = 32 by omega]
  rw [this, Nat.mul_comm v, Nat.mul_mod_mul_left]
theorem shifted_loop (x : List Nat) (k : Nat) (hx : Dg 4294967296 x) (hk : k < 32) (hl : x.length ≤ 1099511627776) : ∀ (d i : Nat) (out : List Nat), i + d = x.length → out.length = x.length + 1 → Dg 4294967296 out → (∀ j, i < j → gd out j = 0) → gd out i < 2 ^ k → val 4294967296 out = val 4294967296 (x.take i) * 2 ^ k →
    ∃ U : List Nat, U.length = x.length + 1 ∧ Dg 4294967296 U ∧ val 4294967296 U = val 4294967296 x * 2 ^ k ∧ Ev (quot_shifted.l0 (k : Int) (nl out) (nl x) (x.length : Int) (i : Int)) (nl U) := by
  intro d
  induction d with
  | zero =>
    intro i out hi ho hd hz hc hv
    rw [List.take_of_length_le (by omega)] at hv
    refine ⟨out, ho, hd, hv, ?_⟩
    refine ev_loop quot_shifted.l0_eq quot_shifted.l0_step ?_
    exact ev_neg (by omega) (ev_now rfl)
  | succ d ih =>
    intro i out hi ho hd hz hc hv
    have hg := hx.gd (by decide) i
    have ho1 := hd.gd (by decide) i
    obtain ⟨v, hv1⟩ : ∃ v, gd x i = v := ⟨_, rfl⟩
    obtain ⟨c, hc1⟩ : ∃ c, gd out i = c := ⟨_, rfl⟩
    have hzz := hz (i + 1) (by omega)
    rw [hv1] at hg
    rw [hc1] at hc ho1
    have hpk : 2 ^ k ≤ 2 ^ 31 := Nat.pow_le_pow_right (by decide) (by omega)
    have hp0 : 0 < 2 ^ k := Nat.pow_pos (by decide)
    have hvk : v * 2 ^ k / 4294967296 < 2 ^ k := by
      rw [Nat.div_lt_iff_lt_mul (by decide), Nat.mul_comm]
      exact Nat.mul_lt_mul_of_pos_left hg hp0
    have hlow : c ||| v * 2 ^ k % 4294967296 = c + v * 2 ^ k % 4294967296 := by rw [shl_low v k hk, or_low hc]
    have hlt : c + v * 2 ^ k % 4294967296 < 4294967296 := by
      rw [← hlow]
      exact Nat.or_lt_two_pow (n := 32) ho1 (Nat.mod_lt _ (by decide))
    obtain ⟨U, h1, h2, h3, h4⟩ := ih (i + 1) ((out.set i (c + v * 2 ^ k % 4294967296)).set (i + 1) (v * 2 ^ k / 4294967296)) (by omega) (by rw [List.length_set, List.length_set]; exact ho) ((hd.set i hlt).set _ (by omega))
      (by
        intro j hj
        rw [gd_set _ _ _ _ (by rw [List.length_set]; omega), if_neg (by omega), gd_set _ _ _ _ (by omega), if_neg (by omega)]
        exact hz j (by omega))
      (by rw [gd_set _ _ _ _ (by rw [List.length_set]; omega), if_pos rfl]; exact hvk)
      (by
        have s1 := val_set 4294967296 out i (c + v * 2 ^ k % 4294967296) (by omega)
        have s2 := val_set 4294967296 (out.set i (c + v * 2 ^ k % 4294967296)) (i + 1) (v * 2 ^ k / 4294967296) (by rw [List.length_set]; omega)
        rw [gd_set _ _ _ _ (by omega), if_neg (by omega), hzz, Nat.mul_zero, Nat.add_zero] at s2
        rw [hc1, Nat.mul_add] at s1
        rw [s2, val_take_succ, hv1, Nat.add_mul, ← hv, Nat.mul_assoc]
        have hm := Nat.mod_add_div (v * 2 ^ k) 4294967296
        rw [Nat.pow_succ]
        generalize v * 2 ^ k % 4294967296 = md at *
        generalize v * 2 ^ k / 4294967296 = dv at *
        generalize v * 2 ^ k = vk at *
        generalize 4294967296 ^ i = P at *
        have e1 : P * (md + 4294967296 * dv) = P * vk := by rw [hm]
        rw [Nat.mul_add, ← Nat.mul_assoc] at e1
        omega)
    refine ⟨U, h1, h2, h3, ?_⟩
    refine ev_loop quot_shifted.l0_eq quot_shifted.l0_step ?_
    rw [succ_wrap (by omega)]
    refine ev_pos (by omega) (ev_pos (by omega) (ev_pos (by rw [nl_length]; omega) (ev_pos (by omega) (ev_pos (by rw [nl_length]; omega) (ev_pos (by omega) (ev_pos (by omega) (ev_pos (by rw [nl_length]; omega) (ev_pos (by omega) (ev_pos (by omega) (ev_pos (by rw [List.length_set, nl_length]; omega) ?_))))))))))
    rw [Int.toNat_natCast (n := i), Int.toNat_natCast (n := i + 1), getD_nl, rd_nl, hv1, hc1, shl32 hk, shl64 hk hg, bits_or32 ho1 (Nat.mod_lt _ (by decide)), hlow, fdiv32, u32_nat, Nat.mod_eq_of_lt (a := v * 2 ^ k / 4294967296) (by omega), nl_set, nl_set]
    exact h4
theorem qshifted {x : List Nat} {k : Nat} (hx : Dg 4294967296 x) (hk : k < 32) (hl : x.length ≤ 1099511627775) :
    ∃ U : List Nat, U.length = x.length + 1 ∧ Dg 4294967296 U ∧ val 4294967296 U = val 4294967296 x * 2 ^ k ∧ Ev (quot_shifted.f (nl x) (k : Int)) (nl U) := by
  obtain ⟨U, h1, h2, h3, h4⟩ := shifted_loop x k hx hk (by omega) x.length 0 (List.replicate (x.length + 1) 0) (by omega) (by rw [List.length_replicate]) (Dg.replicate (by decide) _) (fun j _ => gd_replicate _ _) (by rw [gd_replicate]; exact Nat.pow_pos (by decide)) (by rw [val_replicate]; simp [val])
  refine ⟨U, h1, h2, h3, ?_⟩
  refine ev_eq quot_shifted.f_eq ?_
  rw [nl_length, succ_wrap (by omega), Int.toNat_natCast]
  refine ev_pos (by omega) (ev_pos (by omega) ?_)
  rw [show List.replicate (x.length + 1) (0 : Int) = nl (List.replicate (x.length + 1) 0) from nl_replicate _ 0]
  exact h4

theorem shr32 {v k : Nat} (hk : k < 32) : (v : Int).fdiv (2 ^ (min ((k : Nat) : Int).toNat 32)) = ((v / 2 ^ k : Nat) : Int) := by
  rw [Int.toNat_natCast, Nat.min_eq_left (a := k) (b := 32) (by omega), Int.fdiv_eq_ediv_of_nonneg _ (Int.le_of_lt (Int.pow_pos (by decide))), Int.natCast_ediv, Int.natCast_pow]; rfl
theorem shr64 {v k : Nat} (hk : k < 32) : (v : Int).fdiv (2 ^ (min ((k : Nat) : Int).toNat 64)) = ((v / 2 ^ k : Nat) : Int) := by
  rw [Int.toNat_natCast, Nat.min_eq_left (a := k) (b := 64) (by omega), Int.fdiv_eq_ediv_of_nonneg _ (Int.le_of_lt (Int.pow_pos (by decide))), Int.natCast_ediv, Int.natCast_pow]; rfl
end Go.Proofs.YtlnbcpcnpofnoaaGreatDoor.F

/- Knuth's D: the guess of a digit is right or one too great; a digit times the divisor is taken off, and the divisor put back. -/
namespace Go.Proofs.YtlnbcpcnpofnoaaGreatDoor.F
open Go Go.Proofs.YtlnbcpcnpofnoaaGreatDoor.E
set_option linter.unusedVariables false
set_option linter.unusedSimpArgs false

/-- plain numbers: U of three top digits u3 and what is below, V of two, v, and what is below -/
theorem guess_low {U V P u3 v q : Nat} (hV : v * P ≤ V) (hU : U < (u3 + 1) * P) (h : q ≤ U / V) (hV0 : 0 < V) : q * v ≤ u3 := by
  have h1 : q * V ≤ U := by rw [← Nat.le_div_iff_mul_le hV0]; exact h
  have h2 : q * v * P ≤ q * V := by rw [Nat.mul_assoc]; exact Nat.mul_le_mul_left q hV
  have h3 : q * v * P < (u3 + 1) * P := by omega
  have := Nat.lt_of_mul_lt_mul_right h3
  omega
theorem guess_high {U V P u3 v q : Nat} (hV : V < (v + 1) * P) (hU : u3 * P ≤ U) (hq : q * v ≤ u3) (hqv : q ≤ v) (hV0 : 0 < V) : q ≤ U / V + 1 := by
  cases q with
  | zero => exact Nat.zero_le _
  | succ q =>
    have h1 : q * (v + 1) ≤ u3 := by
      have e1 : (q + 1) * v = q * v + v := Nat.succ_mul q v
      have e2 : q * (v + 1) = q * v + q := Nat.mul_succ q v
      omega
    have h2 : q * V ≤ U := by
      refine Nat.le_trans (Nat.mul_le_mul_left q (Nat.le_of_lt hV)) ?_
      rw [← Nat.mul_assoc]
      exact Nat.le_trans (Nat.mul_le_mul_right P h1) hU
    have := (Nat.le_div_iff_mul_le hV0).mpr h2
    omega

def guessDec (u v : List Int) (n q r : Int) : M Int := if 0 ≤ IntKind.i64.wrap (n - 1) then (if IntKind.i64.wrap (n - 1) < (v.length : Int) then (if IntKind.u64.wrap (r + IntKind.u64.wrap (rdI v (IntKind.i64.wrap (n - 1)))) ≥ 4294967296 then M.ret (IntKind.u64.wrap (q - 1)) else quot_guess.l0 u v n (IntKind.u64.wrap (q - 1)) (IntKind.u64.wrap (r + IntKind.u64.wrap (rdI v (IntKind.i64.wrap (n - 1)))))) else M.none) else M.none
theorem guess_loop (u v : List Nat) (n : Nat) (hn : v.length = n + 2) (hu : u.length = n + 3) (hdu : Dg 4294967296 u) (hdv : Dg 4294967296 v) (v1 v2 u2 top Q : Nat) (hv1 : gd v (n + 1) = v1) (hv2 : gd v n = v2) (hu2 : gd u n = u2) (hb : n ≤ 1099511627776)
    (hlow : ∀ q, q ≤ Q → q * (4294967296 * v1 + v2) ≤ 4294967296 * top + u2) (hQ : Q < 4294967296) (htop : top < 4294967296 * v1 + 4294967296) :
    ∀ (q r : Nat), q * v1 + r = top → r < 4294967296 → Q ≤ q → q ≤ 4294967297 →
      ∃ q' r', q' < 4294967296 ∧ Q ≤ q' ∧ q' * v1 + r' = top ∧ q' * v2 ≤ 4294967296 * r' + u2 ∧ Ev (quot_guess.l0 (nl u) (nl v) ((n + 2 : Nat) : Int) (q : Int) (r : Int)) (q' : Int) := by
  have bv1 := hdv.gd (by decide) (n + 1)
  have bv2 := hdv.gd (by decide) n
  have bu2 := hdu.gd (by decide) n
  rw [hv1] at bv1
  rw [hv2] at bv2
  rw [hu2] at bu2
  intro q
  induction q using Nat.strongRecOn with
  | _ q ih =>
    intro r hr hrb hqQ hqB
    -- one less
    have dec : Q < q → ∃ q' r', q' < 4294967296 ∧ Q ≤ q' ∧ q' * v1 + r' = top ∧ q' * v2 ≤ 4294967296 * r' + u2 ∧ Ev (guessDec (nl u) (nl v) ((n + 2 : Nat) : Int) (q : Int) (r : Int)) (q' : Int) := by
      intro hlt
      obtain ⟨p, rfl⟩ : ∃ p, q = p + 1 := ⟨q - 1, by omega⟩
      have hp : p * v1 + (r + v1) = top := by
        have : (p + 1) * v1 = p * v1 + v1 := Nat.succ_mul p v1
        omega
      have e1 : IntKind.i64.wrap (((n + 2 : Nat) : Int) - 1) = ((n + 1 : Nat) : Int) := by rw [wrap_id] <;> omega
      have e2 : IntKind.u64.wrap ((r : Int) + IntKind.u64.wrap ((v1 : Nat) : Int)) = ((r + v1 : Nat) : Int) := by
        rw [wrap_u64_nat (by omega), show (r : Int) + (v1 : Int) = ((r + v1 : Nat) : Int) by omega, wrap_u64_nat (by omega)]
      have e3 : IntKind.u64.wrap (((p + 1 : Nat) : Int) - 1) = (p : Int) := by
        rw [show ((p + 1 : Nat) : Int) - 1 = (p : Int) by omega, wrap_u64_nat (by omega)]
      by_cases hbig : 4294967296 ≤ r + v1
      · have hpB : p < 4294967296 := by
          rcases Nat.lt_or_ge p 4294967296 with h | h
          · exact h
          · have := Nat.mul_le_mul_right v1 h
            omega
        refine ⟨p, r + v1, hpB, by omega, hp, ?_, ?_⟩
        · have h1 : p * v2 ≤ 4294967295 * 4294967295 := Nat.mul_le_mul (by omega) (by omega)
          omega
        · unfold guessDec
          rw [e1]
          refine ev_pos (by omega) (ev_pos (by rw [nl_length]; omega) ?_)
          rw [rd_nl, hv1, e2, e3]
          exact ev_pos (by omega) (ev_now rfl)
      · obtain ⟨q', r', h1, h2, h3, h4, h5⟩ := ih p (by omega) (r + v1) hp (by omega) (by omega) (by omega)
        refine ⟨q', r', h1, h2, h3, h4, ?_⟩
        unfold guessDec
        rw [e1]
        refine ev_pos (by omega) (ev_pos (by rw [nl_length]; omega) ?_)
        rw [rd_nl, hv1, e2, e3]
        exact ev_neg (by omega) h5
    by_cases hqb : 4294967296 ≤ q
    · obtain ⟨q', r', h1, h2, h3, h4, h5⟩ := dec (by omega)
      refine ⟨q', r', h1, h2, h3, h4, ?_⟩
      refine ev_loop quot_guess.l0_eq quot_guess.l0_step ?_
      exact ev_pos (by omega) h5
    · have e1 : IntKind.i64.wrap (((n + 2 : Nat) : Int) - 2) = (n : Int) := by rw [wrap_id] <;> omega
      have hqv2 : q * v2 ≤ 4294967295 * 4294967295 := Nat.mul_le_mul (by omega) (by omega)
      have e2 : IntKind.u64.wrap ((q : Int) * IntKind.u64.wrap ((v2 : Nat) : Int)) = ((q * v2 : Nat) : Int) := by
        rw [wrap_u64_nat (by omega), show (q : Int) * (v2 : Int) = ((q * v2 : Nat) : Int) from (Int.natCast_mul q v2).symm, wrap_u64_nat (by omega)]
      have e3 : IntKind.u64.wrap ((BitVec.ofInt IntKind.u64.bits (IntKind.u64.wrap ((r : Int) * 2 ^ 32)) ||| BitVec.ofInt IntKind.u64.bits (IntKind.u64.wrap ((u2 : Nat) : Int))).toNat) = ((4294967296 * r + u2 : Nat) : Int) := by
        have := two_limbs hrb bu2
        rw [wrap_u64_nat (n := r) (by omega)] at this
        exact this
      have red : ∀ {x : Int}, Ev (if ((q * v2 : Nat) : Int) > ((4294967296 * r + u2 : Nat) : Int) then guessDec (nl u) (nl v) ((n + 2 : Nat) : Int) (q : Int) (r : Int) else M.ret (q : Int)) x → Ev (quot_guess.l0 (nl u) (nl v) ((n + 2 : Nat) : Int) (q : Int) (r : Int)) x := by
        intro x h
        refine ev_loop quot_guess.l0_eq quot_guess.l0_step ?_
        rw [e1]
        refine ev_neg (by omega) (ev_pos (by omega) (ev_pos (by rw [nl_length]; omega) (ev_pos (by omega) (ev_pos (by rw [nl_length]; omega) ?_))))
        rw [rd_nl, rd_nl, hv2, hu2, e2, e3]
        exact h
      by_cases hc : 4294967296 * r + u2 < q * v2
      · have hlt : Q < q := by
          rcases Nat.lt_or_ge Q q with h | h
          · exact h
          · have h1 := hlow q h
            rw [Nat.mul_add, Nat.mul_left_comm] at h1
            have h2 : 4294967296 * (q * v1) + 4294967296 * r = 4294967296 * top := by rw [← Nat.mul_add, hr]
            omega
        obtain ⟨q', r', h1, h2, h3, h4, h5⟩ := dec hlt
        refine ⟨q', r', h1, h2, h3, h4, red (ev_pos (by omega) h5)⟩
      · exact ⟨q, r, by omega, hqQ, hr, by omega, red (ev_neg (by omega) (ev_now rfl))⟩
theorem qguess {u v : List Nat} {n : Nat} (hn : v.length = n + 2) (hu : u.length = n + 3) (hdu : Dg 4294967296 u) (hdv : Dg 4294967296 v) (hb : n ≤ 1099511627776) (htop : 2147483648 ≤ gd v (n + 1)) (hlt : val 4294967296 u < 4294967296 * val 4294967296 v) :
    ∃ q, q < 4294967296 ∧ val 4294967296 u / val 4294967296 v ≤ q ∧ q ≤ val 4294967296 u / val 4294967296 v + 1 ∧ Ev (quot_guess.f (nl u) (nl v)) (q : Int) := by
  have bv1 := hdv.gd (by decide) (n + 1)
  have bv2 := hdv.gd (by decide) n
  have bu2 := hdu.gd (by decide) n
  have bu1 := hdu.gd (by decide) (n + 1)
  have bu0 := hdu.gd (by decide) (n + 2)
  have sv := val_split 4294967296 v n (by omega)
  rw [val_drop _ v n (by omega), val_drop _ v (n + 1) (by omega), List.drop_of_length_le (by omega)] at sv
  have su := val_split 4294967296 u n (by omega)
  rw [val_drop _ u n (by omega), val_drop _ u (n + 1) (by omega), val_drop _ u (n + 2) (by omega), List.drop_of_length_le (by omega)] at su
  simp only [val, Nat.mul_zero, Nat.add_zero] at sv su
  have lv := val_lt (by decide) (hdv.take n)
  have lu := val_lt (by decide) (hdu.take n)
  rw [List.length_take, Nat.min_eq_left (by omega)] at lv lu
  obtain ⟨v1, hv1⟩ : ∃ x, gd v (n + 1) = x := ⟨_, rfl⟩
  obtain ⟨v2, hv2⟩ : ∃ x, gd v n = x := ⟨_, rfl⟩
  obtain ⟨u2, hu2⟩ : ∃ x, gd u n = x := ⟨_, rfl⟩
  obtain ⟨u1, hu1⟩ : ∃ x, gd u (n + 1) = x := ⟨_, rfl⟩
  obtain ⟨u0, hu0⟩ : ∃ x, gd u (n + 2) = x := ⟨_, rfl⟩
  rw [hv1, hv2] at sv
  rw [hu2, hu1, hu0] at su
  rw [hv1] at bv1 htop
  rw [hv2] at bv2
  rw [hu2] at bu2
  rw [hu1] at bu1
  rw [hu0] at bu0
  obtain ⟨V, hV⟩ : ∃ x, val 4294967296 v = x := ⟨_, rfl⟩
  obtain ⟨U, hU⟩ : ∃ x, val 4294967296 u = x := ⟨_, rfl⟩
  rw [hV] at sv hlt ⊢
  rw [hU] at su hlt ⊢
  generalize val 4294967296 (v.take n) = a at *
  generalize val 4294967296 (u.take n) = c at *
  have hP0 : 0 < 4294967296 ^ n := Nat.pow_pos (by decide)
  generalize 4294967296 ^ n = P at *
  have hV1 : (4294967296 * v1 + v2) * P ≤ V := by rw [sv, Nat.mul_comm P, Nat.add_comm v2]; omega
  have hV2 : V < (4294967296 * v1 + v2 + 1) * P := by rw [sv, Nat.add_mul, Nat.one_mul, Nat.mul_comm P, Nat.add_comm v2]; omega
  have hU1 : (4294967296 * (4294967296 * u0 + u1) + u2) * P ≤ U := by rw [su, Nat.mul_comm P, show u2 + 4294967296 * (u1 + 4294967296 * u0) = 4294967296 * (4294967296 * u0 + u1) + u2 by omega]; omega
  have hU2 : U < (4294967296 * (4294967296 * u0 + u1) + u2 + 1) * P := by rw [show (4294967296 * (4294967296 * u0 + u1) + u2 + 1) * P = (4294967296 * (4294967296 * u0 + u1) + u2) * P + P from Nat.succ_mul _ _, su, Nat.mul_comm P, show u2 + 4294967296 * (u1 + 4294967296 * u0) = 4294967296 * (4294967296 * u0 + u1) + u2 by omega]; omega
  have hV0 : 0 < V := by
    refine Nat.lt_of_lt_of_le ?_ hV1
    exact Nat.mul_pos (by omega) hP0
  have hQ : U / V < 4294967296 := by rw [Nat.div_lt_iff_lt_mul hV0]; exact hlt
  have hu0v : u0 ≤ v1 := by
    rcases Nat.lt_or_ge v1 u0 with h | h
    · exfalso
      have h1 : 4294967296 * V ≤ U := by
        refine Nat.le_trans ?_ hU1
        refine Nat.le_trans (Nat.mul_le_mul_left 4294967296 (Nat.le_of_lt hV2)) ?_
        rw [← Nat.mul_assoc]
        exact Nat.mul_le_mul_right P (by omega)
      omega
    · exact h
  have htp : 4294967296 * u0 + u1 < 4294967296 * v1 + 4294967296 := by omega
  have hlow : ∀ q, q ≤ U / V → q * (4294967296 * v1 + v2) ≤ 4294967296 * (4294967296 * u0 + u1) + u2 := fun q hq => guess_low hV1 hU2 hq hV0
  have hv10 : 0 < v1 := by omega
  have hq0 : (4294967296 * u0 + u1) / v1 ≤ 4294967297 := by
    have h1 : (4294967296 * u0 + u1) / v1 < 4294967298 := by
      rw [Nat.div_lt_iff_lt_mul hv10]
      omega
    omega
  have hQq : U / V ≤ (4294967296 * u0 + u1) / v1 := by
    rw [Nat.le_div_iff_mul_le hv10]
    have h1 := hlow (U / V) (Nat.le_refl _)
    rw [Nat.mul_add, Nat.mul_left_comm] at h1
    omega
  obtain ⟨q', r', h1, h2, h3, h4, h5⟩ := guess_loop u v n hn hu hdu hdv v1 v2 u2 (4294967296 * u0 + u1) (U / V) hv1 hv2 hu2 hb hlow hQ htp ((4294967296 * u0 + u1) / v1) ((4294967296 * u0 + u1) % v1) (by have := Nat.div_add_mod (4294967296 * u0 + u1) v1; rw [Nat.mul_comm]; exact this) (by have := Nat.mod_lt (4294967296 * u0 + u1) hv10; omega) hQq hq0
  refine ⟨q', h1, h2, ?_, ?_⟩
  · refine guess_high hV2 hU1 ?_ (by omega) hV0
    rw [Nat.mul_add, Nat.mul_left_comm, ← h3, Nat.mul_add]
    omega
  · have e1 : IntKind.i64.wrap (((n + 2 : Nat) : Int) - 1) = ((n + 1 : Nat) : Int) := by rw [wrap_id] <;> omega
    refine ev_eq quot_guess.f_eq ?_
    rw [nl_length, nl_length, hn, hu, e1]
    rw [rd_nl, rd_nl, rd_nl, hv1, hu0, hu1, wrap_u64_nat (n := v1) (by omega), two_limbs bu0 bu1, tdiv_nat, tmod_nat, wrap_u64_nat (by omega)]
    exact ev_pos (by omega) (ev_pos (by omega) (ev_pos (by omega) (ev_pos (by omega) (ev_pos (by omega) (ev_pos (by omega) (ev_pos (by omega) (ev_pos (by omega) (ev_pos (by omega) (ev_pos (by omega) h5)))))))))

/-! ### a digit times the divisor is taken off -/
theorem less_loop (v U : List Nat) (n q : Nat) (hn : v.length = n) (hU : U.length = n + 1) (hdv : Dg 4294967296 v) (hdU : Dg 4294967296 U) (hq : q < 4294967296) (hb : n ≤ 1099511627776) : ∀ (d i c b : Nat) (cur : List Nat), i + d = n → cur.length = n + 1 → Dg 4294967296 cur → c < 4294967296 → b ≤ 1 → cur.drop i = U.drop i → val 4294967296 (cur.take i) + q * val 4294967296 (v.take i) = val 4294967296 (U.take i) + 4294967296 ^ i * (c + b) →
    ∃ (R : List Nat) (e : Nat), R.length = n + 1 ∧ Dg 4294967296 R ∧ e ≤ 1 ∧ val 4294967296 R + q * val 4294967296 v = val 4294967296 U + 4294967296 ^ (n + 1) * e ∧ Ev (quot_less.l0 (nl cur) (nl v) (q : Int) (c : Int) (b : Int) (nl v) (n : Int) (i : Int)) ((e : Int) == 1, nl R) := by
  have step : ∀ {c b x g : Nat}, c < 4294967296 → b ≤ 1 → x < 4294967296 → g < 4294967296 → (c + q * x) / 4294967296 < 4294967296 ∧ IntKind.u64.wrap ((c : Int) + (IntKind.u64.wrap ((q : Int) * (IntKind.u64.wrap (x : Int))))) = ((c + q * x : Nat) : Int) := by
    intro c b x g hc hb hx hg
    have hp : q * x ≤ 4294967295 * 4294967295 := Nat.mul_le_mul (by omega) (by omega)
    rw [wrap_u64_nat (n := x) (by omega), show (q : Int) * (x : Int) = ((q * x : Nat) : Int) from (Int.natCast_mul q x).symm]
    generalize q * x = p at *
    rw [wrap_u64_nat (by omega), show (c : Int) + (p : Int) = ((c + p : Nat) : Int) by omega, wrap_u64_nat (by omega)]
    exact ⟨by omega, rfl⟩
  intro d
  induction d with
  | zero =>
    intro i c b cur hi hc1 hdc hc hb1 hdr hv
    have hi : i = n := by omega
    subst hi
    have hg := hdc.gd (by decide) i
    have hgU : gd cur i = gd U i := by
      have h1 := gd_drop cur i 0
      have h2 := gd_drop U i 0
      rw [hdr, h2] at h1
      simpa using h1.symm
    have hs := sub32_nat hg hc hb1
    obtain ⟨g, hg1⟩ : ∃ x, gd cur i = x := ⟨_, rfl⟩
    rw [hg1] at hs hg hgU
    obtain ⟨dd, hdd⟩ : ∃ x, x = (if g < c + b then g + 4294967296 - c - b else g - c - b) := ⟨_, rfl⟩
    obtain ⟨e, he⟩ : ∃ x, x = (if g < c + b then 1 else 0) := ⟨_, rfl⟩
    rw [← hdd, ← he] at hs
    have hde : dd + c + b = g + 4294967296 * e ∧ e ≤ 1 ∧ dd < 4294967296 := by rw [hdd, he]; split <;> omega
    obtain ⟨hde, he1, hdl⟩ := hde
    refine ⟨cur.set i dd, e, by rw [List.length_set]; exact hc1, hdc.set i hdl, he1, ?_, ?_⟩
    · have s1 := val_set 4294967296 cur i dd (by omega)
      have s2 := val_split 4294967296 cur i (by omega)
      rw [val_drop _ cur i (by omega), List.drop_of_length_le (by omega)] at s2
      have s3 := val_split 4294967296 U i (by omega)
      rw [val_drop _ U i (by omega), List.drop_of_length_le (by omega)] at s3
      simp only [val, Nat.mul_zero, Nat.add_zero] at s2 s3
      rw [← hgU] at s3
      rw [hg1] at s1 s2
      rw [List.take_of_length_le (l := v) (by omega)] at hv
      rw [Nat.pow_succ]
      generalize 4294967296 ^ i = P at *
      generalize q * val 4294967296 v = W at *
      have e1 : P * (dd + c + b) = P * (g + 4294967296 * e) := by rw [hde]
      rw [Nat.mul_add, Nat.mul_add, Nat.mul_add, ← Nat.mul_assoc] at e1
      rw [Nat.mul_add] at hv
      omega
    · refine ev_loop quot_less.l0_eq quot_less.l0_step ?_
      refine ev_neg (by omega) ?_
      rw [nl_length, nl_length, hn, hc1]
      refine ev_pos (by omega) (ev_pos (by omega) ?_)
      rw [Int.toNat_natCast, getD_nl, hg1, u32_id (x := (c : Int)) (by omega) (by omega)]
      refine Ev.bind hs (ev_pos (by omega) (ev_pos (by omega) (ev_now ?_)))
      rw [nl_set]; rfl
  | succ d ih =>
    intro i c b cur hi hc1 hdc hc hb1 hdr hv
    have hg := hdc.gd (by decide) i
    have hx := hdv.gd (by decide) i
    have hgU : gd cur i = gd U i := by
      have h1 := gd_drop cur i 0
      have h2 := gd_drop U i 0
      rw [hdr, h2] at h1
      simpa using h1.symm
    have hst := step hc hb1 hx hg
    have hs := sub32_nat hg (Nat.mod_lt (c + q * gd v i) (by decide : 0 < 4294967296)) hb1
    obtain ⟨g, hg1⟩ : ∃ x, gd cur i = x := ⟨_, rfl⟩
    obtain ⟨x, hx1⟩ : ∃ y, gd v i = y := ⟨_, rfl⟩
    rw [hg1] at hs hg hgU
    rw [hx1] at hx hst hs
    have hm := Nat.mod_add_div (c + q * x) 4294967296
    have hml := Nat.mod_lt (c + q * x) (by decide : 0 < 4294967296)
    obtain ⟨pm, hpm⟩ : ∃ y, (c + q * x) % 4294967296 = y := ⟨_, rfl⟩
    obtain ⟨pd, hpd⟩ : ∃ y, (c + q * x) / 4294967296 = y := ⟨_, rfl⟩
    rw [hpm] at hs hm hml
    rw [hpd] at hm hst
    obtain ⟨dd, hdd⟩ : ∃ y, y = (if g < pm + b then g + 4294967296 - pm - b else g - pm - b) := ⟨_, rfl⟩
    obtain ⟨e, he⟩ : ∃ y, y = (if g < pm + b then 1 else 0) := ⟨_, rfl⟩
    rw [← hdd, ← he] at hs
    have hde : dd + pm + b = g + 4294967296 * e ∧ e ≤ 1 ∧ dd < 4294967296 := by rw [hdd, he]; split <;> omega
    obtain ⟨hde, he1, hdl⟩ := hde
    obtain ⟨R, e', h1, h2, h3, h4, h5⟩ := ih (i + 1) pd e (cur.set i dd) (by omega) (by rw [List.length_set]; exact hc1) (hdc.set i hdl) hst.1 he1
      (by
        rw [drop_set_succ]
        have h1 : (cur.drop i).drop 1 = (U.drop i).drop 1 := by rw [hdr]
        rw [List.drop_drop, List.drop_drop] at h1
        exact h1)
      (by
        rw [take_set_succ _ _ _ (by omega), val_snoc, List.length_take, Nat.min_eq_left (by omega), val_take_succ, val_take_succ, hx1, ← hgU, Nat.pow_succ, Nat.mul_add q, Nat.mul_left_comm q]
        generalize 4294967296 ^ i = P at *
        generalize q * val 4294967296 (v.take i) = W at *
        generalize q * x = z at *
        have e1 : P * (dd + pm + b) = P * (g + 4294967296 * e) := by rw [hde]
        have e2 : P * (pm + 4294967296 * pd) = P * (c + z) := by rw [hm]
        rw [Nat.mul_add, Nat.mul_add, Nat.mul_add, ← Nat.mul_assoc] at e1
        rw [Nat.mul_add, Nat.mul_add, ← Nat.mul_assoc] at e2
        rw [Nat.mul_add] at hv ⊢
        omega)
    refine ⟨R, e', h1, h2, h3, h4, ?_⟩
    refine ev_loop quot_less.l0_eq quot_less.l0_step ?_
    refine ev_pos (by omega) (ev_pos (by omega) (ev_pos (by rw [nl_length]; omega) (ev_pos (by omega) (ev_pos (by rw [nl_length]; omega) ?_))))
    rw [rd_nl, Int.toNat_natCast, getD_nl, hg1, hx1, hst.2, u32_nat, hpm, fdiv32, hpd]
    refine Ev.bind hs (ev_pos (by omega) (ev_pos (by rw [nl_length]; omega) ?_))
    rw [nl_set, succ_wrap (by omega)]
    exact h5
theorem qless {v U : List Nat} {n q : Nat} (hn : v.length = n) (hU : U.length = n + 1) (hdv : Dg 4294967296 v) (hdU : Dg 4294967296 U) (hq : q < 4294967296) (hb : n ≤ 1099511627776) :
    ∃ (R : List Nat) (e : Nat), R.length = n + 1 ∧ Dg 4294967296 R ∧ e ≤ 1 ∧ val 4294967296 R + q * val 4294967296 v = val 4294967296 U + 4294967296 ^ (n + 1) * e ∧ Ev (quot_less.f (nl U) (nl v) (q : Int)) ((e : Int) == 1, nl R) := by
  obtain ⟨R, e, h1, h2, h3, h4, h5⟩ := less_loop v U n q hn hU hdv hdU hq hb n 0 0 0 U (by omega) hU hdU (by omega) (by omega) rfl (by simp [val])
  refine ⟨R, e, h1, h2, h3, h4, ?_⟩
  refine ev_eq quot_less.f_eq ?_
  rw [nl_length, hn]
  exact h5

/-! ### the divisor is put back -/
theorem more_loop (v U : List Nat) (n : Nat) (hn : v.length = n) (hU : U.length = n + 1) (hdv : Dg 4294967296 v) (hdU : Dg 4294967296 U) (hb : n ≤ 1099511627776) : ∀ (d i c : Nat) (cur : List Nat), i + d = n → cur.length = n + 1 → Dg 4294967296 cur → c ≤ 1 → cur.drop i = U.drop i → val 4294967296 (cur.take i) + 4294967296 ^ i * c = val 4294967296 (U.take i) + val 4294967296 (v.take i) →
    ∃ (R : List Nat) (e : Nat), R.length = n + 1 ∧ Dg 4294967296 R ∧ val 4294967296 R + 4294967296 ^ (n + 1) * e = val 4294967296 U + val 4294967296 v ∧ Ev (quot_more.l0 (nl cur) (nl v) (c : Int) (nl v) (n : Int) (i : Int)) ((), nl R) := by
  intro d
  induction d with
  | zero =>
    intro i c cur hi hc1 hdc hc hdr hv
    have hi : i = n := by omega
    subst hi
    have hg := hdc.gd (by decide) i
    have hgU : gd cur i = gd U i := by
      have h1 := gd_drop cur i 0
      have h2 := gd_drop U i 0
      rw [hdr, h2] at h1
      simpa using h1.symm
    obtain ⟨g, hg1⟩ : ∃ x, gd cur i = x := ⟨_, rfl⟩
    rw [hg1] at hg hgU
    refine ⟨cur.set i ((g + c) % 4294967296), (g + c) / 4294967296, by rw [List.length_set]; exact hc1, hdc.set i (Nat.mod_lt _ (by decide)), ?_, ?_⟩
    · have s1 := val_set 4294967296 cur i ((g + c) % 4294967296) (by omega)
      have s2 := val_split 4294967296 cur i (by omega)
      rw [val_drop _ cur i (by omega), List.drop_of_length_le (by omega)] at s2
      have s3 := val_split 4294967296 U i (by omega)
      rw [val_drop _ U i (by omega), List.drop_of_length_le (by omega)] at s3
      simp only [val, Nat.mul_zero, Nat.add_zero] at s2 s3
      rw [← hgU] at s3
      rw [hg1] at s1 s2
      rw [List.take_of_length_le (l := v) (by omega)] at hv
      have hm := Nat.mod_add_div (g + c) 4294967296
      rw [Nat.pow_succ]
      generalize (g + c) % 4294967296 = md at *
      generalize (g + c) / 4294967296 = dv at *
      generalize 4294967296 ^ i = P at *
      have e1 : P * (md + 4294967296 * dv) = P * (g + c) := by rw [hm]
      rw [Nat.mul_add, Nat.mul_add, ← Nat.mul_assoc] at e1
      omega
    · refine ev_loop quot_more.l0_eq quot_more.l0_step ?_
      refine ev_neg (by omega) ?_
      rw [nl_length, nl_length, hn, hc1]
      refine ev_pos (by omega) (ev_pos (by omega) (ev_pos (by omega) (ev_pos (by omega) (ev_now ?_))))
      rw [Int.toNat_natCast, getD_nl, hg1, show (g : Int) + (c : Int) = ((g + c : Nat) : Int) by omega, u32_nat, nl_set]
  | succ d ih =>
    intro i c cur hi hc1 hdc hc hdr hv
    have hg := hdc.gd (by decide) i
    have hx := hdv.gd (by decide) i
    have hgU : gd cur i = gd U i := by
      have h1 := gd_drop cur i 0
      have h2 := gd_drop U i 0
      rw [hdr, h2] at h1
      simpa using h1.symm
    have hs := add32_nat hg hx hc
    obtain ⟨g, hg1⟩ : ∃ x, gd cur i = x := ⟨_, rfl⟩
    obtain ⟨x, hx1⟩ : ∃ y, gd v i = y := ⟨_, rfl⟩
    rw [hg1] at hs hg hgU
    rw [hx1] at hx hs
    obtain ⟨R, e', h1, h2, h4, h5⟩ := ih (i + 1) ((g + x + c) / 4294967296) (cur.set i ((g + x + c) % 4294967296)) (by omega) (by rw [List.length_set]; exact hc1) (hdc.set i (Nat.mod_lt _ (by decide))) (by omega)
      (by
        rw [drop_set_succ]
        have h1 : (cur.drop i).drop 1 = (U.drop i).drop 1 := by rw [hdr]
        rw [List.drop_drop, List.drop_drop] at h1
        exact h1)
      (by
        rw [take_set_succ _ _ _ (by omega), val_snoc, List.length_take, Nat.min_eq_left (by omega), val_take_succ, val_take_succ, hx1, ← hgU, Nat.pow_succ]
        have hm := Nat.mod_add_div (g + x + c) 4294967296
        generalize (g + x + c) % 4294967296 = md at *
        generalize (g + x + c) / 4294967296 = dv at *
        generalize 4294967296 ^ i = P at *
        have e1 : P * (md + 4294967296 * dv) = P * (g + x + c) := by rw [hm]
        rw [Nat.mul_add, Nat.mul_add, Nat.mul_add, ← Nat.mul_assoc] at e1
        omega)
    refine ⟨R, e', h1, h2, h4, ?_⟩
    refine ev_loop quot_more.l0_eq quot_more.l0_step ?_
    refine ev_pos (by omega) (ev_pos (by omega) (ev_pos (by rw [nl_length]; omega) (ev_pos (by omega) (ev_pos (by rw [nl_length]; omega) ?_))))
    rw [rd_nl, Int.toNat_natCast, getD_nl, hg1, hx1]
    refine Ev.bind hs (ev_pos (by omega) (ev_pos (by rw [nl_length]; omega) ?_))
    rw [nl_set, succ_wrap (by omega)]
    exact h5
theorem qmore {v U : List Nat} {n : Nat} (hn : v.length = n) (hU : U.length = n + 1) (hdv : Dg 4294967296 v) (hdU : Dg 4294967296 U) (hb : n ≤ 1099511627776) :
    ∃ (R : List Nat) (e : Nat), R.length = n + 1 ∧ Dg 4294967296 R ∧ val 4294967296 R + 4294967296 ^ (n + 1) * e = val 4294967296 U + val 4294967296 v ∧ Ev (quot_more.f (nl U) (nl v)) ((), nl R) := by
  obtain ⟨R, e, h1, h2, h4, h5⟩ := more_loop v U n hn hU hdv hdU hb n 0 0 U (by omega) hU hdU (by omega) rfl (by simp [val])
  refine ⟨R, e, h1, h2, h4, ?_⟩
  refine ev_eq quot_more.f_eq ?_
  rw [nl_length, hn]
  exact h5
end Go.Proofs.YtlnbcpcnpofnoaaGreatDoor.F

/- Quotients of numbers, halves, and the greatest common divisor; the document's quotient. -/
namespace Go.Proofs.YtlnbcpcnpofnoaaGreatDoor.F
open Go Go.Proofs.YtlnbcpcnpofnoaaGreatDoor.E
set_option linter.unusedVariables false
set_option linter.unusedSimpArgs false

/-! ### shifted back -/
theorem back_loop (x : List Nat) (k : Nat) (hx : Dg 4294967296 x) (hk : k < 32) (hl : x.length ≤ 1099511627776) : ∀ (d i : Nat) (out : List Nat), i + d = x.length → out.length = x.length → Dg 4294967296 out → 2 ^ k * val 4294967296 (out.take i) + gd x 0 % 2 ^ k = val 4294967296 (x.take i) + 4294967296 ^ i * (gd x i % 2 ^ k) →
    ∃ R : List Nat, R.length = x.length ∧ Dg 4294967296 R ∧ val 4294967296 R = val 4294967296 x / 2 ^ k ∧ Ev (quot_back.l0 (nl x) (k : Int) (nl out) (x.length : Int) (i : Int)) (nl R) := by
  have hp0 : 0 < 2 ^ k := Nat.pow_pos (by decide)
  have hpp : (2 : Nat) ^ k * 2 ^ (32 - k) = 4294967296 := by rw [← Nat.pow_add, show k + (32 - k) = 32 by omega]
  intro d
  induction d with
  | zero =>
    intro i out hi ho hd hv
    rw [List.take_of_length_le (by omega), List.take_of_length_le (by omega), gd_ge (l := x) (i := i) (by omega), Nat.zero_mod, Nat.mul_zero, Nat.add_zero] at hv
    refine ⟨out, ho, hd, ?_, ?_⟩
    · rw [← hv, Nat.mul_add_div hp0, Nat.div_eq_of_lt (Nat.mod_lt _ hp0), Nat.add_zero]
    · refine ev_loop quot_back.l0_eq quot_back.l0_step ?_
      exact ev_neg (by omega) (ev_now rfl)
  | succ d ih =>
    intro i out hi ho hd hv
    have hg := hx.gd (by decide) i
    have hg2 := hx.gd (by decide) (i + 1)
    obtain ⟨g, hg1⟩ : ∃ y, gd x i = y := ⟨_, rfl⟩
    obtain ⟨h, hh1⟩ : ∃ y, gd x (i + 1) = y := ⟨_, rfl⟩
    rw [hg1] at hg hv
    rw [hh1] at hg2
    have hgk : g / 2 ^ k < 2 ^ (32 - k) := by rw [Nat.div_lt_iff_lt_mul hp0, Nat.mul_comm, hpp]; exact hg
    have hor : g / 2 ^ k ||| 2 ^ (32 - k) * (h % 2 ^ k) = g / 2 ^ k + 2 ^ (32 - k) * (h % 2 ^ k) := or_low hgk
    have hlt : g / 2 ^ k + 2 ^ (32 - k) * (h % 2 ^ k) < 4294967296 := by
      have h1 := Nat.mul_le_mul_left (2 ^ (32 - k)) (Nat.succ_le_of_lt (Nat.mod_lt h hp0))
      rw [Nat.succ_eq_add_one, Nat.mul_add, Nat.mul_comm _ (2 ^ k), hpp] at h1
      omega
    have b1 : g / 2 ^ k < 4294967296 := Nat.lt_of_le_of_lt (Nat.div_le_self _ _) hg
    have b2 : 2 ^ (32 - k) * (h % 2 ^ k) < 4294967296 := Nat.lt_of_le_of_lt (Nat.le_add_left _ _) hlt
    obtain ⟨R, h1, h2, h3, h4⟩ := ih (i + 1) (out.set i (g / 2 ^ k + 2 ^ (32 - k) * (h % 2 ^ k))) (by omega) (by rw [List.length_set]; exact ho) (hd.set i hlt)
      (by
        rw [take_set_succ _ _ _ (by omega), val_snoc, List.length_take, Nat.min_eq_left (by omega), val_take_succ, hg1, hh1, Nat.pow_succ]
        have hm := Nat.mod_add_div g (2 ^ k)
        have e1 : 2 ^ k * (4294967296 ^ i * (g / 2 ^ k + 2 ^ (32 - k) * (h % 2 ^ k))) = 4294967296 ^ i * (2 ^ k * (g / 2 ^ k)) + 4294967296 ^ i * 4294967296 * (h % 2 ^ k) := by
          rw [Nat.mul_left_comm, Nat.mul_add, Nat.mul_add, ← Nat.mul_assoc (2 ^ k) (2 ^ (32 - k)), hpp, ← Nat.mul_assoc (4294967296 ^ i) 4294967296]
        rw [Nat.mul_add, e1]
        have e2 : 4294967296 ^ i * (g % 2 ^ k + 2 ^ k * (g / 2 ^ k)) = 4294967296 ^ i * g := by rw [hm]
        rw [Nat.mul_add] at e2
        omega)
    refine ⟨R, h1, h2, h3, ?_⟩
    clear hv ih h1 h2 h3
    refine ev_loop quot_back.l0_eq quot_back.l0_step ?_
    refine ev_pos (by omega) (ev_pos (by omega) (ev_pos (by rw [nl_length]; omega) (ev_pos (by omega) (ev_pos (by omega) (ev_pos (by rw [nl_length]; omega) ?_)))))
    rw [rd_nl, hg1, shr32 hk, Int.toNat_natCast (n := i), nl_set, succ_wrap (by omega), nl_length]
    by_cases hlast : i + 1 < x.length
    · refine ev_pos (by omega) (ev_pos (by omega) (ev_pos (by (try simp only [nl_length, L_length, D_length, rd_nl, getD_nl, List.length_append, List.length_cons, List.length_nil, List.length_set, List.length_replicate, List.length_take, List.length_drop, Nat.zero_add, ge_iff_le, gt_iff_lt]); omega) (ev_pos (by omega) (ev_pos (by omega) (ev_pos (by omega) (ev_pos (by omega) (ev_pos (by (try simp only [nl_length, L_length, D_length, rd_nl, getD_nl, List.length_append, List.length_cons, List.length_nil, List.length_set, List.length_replicate, List.length_take, List.length_drop, Nat.zero_add, ge_iff_le, gt_iff_lt]); omega) ?_)))))))
      rw [rd_nl, getD_nl, gd_set _ _ _ _ (by omega), if_pos rfl, hh1]
      have e3 : IntKind.u32.wrap ((IntKind.u64.wrap ((IntKind.u64.wrap ((h : Nat) : Int)) * 2 ^ 32)).fdiv (2 ^ (min ((k : Nat) : Int).toNat 64))) = ((2 ^ (32 - k) * (h % 2 ^ k) : Nat) : Int) := by
        rw [wrap_u64_nat (n := h) (by omega), show ((h : Nat) : Int) * 2 ^ 32 = ((h * 4294967296 : Nat) : Int) by omega, wrap_u64_nat (n := h * 4294967296) (by omega), shr64 hk]
        have : h * 4294967296 / 2 ^ k = h * 2 ^ (32 - k) := by
          rw [← hpp, Nat.mul_left_comm, Nat.mul_div_cancel_left _ hp0]
        rw [this, u32_nat]
        congr 1
        rw [Nat.mul_comm h, show (4294967296 : Nat) = 2 ^ (32 - k) * 2 ^ k by rw [Nat.mul_comm, hpp], Nat.mul_mod_mul_left]
      rw [e3, bits_or32 b1 b2, hor, nl_set, List.set_set]
      exact h4
    · refine ev_neg (by omega) ?_
      have : h = 0 := by rw [← hh1]; exact gd_ge (by omega)
      rw [this, Nat.zero_mod, Nat.mul_zero, Nat.add_zero] at h4
      exact h4
theorem qback {x : List Nat} {k : Nat} (hx : Dg 4294967296 x) (hk : k < 32) (hl : x.length ≤ 1099511627776) :
    ∃ R : List Nat, R.length = x.length ∧ Dg 4294967296 R ∧ val 4294967296 R = val 4294967296 x / 2 ^ k ∧ Ev (quot_back.f (nl x) (k : Int)) (nl R) := by
  obtain ⟨R, h1, h2, h3, h4⟩ := back_loop x k hx hk hl x.length 0 (List.replicate x.length 0) (by omega) (by rw [List.length_replicate]) (Dg.replicate (by decide) _) (by simp [val])
  refine ⟨R, h1, h2, h3, ?_⟩
  refine ev_eq quot_back.f_eq ?_
  rw [nl_length, Int.toNat_natCast]
  refine ev_pos (by omega) (ev_pos (by omega) ?_)
  rw [show List.replicate x.length (0 : Int) = nl (List.replicate x.length 0) from nl_replicate _ 0]
  exact h4

/-! ### one digit of a long quotient -/
theorem long_digit {u v : List Nat} {n j : Nat} (hn : v.length = n + 2) (hj : j + (n + 3) ≤ u.length) (hdu : Dg 4294967296 u) (hdv : Dg 4294967296 v) (hb : u.length ≤ 1099511627776) (htop : 2147483648 ≤ gd v (n + 1)) (hlt : val 4294967296 (u.drop (j + 1)) < val 4294967296 v) :
    ∃ (W : List Nat) (Q : Nat), W.length = u.length ∧ Dg 4294967296 W ∧ Q < 4294967296 ∧ val 4294967296 (W.drop j) < val 4294967296 v ∧ val 4294967296 W + 4294967296 ^ j * (val 4294967296 v * Q) = val 4294967296 u ∧
      ∀ {α : Type} {f : List Int → Int → M α} {r : α}, Ev (f (nl W) (Q : Int)) r → ∀ E : Int, E = ((j + (n + 3) : Nat) : Int) →
        Ev (M.bind (quot_guess.f (((nl u).drop ((j : Nat) : Int).toNat).take (E.toNat - ((j : Nat) : Int).toNat)) (nl v)) fun t1 => if 0 < E.toNat - ((j : Nat) : Int).toNat then M.bind (quot_less.f (((nl u).drop ((j : Nat) : Int).toNat).take (E.toNat - ((j : Nat) : Int).toNat)) (nl v) t1) fun t2 => if t2.1 = true then (if 0 < E.toNat - ((j : Nat) : Int).toNat then M.bind (quot_more.f ((((nl u).take ((j : Nat) : Int).toNat ++ t2.2 ++ (nl u).drop (((j : Nat) : Int).toNat + (E.toNat - ((j : Nat) : Int).toNat))).drop ((j : Nat) : Int).toNat).take (E.toNat - ((j : Nat) : Int).toNat)) (nl v)) fun t3 => f (((nl u).take ((j : Nat) : Int).toNat ++ t2.2 ++ (nl u).drop (((j : Nat) : Int).toNat + (E.toNat - ((j : Nat) : Int).toNat))).take ((j : Nat) : Int).toNat ++ t3.2 ++ ((nl u).take ((j : Nat) : Int).toNat ++ t2.2 ++ (nl u).drop (((j : Nat) : Int).toNat + (E.toNat - ((j : Nat) : Int).toNat))).drop (((j : Nat) : Int).toNat + (E.toNat - ((j : Nat) : Int).toNat))) (IntKind.u32.wrap (IntKind.u64.wrap (t1 - 1))) else M.none) else f ((nl u).take ((j : Nat) : Int).toNat ++ t2.2 ++ (nl u).drop (((j : Nat) : Int).toNat + (E.toNat - ((j : Nat) : Int).toNat))) (IntKind.u32.wrap t1) else M.none) r := by
  have ept : ∀ w : List Nat, ((nl w).drop j).take (n + 3) = nl ((w.take (j + (n + 3))).drop j) := by
    intro w; rw [nl_drop, nl_take, List.drop_take, show j + (n + 3) - j = n + 3 by omega]
  obtain ⟨p, hp⟩ : ∃ p, (u.take (j + (n + 3))).drop j = p := ⟨_, rfl⟩
  have hpl : p.length = n + 3 := by rw [← hp, List.length_drop, List.length_take]; omega
  have hdp : Dg 4294967296 p := by rw [← hp]; exact (hdu.take _).drop _
  have hus : u = u.take j ++ p ++ u.drop (j + (n + 3)) := by
    have h1 : u.take (j + (n + 3)) = (u.take (j + (n + 3))).take j ++ (u.take (j + (n + 3))).drop j := (List.take_append_drop j _).symm
    rw [List.take_take, Nat.min_eq_left (by omega), hp] at h1
    rw [← h1, List.take_append_drop]
  have hud : u.drop j = p ++ u.drop (j + (n + 3)) := by
    have h1 : List.drop j u = List.drop j (u.take j ++ p ++ u.drop (j + (n + 3))) := congrArg (List.drop j) hus
    rw [List.append_assoc, List.drop_append_of_le_length (by rw [List.length_take]; omega), List.drop_of_length_le (l := u.take j) (by rw [List.length_take]; omega), List.nil_append] at h1
    exact h1
  have hvd : val 4294967296 (u.drop j) = val 4294967296 p + 4294967296 ^ (n + 3) * val 4294967296 (u.drop (j + (n + 3))) := by rw [hud, val_append, hpl]
  have hvl := val_lt (by decide) hdv
  rw [hn] at hvl
  have hgj := hdu.gd (by decide) j
  have hdrop := val_drop 4294967296 u j (by omega)
  have hz : val 4294967296 (u.drop (j + (n + 3))) = 0 := by
    rcases Nat.eq_zero_or_pos (val 4294967296 (u.drop (j + (n + 3)))) with h | h
    · exact h
    · exfalso
      have h1 := Nat.mul_le_mul_left (4294967296 ^ (n + 3)) h
      rw [show n + 3 = n + 2 + 1 by rfl, Nat.pow_succ] at h1 hvd
      generalize 4294967296 ^ (n + 2) = P at *
      omega
  have hU : val 4294967296 (u.drop j) = val 4294967296 p := by rw [hvd, hz, Nat.mul_zero, Nat.add_zero]
  have hUlt : val 4294967296 p < 4294967296 * val 4294967296 v := by omega
  obtain ⟨q, hq, hq1, hq2, hqe⟩ := qguess hn (by omega) hdp hdv (by omega) htop hUlt
  obtain ⟨R, e, hR, hdR, he, hRv, hRe⟩ := qless (n := n + 2) hn (by omega) hdv hdp hq (by omega)
  have hV0 : 0 < val 4294967296 v := by omega
  have hdm := Nat.div_add_mod (val 4294967296 p) (val 4294967296 v)
  have hml := Nat.mod_lt (val 4294967296 p) hV0
  have hRl := val_lt (by decide) hdR
  rw [hR] at hRl
  -- what a new part makes of the whole
  have mk : ∀ R2 : List Nat, R2.length = n + 3 → Dg 4294967296 R2 → val 4294967296 R2 = val 4294967296 p % val 4294967296 v →
      (u.take j ++ R2 ++ u.drop (j + (n + 3))).length = u.length ∧ Dg 4294967296 (u.take j ++ R2 ++ u.drop (j + (n + 3))) ∧ val 4294967296 ((u.take j ++ R2 ++ u.drop (j + (n + 3))).drop j) < val 4294967296 v ∧ val 4294967296 (u.take j ++ R2 ++ u.drop (j + (n + 3))) + 4294967296 ^ j * (val 4294967296 v * (val 4294967296 p / val 4294967296 v)) = val 4294967296 u := by
    intro R2 h1 h2 h3
    have hjl : (u.take j).length = j := by rw [List.length_take]; omega
    refine ⟨by simp only [List.length_append, List.length_take, List.length_drop]; omega, ((hdu.take _).append h2).append (hdu.drop _), ?_, ?_⟩
    · rw [List.append_assoc, List.drop_append_of_le_length (by omega), List.drop_of_length_le (by omega), List.nil_append, val_append, hz, Nat.mul_zero, Nat.add_zero, h3]
      exact hml
    · have e1 := congrArg (val 4294967296) hus
      rw [val_append, val_append, hz, Nat.mul_zero, Nat.add_zero, hjl] at e1
      rw [val_append, val_append, hz, Nat.mul_zero, Nat.add_zero, hjl, h3, e1, Nat.add_assoc, ← Nat.mul_add, Nat.add_comm (val 4294967296 p % val 4294967296 v), hdm]
  rcases Nat.eq_zero_or_pos e with rfl | he0
  · -- the guess was right
    rw [Nat.mul_zero, Nat.add_zero] at hRv
    have hqQ : q = val 4294967296 p / val 4294967296 v := by
      rcases Nat.lt_or_ge (val 4294967296 p / val 4294967296 v) q with h | h
      · exfalso
        have h1 : q = val 4294967296 p / val 4294967296 v + 1 := by omega
        rw [h1, Nat.add_mul, Nat.one_mul, Nat.mul_comm] at hRv
        omega
      · omega
    have hRm : val 4294967296 R = val 4294967296 p % val 4294967296 v := by
      rw [hqQ, Nat.mul_comm] at hRv; omega
    obtain ⟨m1, m2, m3, m4⟩ := mk R hR hdR hRm
    refine ⟨_, val 4294967296 p / val 4294967296 v, m1, m2, by omega, m3, m4, ?_⟩
    intro α f r h E hE
    subst hE
    rw [Int.toNat_natCast, Int.toNat_natCast, show j + (n + 3) - j = n + 3 by omega, ept u, hp]
    refine Ev.bind hqe (ev_pos (by omega) (Ev.bind hRe (ev_neg (by simp) ?_)))
    dsimp only
    rw [nl_take, nl_drop, ← nl_append, ← nl_append, u32_id (x := (q : Int)) (by omega) (by omega), hqQ]
    exact h
  · -- one too great
    have he1 : e = 1 := by omega
    subst he1
    rw [Nat.mul_one] at hRv
    have hqQ : q = val 4294967296 p / val 4294967296 v + 1 := by
      rcases Nat.lt_or_ge (val 4294967296 p / val 4294967296 v) q with h | h
      · omega
      · exfalso
        have h1 : q = val 4294967296 p / val 4294967296 v := by omega
        rw [h1, Nat.mul_comm] at hRv
        omega
    obtain ⟨R2, e2, hR2, hdR2, hR2v, hR2e⟩ := qmore (n := n + 2) hn (by omega) hdv hdR (by omega)
    have hR2l := val_lt (by decide) hdR2
    rw [hR2] at hR2l
    have hRm : val 4294967296 R2 = val 4294967296 p % val 4294967296 v := by
      rw [hqQ, Nat.add_mul, Nat.one_mul, Nat.mul_comm] at hRv
      have hmB : val 4294967296 p % val 4294967296 v < 4294967296 ^ (n + 2 + 1) := by
        rw [Nat.pow_succ]
        generalize 4294967296 ^ (n + 2) = P at *
        omega
      rcases Nat.lt_or_ge e2 1 with h | h
      · have : e2 = 0 := by omega
        subst this
        rw [Nat.mul_zero, Nat.add_zero] at hR2v
        omega
      · rcases Nat.lt_or_ge 1 e2 with h2 | h2
        · exfalso
          have h3 := Nat.mul_le_mul_left (4294967296 ^ (n + 2 + 1)) h2
          rw [Nat.succ_eq_add_one, Nat.mul_add, Nat.mul_one] at h3
          omega
        · have : e2 = 1 := by omega
          subst this
          rw [Nat.mul_one] at hR2v
          omega
    obtain ⟨m1, m2, m3, m4⟩ := mk R2 hR2 hdR2 hRm
    refine ⟨_, val 4294967296 p / val 4294967296 v, m1, m2, by omega, m3, m4, ?_⟩
    intro α f r h E hE
    subst hE
    rw [Int.toNat_natCast, Int.toNat_natCast, show j + (n + 3) - j = n + 3 by omega, ept u, hp]
    have hjl : (u.take j).length = j := by rw [List.length_take]; omega
    have hQB : val 4294967296 p / val 4294967296 v < 4294967296 := Nat.lt_of_le_of_lt (by rw [hqQ]; exact Nat.le_succ _) hq
    have hjR : (u.take j ++ R).length = j + (n + 3) := by rw [List.length_append, hjl, hR]
    have eA : ∀ R1 : List Nat, (nl u).take j ++ nl R1 ++ (nl u).drop (j + (n + 3)) = nl (u.take j ++ R1 ++ u.drop (j + (n + 3))) := by
      intro R1; rw [nl_take, nl_drop, ← nl_append, ← nl_append]
    have e9 : (((nl u).take j ++ nl R ++ (nl u).drop (j + (n + 3))).drop j).take (n + 3) = nl R := by
      rw [eA, ept]
      congr 1
      rw [List.take_append_of_le_length (Nat.le_of_eq hjR.symm), List.take_of_length_le (Nat.le_of_eq hjR), List.drop_append_of_le_length (Nat.le_of_eq hjl.symm), List.drop_of_length_le (Nat.le_of_eq hjl), List.nil_append]
    have e10 : ((nl u).take j ++ nl R ++ (nl u).drop (j + (n + 3))).take j ++ nl R2 ++ ((nl u).take j ++ nl R ++ (nl u).drop (j + (n + 3))).drop (j + (n + 3)) = nl (u.take j ++ R2 ++ u.drop (j + (n + 3))) := by
      rw [eA, nl_take, nl_drop, ← nl_append, ← nl_append]
      congr 1
      rw [List.append_assoc (u.take j) R, List.take_append_of_le_length (Nat.le_of_eq hjl.symm), List.take_of_length_le (l := u.take j) (Nat.le_of_eq hjl), ← List.append_assoc (u.take j) R, List.drop_append_of_le_length (Nat.le_of_eq hjR.symm), List.drop_of_length_le (Nat.le_of_eq hjR), List.nil_append]
    refine Ev.bind hqe (ev_pos (by omega) (Ev.bind hRe (ev_pos (by simp) (ev_pos (by omega) (Ev.bind (a := ((), nl R2)) ?_ ?_)))))
    · dsimp only
      rw [e9]; exact hR2e
    · dsimp only
      rw [e10, show (q : Int) - 1 = ((val 4294967296 p / val 4294967296 v : Nat) : Int) by omega, wrap_u64_nat (by omega), u32_id (x := ((val 4294967296 p / val 4294967296 v : Nat) : Int)) (Int.natCast_nonneg _) (Int.ofNat_lt.mpr hQB)]
      exact h
end Go.Proofs.YtlnbcpcnpofnoaaGreatDoor.F

/- The long division (Knuth's D), quotients of numbers, halves, the greatest common divisor; the document's quotient. -/
namespace Go.Proofs.YtlnbcpcnpofnoaaGreatDoor.F
open Go Go.Proofs.YtlnbcpcnpofnoaaGreatDoor.E
set_option linter.unusedVariables false
set_option linter.unusedSimpArgs false

theorem long_loop (v : List Nat) (n K X m : Nat) (hn : v.length = n + 2) (hK : K < 32) (hdv : Dg 4294967296 v) (htop : 2147483648 ≤ gd v (n + 1)) (hb : m ≤ 1099511627776) : ∀ (i : Nat) (u q : List Nat), u.length = m → i + (n + 2) ≤ m → i ≤ q.length → q.length ≤ 1099511627776 → Dg 4294967296 u → Dg 4294967296 q → val 4294967296 (u.drop i) < val 4294967296 v → val 4294967296 u + 4294967296 ^ i * (val 4294967296 v * val 4294967296 (q.drop i)) = X →
    ∃ (Q R : List Nat) (w : Nat), Q.length = q.length ∧ Dg 4294967296 Q ∧ R.length = n + 2 ∧ Dg 4294967296 R ∧ w < val 4294967296 v ∧ w + val 4294967296 v * val 4294967296 Q = X ∧ val 4294967296 R = w / 2 ^ K ∧ Ev (quot_long.l0 (K : Int) (nl u) (nl v) (nl q) ((i : Int) - 1)) (nl Q, nl R) := by
  intro i
  induction i with
  | zero =>
    intro u q hu hi hq hqb hdu hdq hlt hv
    rw [List.drop_zero] at hlt hv
    rw [Nat.pow_zero, Nat.one_mul] at hv
    have hvl := val_lt (by decide) hdv
    rw [hn] at hvl
    have hs := val_split 4294967296 u (n + 2) (by omega)
    have hz : val 4294967296 (u.drop (n + 2)) = 0 := by
      rcases Nat.eq_zero_or_pos (val 4294967296 (u.drop (n + 2))) with h | h
      · exact h
      · exfalso
        have h1 := Nat.mul_le_mul_left (4294967296 ^ (n + 2)) h
        generalize 4294967296 ^ (n + 2) = P at *
        omega
    rw [hz, Nat.mul_zero, Nat.add_zero] at hs
    obtain ⟨R, h1, h2, h3, h4⟩ := qback (hdu.take (n + 2)) hK (by rw [List.length_take]; omega)
    refine ⟨q, R, val 4294967296 u, rfl, hdq, by rw [h1, List.length_take]; omega, h2, hlt, hv, by rw [h3, ← hs], ?_⟩
    refine ev_loop quot_long.l0_eq quot_long.l0_step ?_
    refine ev_neg (by omega) (ev_pos (by omega) (ev_pos (by rw [nl_length, nl_length]; omega) ?_))
    rw [List.drop_zero, nl_length, hn, Int.toNat_natCast, nl_take]
    exact Ev.bind h4 (ev_now rfl)
  | succ i ih =>
    intro u q hu hi hq hqb hdu hdq hlt hv
    have c1 : (i : Int) ≥ 0 := Int.natCast_nonneg i
    have c3 : (i : Int) ≤ ((i + (n + 3) : Nat) : Int) := Int.ofNat_le.mpr (Nat.le_add_right _ _)
    have c3' : (i : Int) < ((i + (n + 3) : Nat) : Int) := Int.ofNat_lt.mpr (by omega)
    have c12 : (((i + 1 : Nat) : Int) - 1) = (i : Int) := by clear hv hlt; omega
    have c7 : i + (n + 3) ≤ u.length := by clear hv hlt; omega
    have c8 : u.length ≤ 1099511627776 := by clear hv hlt; omega
    have c9 : i + (n + 2) ≤ m := by clear hv hlt; omega
    have c10 : i < q.length := hq
    have c4 : ((i + (n + 3) : Nat) : Int) ≤ (u.length : Int) := Int.ofNat_le.mpr c7
    have c5 : (i : Int) < (q.length : Int) := Int.ofNat_lt.mpr c10
    have c6 : IntKind.i64.wrap ((i : Int) - 1) = (i : Int) - 1 := by clear hv hlt; exact wrap_id (by omega) (by omega)
    have ew : IntKind.i64.wrap ((IntKind.i64.wrap ((i : Int) + ((nl v).length : Int))) + 1) = ((i + (n + 3) : Nat) : Int) := by clear hv hlt; rw [nl_length, hn, wrap_add (by omega), succ_wrap (by omega)]; rfl
    obtain ⟨W, Qd, w1, w2, w3, w4, w5, w6⟩ := long_digit (j := i) hn c7 hdu hdv c8 htop hlt
    obtain ⟨Q, R, w, r1, r2, r3, r4, r5, r6, r7, r8⟩ := ih W (q.set i Qd) (w1.trans hu) c9 (by rw [List.length_set]; exact Nat.le_of_lt c10) (by rw [List.length_set]; exact hqb) w2 (hdq.set i w3) w4 (by
      rw [val_drop _ _ _ (by rw [List.length_set]; exact c10), drop_set_succ, gd_set _ _ _ _ c10, if_pos rfl, Nat.mul_add, Nat.mul_add, ← Nat.add_assoc, w5, ← hv, Nat.pow_succ, Nat.mul_assoc, Nat.mul_left_comm (val 4294967296 v) 4294967296])
    refine ⟨Q, R, w, by rw [r1, List.length_set], r2, r3, r4, r5, r6, r7, ?_⟩
    clear w4 w5 hv hlt r5 r6 r7 ih
    rw [c12]
    refine ev_loop quot_long.l0_eq quot_long.l0_step ?_
    refine ev_pos c1 (ev_pos (by rw [ew]; exact Int.natCast_nonneg _) (ev_pos (by rw [ew, nl_length]; exact c4) (ev_pos c1 (ev_pos (by rw [ew]; exact c3) (ev_pos (by rw [ew]; exact c3') ?_)))))
    refine w6 (f := fun a b => if 0 ≤ (i : Int) then (if (i : Int) < ((nl q).length : Int) then (quot_long.l0 (K : Int) a (nl v) ((nl q).set (i : Int).toNat b) (IntKind.i64.wrap ((i : Int) - 1))) else M.none) else M.none) ?_ _ ew
    refine ev_pos c1 (ev_pos (by rw [nl_length]; exact c5) ?_)
    rw [Int.toNat_natCast, nl_set, c6]
    exact r8

theorem leading {t : Nat} (ht : t < 4294967296) : Ev (mbits_LeadingZeros32.f (t : Int)) (((32 - bl t : Nat) : Int)) := by
  have h1 : bl t ≤ 32 := (bl_le t 32).mpr (by omega)
  refine ev_eq mbits_LeadingZeros32.f_eq (Ev.bind (len32 ht) (ev_now ?_))
  rw [wrap_id (by omega) (by omega)]
  omega

/-- numbers only: the divisor y of n + 2 limbs, the top one t, shifted by K -/
theorem shifted_top {y low t bt K P : Nat} (hy : y = low + P * t) (hl : low < P) (ht : 0 < t) (h1 : t + 1 ≤ 2 ^ bt) (h2 : 2 ^ (bt - 1) ≤ t) (hb : 0 < bt) (hK : bt + K = 32) :
    P ≤ y ∧ y * 2 ^ K < P * 4294967296 ∧ P * 2147483648 ≤ y * 2 ^ K := by
  have hp0 : 0 < 2 ^ K := Nat.pow_pos (by decide)
  have ht2 : (t + 1) * 2 ^ K ≤ 4294967296 := by
    have h3 := Nat.mul_le_mul_right (2 ^ K) h1
    rw [← Nat.pow_add, hK] at h3
    exact h3
  have ht3 : 2147483648 ≤ t * 2 ^ K := by
    have h3 := Nat.mul_le_mul_right (2 ^ K) h2
    rw [← Nat.pow_add, show bt - 1 + K = 31 by omega] at h3
    exact h3
  clear h1 h2
  generalize 2 ^ K = S at *
  refine ⟨?_, ?_, ?_⟩
  · have := Nat.mul_le_mul_left P ht
    rw [Nat.succ_eq_add_one, Nat.zero_add, Nat.mul_one] at this
    omega
  · have h3 : y < P * (t + 1) := by rw [Nat.mul_add, Nat.mul_one]; omega
    refine Nat.lt_of_lt_of_le (Nat.mul_lt_mul_of_pos_right h3 hp0) ?_
    rw [Nat.mul_assoc]
    exact Nat.mul_le_mul_left _ ht2
  · refine Nat.le_trans (Nat.mul_le_mul_left _ ht3) ?_
    rw [← Nat.mul_assoc]
    exact Nat.mul_le_mul_right _ (by omega)
theorem zero_high {Z low P h : Nat} (hs : Z = low + P * h) (hZ : Z < P) : h = 0 := by
  rcases Nat.eq_zero_or_pos h with h0 | h0
  · exact h0
  · exfalso
    have h1 := Nat.mul_le_mul_left P h0
    rw [Nat.succ_eq_add_one, Nat.zero_add, Nat.mul_one] at h1
    omega
theorem top_ge {Z low P g : Nat} (hs : Z = low + P * g) (hl : low < P) (hZ : P * 2147483648 ≤ Z) : 2147483648 ≤ g := by
  rcases Nat.lt_or_ge g 2147483648 with h | h
  · exfalso
    have h4 := Nat.mul_le_mul_left P (Nat.succ_le_of_lt h)
    rw [Nat.succ_eq_add_one, Nat.mul_add, Nat.mul_one] at h4
    omega
  · exact h
theorem start_lt {X S low A h P y : Nat} (hs : X * S = low + A * h) (hX : X < A * P) (hS : 0 < S) (hy : P ≤ y) : h < y * S := by
  have h2 : A * h < A * (y * S) := by
    refine Nat.lt_of_le_of_lt (by rw [hs]; exact Nat.le_add_left _ _) (Nat.lt_of_lt_of_le (Nat.mul_lt_mul_of_pos_right hX hS) ?_)
    rw [← Nat.mul_assoc]
    exact Nat.mul_le_mul_right _ (Nat.mul_le_mul_left _ hy)
  exact Nat.lt_of_mul_lt_mul_left h2
theorem unshift {X y Q w S : Nat} (hS : 0 < S) (hw : w < y * S) (h : w + y * S * Q = X * S) : Q = X / y ∧ w / S = X % y := by
  have e2 : y * S * Q = S * (y * Q) := by rw [Nat.mul_comm y, Nat.mul_assoc]
  rw [Nat.mul_comm X, e2] at h
  rw [Nat.mul_comm y] at hw
  have hle : y * Q ≤ X := by
    refine Nat.le_of_mul_le_mul_left ?_ hS
    rw [← h]; exact Nat.le_add_left _ _
  obtain ⟨d, hd⟩ : ∃ d, X = y * Q + d := ⟨X - y * Q, by omega⟩
  have hw2 : w = S * d := by rw [hd, Nat.mul_add] at h; omega
  have hdl : d < y := by
    rw [hw2] at hw
    exact Nat.lt_of_mul_lt_mul_left hw
  have hyp : 0 < y := by omega
  rw [hd, Nat.mul_add_div hyp, Nat.div_eq_of_lt hdl, Nat.add_zero, Nat.mul_add_mod, Nat.mod_eq_of_lt hdl, hw2, Nat.mul_div_cancel_left _ hS]
  exact ⟨rfl, rfl⟩
theorem last_val {y : List Nat} {n : Nat} (hn : y.length = n + 1) : val 4294967296 y = val 4294967296 (y.take n) + 4294967296 ^ n * gd y n := by
  have ys := val_split 4294967296 y n (by omega)
  rw [val_drop _ y n (by omega), List.drop_of_length_le (by omega)] at ys
  rw [ys]; simp only [val, Nat.mul_zero, Nat.add_zero]
theorem take_lt {y : List Nat} {n : Nat} (hy : Dg 4294967296 y) (hn : n ≤ y.length) : val 4294967296 (y.take n) < 4294967296 ^ n := by
  have h := val_lt (by decide) (hy.take n)
  rw [List.length_take, Nat.min_eq_left hn] at h
  exact h

theorem qlong {x y : List Nat} {n : Nat} (hx : Dg 4294967296 x) (hy : Dg 4294967296 y) (hn : y.length = n + 2) (hxy : y.length ≤ x.length) (hb : x.length ≤ 34359738368) (htop : 0 < gd y (n + 1)) :
    ∃ (Q R : List Nat), Q.length ≤ x.length ∧ Dg 4294967296 Q ∧ R.length ≤ x.length ∧ Dg 4294967296 R ∧ val 4294967296 Q = val 4294967296 x / val 4294967296 y ∧ val 4294967296 R = val 4294967296 x % val 4294967296 y ∧ Ev (quot_long.f (nl x) (nl y)) (nl Q, nl R) := by
  have ht := hy.gd (by decide) (n + 1)
  obtain ⟨t, htt⟩ : ∃ t, gd y (n + 1) = t := ⟨_, rfl⟩
  rw [htt] at ht htop
  have hbl : bl t ≤ 32 := (bl_le t 32).mpr ht
  have hbp := bl_pos htop
  obtain ⟨K, hK⟩ : ∃ K, 32 - bl t = K := ⟨_, rfl⟩
  have hK32 : K < 32 := by omega
  have hbK : bl t + K = 32 := by omega
  obtain ⟨U, u1, u2, u3, u4⟩ := qshifted hx hK32 (by omega)
  obtain ⟨V, v1, v2, v3, v4⟩ := qshifted hy hK32 (by omega)
  have hp0 : 0 < 2 ^ K := Nat.pow_pos (by decide)
  have ys := last_val (n := n + 1) hn
  rw [htt] at ys
  obtain ⟨g1, g2, g3⟩ := shifted_top ys (take_lt hy (by omega)) htop (bl_lt t) (bl_ge htop) hbp hbK
  have hs := val_split 4294967296 V (n + 2) (by omega)
  rw [v3] at hs
  have hz := zero_high hs (by rw [show n + 2 = n + 1 + 1 by rfl, Nat.pow_succ]; exact g2)
  rw [hz, Nat.mul_zero, Nat.add_zero] at hs
  have hvl : (V.take (n + 2)).length = n + 2 := by rw [List.length_take]; omega
  have hvt : 2147483648 ≤ gd (V.take (n + 2)) (n + 1) := by
    have h1 := last_val (n := n + 1) hvl
    rw [← hs] at h1
    exact top_ge h1 (take_lt (v2.take _) (by omega)) g3
  have hstart : val 4294967296 (U.drop (x.length - (n + 2) + 1)) < val 4294967296 (V.take (n + 2)) := by
    rw [← hs]
    have h1 := val_split 4294967296 U (x.length - (n + 2) + 1) (by omega)
    rw [u3] at h1
    have hxl := val_lt (by decide) hx
    refine start_lt h1 (P := 4294967296 ^ (n + 1)) ?_ hp0 g1
    rw [← Nat.pow_add, show x.length - (n + 2) + 1 + (n + 1) = x.length by omega]
    exact hxl
  clear g1 g2 g3 ys
  obtain ⟨Q, R, w, r1, r2, r3, r4, r5, r6, r7, r8⟩ := long_loop (V.take (n + 2)) n K (val 4294967296 x * 2 ^ K) (x.length + 1) hvl hK32 (v2.take _) hvt (by omega) (x.length - (n + 2) + 1) U (List.replicate (x.length - (n + 2) + 1) 0) u1 (by omega) (by rw [List.length_replicate]; exact Nat.le_refl _) (by rw [List.length_replicate]; omega) u2 (Dg.replicate (by decide) _) hstart (by
    rw [List.drop_of_length_le (by rw [List.length_replicate]; exact Nat.le_refl _), show val 4294967296 [] = 0 from rfl, Nat.mul_zero, Nat.mul_zero, Nat.add_zero]; exact u3)
  rw [List.length_replicate] at r1
  rw [← hs] at r5 r6
  obtain ⟨q1, q2⟩ := unshift hp0 r5 r6
  refine ⟨Q, R, by omega, r2, by omega, r4, q1, by rw [r7, q2], ?_⟩
  clear r5 r6 r7 q1 q2 hz hs hstart u3 v3 hp0
  have ey : IntKind.i64.wrap (((nl y).length : Int) - 1) = ((n + 1 : Nat) : Int) := by rw [nl_length, hn, wrap_id] <;> omega
  have eq : IntKind.i64.wrap ((IntKind.i64.wrap (((nl x).length : Int) - ((nl y).length : Int))) + 1) = ((x.length - (n + 2) + 1 : Nat) : Int) := by
    rw [nl_length, nl_length, hn, wrap_id (x := ((x.length : Nat) : Int) - ((n + 2 : Nat) : Int)) (by omega) (by omega), wrap_id] <;> omega
  refine ev_eq quot_long.f_eq ?_
  rw [ey, eq, rd_nl, htt]
  refine ev_pos (by omega) (ev_pos (by rw [nl_length]; omega) (Ev.bind (leading ht) ?_))
  rw [hK]
  refine Ev.bind u4 (Ev.bind v4 (ev_pos (by omega) (ev_pos (by rw [nl_length, nl_length]; omega) (ev_pos (by omega) (ev_pos (by omega) ?_)))))
  rw [List.drop_zero, Int.toNat_natCast, nl_length y, Int.toNat_natCast, hn, nl_take, show List.replicate (x.length - (n + 2) + 1) (0 : Int) = nl (List.replicate (x.length - (n + 2) + 1) 0) from nl_replicate _ 0, nl_length, List.length_replicate, wrap_id (by omega) (by omega)]
  exact r8

/-! ### numbers -/
theorem limbs_L {n : Nat} (h : ln n ≤ 1099511627776) : Ev (nat_Nat_Limbs.f (L n)) (L n) := limbs_nl (by rw [L_length]; exact h)
theorem qdiv0 {a : Nat} (ha : ln a ≤ 1099511627776) : Ev (quot_Div.f (L a) (L 0)) (([] : List Int), ([] : List Int), false) := by
  refine ev_eq quot_Div.f_eq ?_
  exact Ev.bind (limbs_L ha) (Ev.bind (limbs_L (n := 0) (by decide)) (ev_pos rfl (ev_now rfl)))
theorem qdiv {a b : Nat} (hb : 0 < b) (ha : ln a ≤ 34359738368) (hlb : ln b ≤ 34359738368) : Ev (quot_Div.f (L a) (L b)) (L (a / b), L (a % b), true) := by
  refine ev_eq quot_Div.f_eq ?_
  refine Ev.bind (limbs_L (n := a) (by omega)) (Ev.bind (limbs_L (n := b) (by omega)) ?_)
  have hb1 : 0 < ln b := by
    rcases Nat.eq_zero_or_pos (ln b) with h | h
    · exfalso
      have := (dg_len b32 b 0).mp (by unfold ln at h; omega)
      omega
    · exact h
  refine ev_neg (by rw [L_length]; omega) ?_
  by_cases hlt : ln a < ln b
  · have hab : a < b := len_cmp b32 hlt
    refine ev_pos (by rw [L_length, L_length]; omega) (ev_now ?_)
    rw [Nat.div_eq_of_lt hab, Nat.mod_eq_of_lt hab]; rfl
  · refine ev_neg (by rw [L_length, L_length]; omega) ?_
    by_cases h1 : ln b = 1
    · have hbB : b < 4294967296 := by
        have := (dg_len b32 b 1).mp (by unfold ln at h1; omega)
        omega
      obtain ⟨Q, q1, q2, q3, q4⟩ := qsmall (x := dg 4294967296 a) (d := b) (Dg_dg b32 a) hb hbB (by unfold ln at ha; omega)
      rw [val_dg b32] at q3 q4
      have hr : a % b < b := Nat.mod_lt _ hb
      have hrd : rdI (L b) 0 = (b : Int) := by
        have e : L b = nl (b :: dg 4294967296 (b / 4294967296)) := by unfold L; rw [dg_pos b32 hb, Nat.mod_eq_of_lt hbB]
        rw [e]
        exact rd_nl (b :: dg 4294967296 (b / 4294967296)) 0
      have hm := made_val (l := Q) (by rw [q1]; unfold ln at ha; omega) q2
      rw [q3] at hm
      refine ev_pos (by rw [L_length]; omega) (ev_pos (by omega) (ev_pos (by rw [L_length]; omega) ?_))
      rw [hrd]
      refine Ev.bind q4 (Ev.bind hm ?_)
      rw [wrap_u64_nat (by omega)]
      exact Ev.bind (of_val (by omega)) (ev_now rfl)
    · refine ev_neg (by rw [L_length]; omega) ?_
      have hl := dg_last b32 hb
      obtain ⟨n, hn⟩ : ∃ n, (dg 4294967296 b).length = n + 2 := ⟨ln b - 2, by unfold ln at *; omega⟩
      rw [hn] at hl
      obtain ⟨Q, R, q1, q2, q3, q4, q5, q6, q7⟩ := qlong (x := dg 4294967296 a) (y := dg 4294967296 b) (Dg_dg b32 a) (Dg_dg b32 b) hn (by unfold ln at hlt; omega) (by unfold ln at ha; omega) hl
      rw [val_dg b32, val_dg b32] at q5 q6
      have hm1 := made_val (l := Q) (by unfold ln at ha; omega) q2
      have hm2 := made_val (l := R) (by unfold ln at ha; omega) q4
      rw [q5] at hm1
      rw [q6] at hm2
      exact Ev.bind q7 (Ev.bind hm1 (Ev.bind hm2 (ev_now rfl)))

theorem qgcd_loop (c : Nat) (hc : c ≤ 34359738368) : ∀ (b a : Nat), ln a ≤ c → ln b ≤ c → Ev (quot_Gcd.l0 (L a) (L b) []) (L (Nat.gcd a b)) := by
  intro b
  induction b using Nat.strongRecOn with
  | _ b ih =>
    intro a ha hb
    refine ev_loop quot_Gcd.l0_eq quot_Gcd.l0_step ?_
    refine Ev.bind (nbits (n := b) (by omega)) ?_
    rcases Nat.eq_zero_or_pos b with rfl | h
    · rw [bl_zero, Nat.gcd_zero_right]
      exact ev_neg (by decide) (ev_now rfl)
    · have hbp := bl_pos h
      have hr : a % b < b := Nat.mod_lt _ h
      have := ih (a % b) hr b hb (Nat.le_trans (ln_mono (Nat.le_of_lt hr)) hb)
      rw [Nat.gcd_comm b, ← Nat.gcd_rec, Nat.gcd_comm] at this
      exact ev_pos (by omega) (Ev.bind (qdiv h (by omega) (by omega)) this)
theorem qgcd {a b : Nat} (ha : ln a ≤ 34359738368) (hb : ln b ≤ 34359738368) : Ev (quot_Gcd.f (L a) (L b)) (L (Nat.gcd a b)) := by
  refine ev_eq quot_Gcd.f_eq ?_
  exact qgcd_loop _ (Nat.le_refl _) b a ha hb

/-! ### the document's quotient -/
end Go.Proofs.YtlnbcpcnpofnoaaGreatDoor.F

/- Shifts of numbers, noughts at the end, powers of ten. -/
namespace Go.Proofs.YtlnbcpcnpofnoaaGreatDoor.F
open Go Go.Proofs.YtlnbcpcnpofnoaaGreatDoor.E
set_option linter.unusedVariables false
set_option linter.unusedSimpArgs false

/-! ### the lowest bit -/
theorem and_split (x y : Nat) : x &&& y = 2 * (x / 2 &&& y / 2) + (x % 2 &&& y % 2) := by
  have h := Nat.div_add_mod (x &&& y) 2
  have h1 : (x &&& y) / 2 = x / 2 &&& y / 2 := by
    have := Nat.shiftRight_and_distrib (a := x) (b := y) (i := 1)
    rw [Nat.shiftRight_eq_div_pow, Nat.shiftRight_eq_div_pow, Nat.shiftRight_eq_div_pow] at this
    exact this
  have h2 : (x &&& y) % 2 = x % 2 &&& y % 2 := Nat.and_mod_two_pow (a := x) (b := y) (n := 1)
  rw [h1, h2] at h
  exact h.symm
theorem and_compl : ∀ (w m : Nat), m < 2 ^ w → m &&& (2 ^ w - 1 - m) = 0
  | 0, m, h => by
    have : m = 0 := by rw [Nat.pow_zero] at h; omega
    subst this; rfl
  | w + 1, m, h => by
    rw [Nat.pow_succ] at h ⊢
    have ih := and_compl w (m / 2) (by omega)
    rw [and_split, show (2 ^ w * 2 - 1 - m) / 2 = 2 ^ w - 1 - m / 2 by omega, ih]
    have h2 : (2 ^ w * 2 - 1 - m) % 2 = 1 - m % 2 := by omega
    rw [h2]
    rcases Nat.mod_two_eq_zero_or_one m with h3 | h3 <;> rw [h3]
    · rfl
    · rfl
/-- k noughts at the end -/
def Tz (n k : Nat) : Prop := ∃ m, n = 2 ^ k * (2 * m + 1)
theorem low_bit : ∀ (w k m : Nat), 2 ^ k * (2 * m + 1) < 2 ^ w → (2 ^ k * (2 * m + 1)) &&& (2 ^ w - 2 ^ k * (2 * m + 1)) = 2 ^ k
  | 0, k, m, h => by
    have : 0 < 2 ^ k * (2 * m + 1) := Nat.mul_pos (Nat.pow_pos (by decide)) (by omega)
    rw [Nat.pow_zero] at h; omega
  | w + 1, 0, m, h => by
    rw [Nat.pow_zero, Nat.one_mul, Nat.pow_succ] at *
    rw [and_split, show (2 * m + 1) / 2 = m by omega, show (2 ^ w * 2 - (2 * m + 1)) / 2 = 2 ^ w - 1 - m by omega, and_compl w m (by omega), show (2 * m + 1) % 2 = 1 by omega, show (2 ^ w * 2 - (2 * m + 1)) % 2 = 1 by omega]
    rfl
  | w + 1, k + 1, m, h => by
    have e : 2 ^ (k + 1) * (2 * m + 1) = 2 ^ k * (2 * m + 1) * 2 := by rw [Nat.pow_succ, Nat.mul_assoc, Nat.mul_comm 2, ← Nat.mul_assoc]
    rw [e, Nat.pow_succ] at h
    have ih := low_bit w k m (by omega)
    rw [e, Nat.pow_succ 2 w, Nat.pow_succ 2 k]
    generalize 2 ^ k * (2 * m + 1) = x at *
    rw [and_split, show x * 2 / 2 = x by omega, show (2 ^ w * 2 - x * 2) / 2 = 2 ^ w - x by omega, ih, show x * 2 % 2 = 0 by omega, Nat.zero_and]
    omega
theorem tz_ex : ∀ (n : Nat), 0 < n → ∃ k, Tz n k := by
  intro n
  induction n using Nat.strongRecOn with
  | _ n ih =>
    intro h
    rcases Nat.mod_two_eq_zero_or_one n with h2 | h2
    · obtain ⟨k, m, hm⟩ := ih (n / 2) (by omega) (by omega)
      refine ⟨k + 1, m, ?_⟩
      rw [Nat.pow_succ, Nat.mul_assoc, Nat.mul_comm 2, ← Nat.mul_assoc, ← hm]; omega
    · exact ⟨0, n / 2, by rw [Nat.pow_zero, Nat.one_mul]; omega⟩
theorem Tz.pos {n k : Nat} (h : Tz n k) : 0 < n := by
  obtain ⟨m, rfl⟩ := h
  exact Nat.mul_pos (Nat.pow_pos (by decide)) (by omega)
theorem Tz.mul {n k : Nat} (h : Tz n k) (c : Nat) : Tz (n * 2 ^ c) (k + c) := by
  obtain ⟨m, rfl⟩ := h
  exact ⟨m, by rw [Nat.pow_add, Nat.mul_assoc, Nat.mul_assoc, Nat.mul_comm (2 * m + 1)]⟩
theorem Tz.mod {n k : Nat} (h : Tz n k) (c : Nat) : n % 2 ^ c = 0 ↔ c ≤ k := by
  obtain ⟨m, rfl⟩ := h
  constructor
  · intro h
    rcases Nat.lt_or_ge k c with hc | hc
    · exfalso
      obtain ⟨d, rfl⟩ : ∃ d, c = k + (d + 1) := ⟨c - k - 1, by omega⟩
      rw [Nat.pow_add, Nat.mul_mod_mul_left] at h
      have h3 : (2 * m + 1) % 2 ^ (d + 1) = 0 := by
        rcases Nat.eq_zero_or_pos ((2 * m + 1) % 2 ^ (d + 1)) with h4 | h4
        · exact h4
        · have := Nat.mul_pos (Nat.pow_pos (n := k) (by decide : 0 < 2)) h4
          omega
      have h5 := Nat.div_add_mod (2 * m + 1) (2 ^ (d + 1))
      rw [h3, Nat.pow_succ, Nat.add_zero, Nat.mul_comm (2 ^ d), Nat.mul_assoc] at h5
      omega
    · exact hc
  · intro h
    obtain ⟨d, rfl⟩ : ∃ d, k = c + d := ⟨k - c, by omega⟩
    rw [Nat.pow_add, Nat.mul_assoc, Nat.mul_mod_right]
theorem Tz.div {n k : Nat} (h : Tz n k) : n / 2 ^ k % 2 = 1 := by
  obtain ⟨m, rfl⟩ := h
  rw [Nat.mul_div_cancel_left _ (Nat.pow_pos (by decide))]
  omega
theorem tz32 {a k : Nat} (ha : a < 4294967296) (h : Tz a k) : Ev (mbits_TrailingZeros32.f (a : Int)) (k : Int) := by
  have hp := h.pos
  obtain ⟨m, hm⟩ := h
  have hk : k < 32 := by
    rcases Nat.lt_or_ge k 32 with h | h
    · exact h
    · exfalso
      have h1 : 2 ^ 32 ≤ 2 ^ k := Nat.pow_le_pow_right (by decide) h
      have h2 : 2 ^ k * 1 ≤ 2 ^ k * (2 * m + 1) := Nat.mul_le_mul_left _ (by omega)
      rw [← hm] at h2
      omega
  have hl := low_bit 32 k m (by rw [← hm]; exact ha)
  rw [← hm] at hl
  have e1 : IntKind.u32.wrap (0 - (a : Int)) = ((2 ^ 32 - a : Nat) : Int) := by rw [u32_def]; omega
  have e2 := bits_and32 ha (b := 2 ^ 32 - a) (by omega)
  have key : ∀ j : Fin 32, 0 ≤ (IntKind.u32.wrap (((2 ^ j.val : Nat) : Int) * 125613361)).fdiv (2 ^ 27) ∧ (IntKind.u32.wrap (((2 ^ j.val : Nat) : Int) * 125613361)).fdiv (2 ^ 27) < 32 ∧ IntKind.i64.wrap (rdI tab1 ((IntKind.u32.wrap (((2 ^ j.val : Nat) : Int) * 125613361)).fdiv (2 ^ 27))) = (j.val : Int) := by decide +kernel
  obtain ⟨k1, k2, k3⟩ := key ⟨k, hk⟩
  refine ev_eq mbits_TrailingZeros32.f_eq (ev_neg (by omega) ?_)
  rw [e1, e2, hl]
  exact ev_pos (by decide) (ev_pos k1 (ev_pos k2 (ev_now k3)))

theorem noughts_loop (x : List Nat) (hx : Dg 4294967296 x) (hl : x.length ≤ 1099511627776) {k : Nat} (h : Tz (val 4294967296 x) k) : ∀ (d i : Nat), i + d = x.length → val 4294967296 x = 4294967296 ^ i * val 4294967296 (x.drop i) → Ev (tens_Noughts.l0 (nl x) (x.length : Int) (i : Int)) (k : Int) := by
  have pw : ∀ i, (4294967296 : Nat) ^ i = 2 ^ (32 * i) := fun i => by rw [Nat.pow_mul]
  intro d
  induction d with
  | zero =>
    intro i hi hv
    rw [List.drop_of_length_le (by omega)] at hv
    have := h.pos
    rw [hv] at this
    simp [val] at this
  | succ d ih =>
    intro i hi hv
    have hg := hx.gd (by decide) i
    rw [val_drop _ x i (by omega)] at hv
    refine ev_loop tens_Noughts.l0_eq tens_Noughts.l0_step (ev_pos (by omega) (ev_pos (by omega) (ev_pos (by rw [nl_length]; omega) ?_)))
    rw [rd_nl]
    rcases Nat.eq_zero_or_pos (gd x i) with h0 | h0
    · rw [h0, Nat.zero_add, ← Nat.mul_assoc, ← Nat.pow_succ] at hv
      refine ev_neg (by omega) ?_
      rw [succ_wrap (by omega)]
      exact ih (i + 1) (by omega) hv
    · obtain ⟨j, m, hm⟩ := tz_ex (gd x i) h0
      have hj : j < 32 := by
        rcases Nat.lt_or_ge j 32 with h | h
        · exact h
        · exfalso
          have h1 : 2 ^ 32 ≤ 2 ^ j := Nat.pow_le_pow_right (by decide) h
          have h2 : 2 ^ j * 1 ≤ 2 ^ j * (2 * m + 1) := Nat.mul_le_mul_left _ (by omega)
          rw [← hm] at h2
          omega
      have hk : k = 32 * i + j := by
        have ht : Tz (val 4294967296 x) (32 * i + j) := by
          obtain ⟨e, he⟩ : ∃ e, 4294967296 = 2 ^ j * (2 * e) := ⟨2 ^ (31 - j), by rw [Nat.mul_left_comm, ← Nat.pow_add, show j + (31 - j) = 31 by omega]⟩
          refine ⟨m + e * val 4294967296 (x.drop (i + 1)), ?_⟩
          rw [hv, pw, Nat.pow_add, Nat.mul_assoc]
          congr 1
          rw [hm]
          conv => lhs; rw [show 4294967296 * val 4294967296 (x.drop (i + 1)) = 2 ^ j * (2 * e) * val 4294967296 (x.drop (i + 1)) by rw [← he]]
          rw [Nat.mul_assoc, ← Nat.mul_add]
          congr 1
          rw [Nat.mul_add, Nat.mul_assoc]; omega
        have h1 := (h.mod (32 * i + j)).mp ((ht.mod _).mpr (Nat.le_refl _))
        have h2 := (ht.mod k).mp ((h.mod _).mpr (Nat.le_refl _))
        omega
      refine ev_pos (by omega) (Ev.bind (tz32 hg ⟨m, hm⟩) (ev_now ?_))
      rw [show (32 : Int) * (i : Int) = ((32 * i : Nat) : Int) by omega, wrap_nat (by omega), wrap_add (by omega), hk]
theorem noughts {n k : Nat} (hl : ln n ≤ 1099511627776) (h : Tz n k) : Ev (tens_Noughts.f (L n)) (k : Int) := by
  refine ev_eq tens_Noughts.f_eq (Ev.bind (limbs_nl (by rw [L_length]; omega)) ?_)
  have := noughts_loop (dg 4294967296 n) (Dg_dg b32 n) hl (k := k) (by rw [val_dg b32]; exact h) (ln n) 0 (by unfold ln; omega) (by rw [List.drop_zero, Nat.pow_zero, Nat.one_mul])
  rw [L_length]
  exact this
theorem noughts0 : Ev (tens_Noughts.f (L 0)) 0 := by
  refine ev_eq tens_Noughts.f_eq (Ev.bind (limbs_nl (l := L 0) (by decide)) ?_)
  exact ev_loop tens_Noughts.l0_eq tens_Noughts.l0_step (ev_neg (by decide) (ev_now rfl))

/-! ### down -/
theorem down_digit {Z z0 z1 z2 s : Nat} (hs : s < 32) (hZ : Z = z0 + 4294967296 * (z1 + 4294967296 * z2)) : Z / 2 ^ s = (z0 + 4294967296 * z1) / 2 ^ s % 4294967296 + 4294967296 * ((z1 + 4294967296 * z2) / 2 ^ s) ∨ ¬ z0 < 4294967296 := by
  rcases Nat.lt_or_ge z0 4294967296 with h0 | h0
  · left
    have hp : 0 < 2 ^ s := Nat.pow_pos (by decide)
    obtain ⟨e, he⟩ : ∃ e, 4294967296 = 2 ^ s * e := ⟨2 ^ (32 - s), by rw [← Nat.pow_add, show s + (32 - s) = 32 by omega]⟩
    have h1 : Z / 2 ^ s / 4294967296 = (z1 + 4294967296 * z2) / 2 ^ s := by
      rw [Nat.div_div_eq_div_mul, Nat.mul_comm, ← Nat.div_div_eq_div_mul, hZ, Nat.add_mul_div_left _ _ (by decide), Nat.div_eq_of_lt h0, Nat.zero_add]
    have h2 : Z / 2 ^ s % 4294967296 = (z0 + 4294967296 * z1) / 2 ^ s % 4294967296 := by
      have h3 : Z = z0 + 4294967296 * z1 + 2 ^ s * (e * 4294967296 * z2) := by
        rw [hZ, Nat.mul_add, ← Nat.add_assoc]
        congr 1
        rw [Nat.mul_assoc e, ← Nat.mul_assoc (2 ^ s), ← he]
      rw [h3, Nat.add_mul_div_left _ _ hp, Nat.mul_comm e, Nat.mul_assoc, Nat.add_mul_mod_self_left]
    have h4 := Nat.mod_add_div (Z / 2 ^ s) 4294967296
    rw [h1, h2] at h4
    exact h4.symm
  · right; omega
theorem down_loop (x : List Nat) (w s : Nat) (lost : Bool) (hx : Dg 4294967296 x) (hs : s < 32) (hl : x.length ≤ 1099511627776) (hw : w < x.length) : ∀ (d i : Nat) (out : List Nat), i + d = x.length - w → out.length = x.length - w → Dg 4294967296 out → val 4294967296 (out.take i) + 4294967296 ^ i * (val 4294967296 (x.drop (w + i)) / 2 ^ s) = val 4294967296 (x.drop w) / 2 ^ s →
    Ev (tens_Down.l0 [] (nl x) lost (w : Int) (s : Int) (nl out) ((x.length - w : Nat) : Int) (i : Int)) (L (val 4294967296 (x.drop w) / 2 ^ s), lost) := by
  intro d
  induction d with
  | zero =>
    intro i out hi ho hd hv
    refine ev_loop tens_Down.l0_eq tens_Down.l0_step (ev_neg (by omega) ?_)
    rw [List.take_of_length_le (by omega), List.drop_of_length_le (l := x) (i := w + i) (by omega), show val 4294967296 [] / 2 ^ s = 0 from Nat.zero_div _, Nat.mul_zero, Nat.add_zero] at hv
    rw [← hv]
    exact Ev.bind (made_val (by omega) hd) (ev_now rfl)
  | succ d ih =>
    intro i out hi ho hd hv
    have g0 := hx.gd (by decide) (w + i)
    have g1 := hx.gd (by decide) (w + i + 1)
    have hz : val 4294967296 (x.drop (w + i)) = gd x (w + i) + 4294967296 * val 4294967296 (x.drop (w + (i + 1))) := val_drop _ x (w + i) (by omega)
    have hz1 : ∃ z2, val 4294967296 (x.drop (w + (i + 1))) = gd x (w + i + 1) + 4294967296 * z2 := by
      by_cases hb : w + i + 1 < x.length
      · exact ⟨_, val_drop _ x (w + i + 1) hb⟩
      · refine ⟨0, ?_⟩
        rw [List.drop_of_length_le (by omega), gd_ge (by omega)]; rfl
    obtain ⟨z2, hz2⟩ := hz1
    obtain ⟨a, ha⟩ : ∃ a, gd x (w + i) = a := ⟨_, rfl⟩
    obtain ⟨b, hb⟩ : ∃ b, gd x (w + i + 1) = b := ⟨_, rfl⟩
    rw [ha] at g0 hz
    rw [hb] at g1 hz2
    have hdig : val 4294967296 (x.drop (w + i)) / 2 ^ s = (a + 4294967296 * b) / 2 ^ s % 4294967296 + 4294967296 * (val 4294967296 (x.drop (w + (i + 1))) / 2 ^ s) := by
      rcases down_digit hs (by rw [hz, hz2] : val 4294967296 (x.drop (w + i)) = a + 4294967296 * (b + 4294967296 * z2)) with h | h
      · rw [← hz2] at h; exact h
      · exact absurd g0 h
    have hdl : (a + 4294967296 * b) / 2 ^ s % 4294967296 < 4294967296 := Nat.mod_lt _ (by decide)
    have nxt := ih (i + 1) (out.set i ((a + 4294967296 * b) / 2 ^ s % 4294967296)) (by omega) (by rw [List.length_set]; exact ho) (hd.set i hdl) (by
      rw [take_set_succ _ _ _ (by omega), val_snoc, List.length_take, Nat.min_eq_left (by omega), ← hv, hdig, Nat.pow_succ, Nat.mul_add, Nat.mul_assoc, Nat.add_assoc])
    clear ih hv hdig hz hz2
    have e0 : IntKind.i64.wrap ((w : Int) + (i : Int)) = ((w + i : Nat) : Int) := wrap_add (by omega)
    have e1 : IntKind.i64.wrap (((w + i : Nat) : Int) + 1) = ((w + i + 1 : Nat) : Int) := succ_wrap (by omega)
    refine ev_loop tens_Down.l0_eq tens_Down.l0_step ?_
    rw [e0, e1, nl_length, nl_length]
    refine ev_pos (by omega) (ev_pos (by omega) (ev_pos (by omega) ?_))
    by_cases hlast : w + i + 1 < x.length
    · refine ev_pos (by omega) (ev_pos (by omega) (ev_pos (by omega) (ev_pos (by omega) (ev_pos (by omega) (ev_pos (by omega) ?_)))))
      have e2 : IntKind.u64.wrap ((BitVec.ofInt IntKind.u64.bits (IntKind.u64.wrap (a : Int)) ||| BitVec.ofInt IntKind.u64.bits (IntKind.u64.wrap ((IntKind.u64.wrap (b : Int)) * 2 ^ 32))).toNat) = ((a + 4294967296 * b : Nat) : Int) := by
        rw [wrap_u64_nat (n := a) (by omega), wrap_u64_nat (n := b) (by omega), show (b : Int) * 2 ^ 32 = ((4294967296 * b : Nat) : Int) by omega, wrap_u64_nat (n := 4294967296 * b) (by omega), bits_or64 (by omega) (by omega), Nat.or_comm]
        have := Nat.two_pow_add_eq_or_of_lt (i := 32) (b := a) g0 b
        rw [show (4294967296 : Nat) = 2 ^ 32 by decide, ← this, Nat.add_comm]
      rw [rd_nl, rd_nl, ha, hb, e2, shr64 (by omega), u32_nat, Int.toNat_natCast (n := i), nl_set, succ_wrap (by omega)]
      exact nxt
    · refine ev_neg (by omega) (ev_pos (by omega) (ev_pos (by omega) (ev_pos (by omega) ?_)))
      have hb0 : b = 0 := by rw [← hb]; exact gd_ge (by omega)
      rw [rd_nl, ha, wrap_u64_nat (n := a) (by omega), shr64 (by omega), u32_nat, Int.toNat_natCast (n := i), nl_set, succ_wrap (by omega)]
      rw [hb0, Nat.mul_zero, Nat.add_zero] at nxt
      exact nxt
theorem pow_split (c : Nat) : 4294967296 ^ (c / 32) * 2 ^ (c % 32) = 2 ^ c := by
  rw [show (4294967296 : Nat) = 2 ^ 32 by decide, ← Nat.pow_mul, ← Nat.pow_add, Nat.div_add_mod]
theorem tdiv32 (c : Nat) : ((c : Nat) : Int).tdiv 32 = ((c / 32 : Nat) : Int) := by rw [Int.tdiv_eq_ediv_of_nonneg (by omega)]; omega
theorem tmod32 (c : Nat) : ((c : Nat) : Int).tmod 32 = ((c % 32 : Nat) : Int) := by rw [Int.tmod_eq_emod_of_nonneg (by omega)]; omega
theorem down {n c : Nat} (hl : ln n ≤ 549755813888) (hc : c ≤ 1099511627776) : Ev (tens_Down.f (L n) (c : Int)) (L (n / 2 ^ c), decide (n % 2 ^ c ≠ 0)) := by
  refine ev_eq tens_Down.f_eq ?_
  rcases Nat.eq_zero_or_pos c with rfl | hc0
  · refine ev_pos (by omega) (ev_now ?_)
    rw [Nat.pow_zero, Nat.div_one, Nat.mod_one]; rfl
  refine ev_neg (by omega) (Ev.bind (limbs_nl (by rw [L_length]; omega)) ?_)
  rw [L_length, tdiv32, wrap_nat (by omega), tmod32]
  rcases Nat.eq_zero_or_pos n with rfl | hn
  · have h0 : ln 0 = 0 := rfl
    refine ev_neg (by omega) (ev_pos (by omega) (ev_now ?_))
    rw [Nat.zero_div, Nat.zero_mod]; rfl
  have hln : 0 < ln n := by
    rcases Nat.eq_zero_or_pos (ln n) with h | h
    · exfalso
      have := (dg_len b32 n 0).mp (by unfold ln at h; omega)
      omega
    · exact h
  obtain ⟨k, hk⟩ := tz_ex n hn
  have hlost : decide ((k : Int) < (c : Int)) = decide (n % 2 ^ c ≠ 0) := by
    refine decide_eq_decide.mpr ?_
    have := hk.mod c
    omega
  refine ev_pos (by omega) (Ev.bind (noughts (by omega) hk) ?_)
  rw [hlost]
  have hps := pow_split c
  by_cases hw : ln n ≤ c / 32
  · refine ev_pos (by omega) (ev_now ?_)
    have h1 := dg_lt b32 n
    have h2 : 4294967296 ^ ln n ≤ 4294967296 ^ (c / 32) := Nat.pow_le_pow_right (by decide) hw
    have h3 : 4294967296 ^ (c / 32) * 1 ≤ 4294967296 ^ (c / 32) * 2 ^ (c % 32) := Nat.mul_le_mul_left _ (Nat.pow_pos (by decide))
    have h4 : n < 2 ^ c := by unfold ln at *; rw [hps] at h3; omega
    rw [Nat.div_eq_of_lt h4]; rfl
  · refine ev_neg (by omega) ?_
    have hd := down_loop (dg 4294967296 n) (c / 32) (c % 32) (decide (n % 2 ^ c ≠ 0)) (Dg_dg b32 n) (Nat.mod_lt _ (by decide)) (by unfold ln at hl; omega) (by unfold ln at hw; omega) (ln n - c / 32) 0 (List.replicate (ln n - c / 32) 0) (by unfold ln; omega) (by rw [List.length_replicate]; rfl) (Dg.replicate (by decide) _) (by rw [List.take_zero, Nat.pow_zero, Nat.one_mul]; simp [val])
    have hv := val_split 4294967296 (dg 4294967296 n) (c / 32) (by unfold ln at hw; omega)
    rw [val_dg b32] at hv
    have hlow := val_lt (by decide) ((Dg_dg b32 n).take (c / 32))
    rw [List.length_take, Nat.min_eq_left (by unfold ln at hw; omega)] at hlow
    have hdv : n / 2 ^ c = val 4294967296 ((dg 4294967296 n).drop (c / 32)) / 2 ^ (c % 32) := by
      rw [← hps, ← Nat.div_div_eq_div_mul]
      congr 1
      conv => lhs; rw [hv]
      rw [Nat.add_mul_div_left _ _ (Nat.pow_pos (by decide)), Nat.div_eq_of_lt hlow, Nat.zero_add]
    clear hv hlow hps
    rw [show IntKind.i64.wrap ((ln n : Int) - ((c / 32 : Nat) : Int)) = ((ln n - c / 32 : Nat) : Int) by rw [wrap_id (by omega) (by omega)]; omega, Int.toNat_natCast, hdv]
    refine ev_pos (by omega) (ev_pos (by omega) ?_)
    rw [show List.replicate (ln n - c / 32) (0 : Int) = nl (List.replicate (ln n - c / 32) 0) from nl_replicate _ 0, nl_length, List.length_replicate]
    exact hd
theorem down_neg {n : Nat} {c : Int} (hc : c ≤ 0) : Ev (tens_Down.f (L n) c) (L n, false) := ev_eq tens_Down.f_eq (ev_pos (by omega) (ev_now rfl))

/-! ### up -/
theorem up_loop (x : List Nat) (w k : Nat) (hx : Dg 4294967296 x) (hk : k < 32) (hl : w + x.length < 1099511627776) : ∀ (d i : Nat) (out : List Nat), i + d = x.length → out.length = w + x.length + 1 → Dg 4294967296 out → (∀ j, w + i < j → gd out j = 0) → gd out (w + i) < 2 ^ k → val 4294967296 out = 4294967296 ^ w * (val 4294967296 (x.take i) * 2 ^ k) →
    Ev (tens_Up.l0 [] (w : Int) (k : Int) (nl out) (nl x) (x.length : Int) (i : Int)) (L (4294967296 ^ w * (val 4294967296 x * 2 ^ k))) := by
  intro d
  induction d with
  | zero =>
    intro i out hi ho hd hz hc hv
    rw [List.take_of_length_le (by omega)] at hv
    refine ev_loop tens_Up.l0_eq tens_Up.l0_step (ev_neg (by omega) ?_)
    rw [← hv]
    exact Ev.bind (made_val (by omega) hd) (ev_now rfl)
  | succ d ih =>
    intro i out hi ho hd hz hc hv
    have hg := hx.gd (by decide) i
    have ho1 := hd.gd (by decide) (w + i)
    obtain ⟨v, hv1⟩ : ∃ v, gd x i = v := ⟨_, rfl⟩
    obtain ⟨c, hc1⟩ : ∃ c, gd out (w + i) = c := ⟨_, rfl⟩
    have hzz := hz (w + i + 1) (by omega)
    rw [hv1] at hg
    rw [hc1] at hc ho1
    have hpk : 2 ^ k ≤ 2 ^ 31 := Nat.pow_le_pow_right (by decide) (by omega)
    have hp0 : 0 < 2 ^ k := Nat.pow_pos (by decide)
    have hvk : v * 2 ^ k / 4294967296 < 2 ^ k := by
      rw [Nat.div_lt_iff_lt_mul (by decide), Nat.mul_comm]
      exact Nat.mul_lt_mul_of_pos_left hg hp0
    have hlow : c ||| v * 2 ^ k % 4294967296 = c + v * 2 ^ k % 4294967296 := by rw [shl_low v k hk, or_low hc]
    have hlt : c + v * 2 ^ k % 4294967296 < 4294967296 := by
      rw [← hlow]
      exact Nat.or_lt_two_pow (n := 32) ho1 (Nat.mod_lt _ (by decide))
    have h4 := ih (i + 1) ((out.set (w + i) (c + v * 2 ^ k % 4294967296)).set (w + i + 1) (v * 2 ^ k / 4294967296)) (by omega) (by rw [List.length_set, List.length_set]; exact ho) ((hd.set _ hlt).set _ (by omega))
      (by
        intro j hj
        rw [gd_set _ _ _ _ (by rw [List.length_set]; omega), if_neg (by omega), gd_set _ _ _ _ (by omega), if_neg (by omega)]
        exact hz j (by omega))
      (by rw [show w + (i + 1) = w + i + 1 by omega, gd_set _ _ _ _ (by rw [List.length_set]; omega), if_pos rfl]; exact hvk)
      (by
        have s1 := val_set 4294967296 out (w + i) (c + v * 2 ^ k % 4294967296) (by omega)
        have s2 := val_set 4294967296 (out.set (w + i) (c + v * 2 ^ k % 4294967296)) (w + i + 1) (v * 2 ^ k / 4294967296) (by rw [List.length_set]; omega)
        rw [gd_set _ _ _ _ (by omega), if_neg (by omega), hzz, Nat.mul_zero, Nat.add_zero] at s2
        rw [hc1, Nat.mul_add] at s1
        rw [s2, val_take_succ, hv1, Nat.add_mul, Nat.mul_add, ← hv, Nat.mul_assoc (4294967296 ^ i), ← Nat.mul_assoc (4294967296 ^ w), ← Nat.pow_add]
        have hm := Nat.mod_add_div (v * 2 ^ k) 4294967296
        rw [Nat.pow_succ]
        generalize v * 2 ^ k % 4294967296 = md at *
        generalize v * 2 ^ k / 4294967296 = dv at *
        generalize v * 2 ^ k = vk at *
        generalize 4294967296 ^ (w + i) = P at *
        have e1 : P * (md + 4294967296 * dv) = P * vk := by rw [hm]
        rw [Nat.mul_add, ← Nat.mul_assoc] at e1
        omega)
    clear ih hv hz
    have e0 : IntKind.i64.wrap ((w : Int) + (i : Int)) = ((w + i : Nat) : Int) := wrap_add (by omega)
    have e1 : IntKind.i64.wrap (((w + i : Nat) : Int) + 1) = ((w + i + 1 : Nat) : Int) := succ_wrap (by omega)
    have hvk2 : v * 2 ^ k < 18446744073709551616 := by
      have := Nat.mul_le_mul (Nat.le_of_lt hg) hpk
      omega
    refine ev_loop tens_Up.l0_eq tens_Up.l0_step ?_
    rw [e0, e1]
    refine ev_pos (by omega) (ev_pos (by omega) (ev_pos (by rw [nl_length]; omega) (ev_pos (by omega) (ev_pos (by omega) (ev_pos (by rw [nl_length]; omega) (ev_pos (by omega) (ev_pos (by rw [nl_length]; omega) (ev_pos (by omega) (ev_pos (by rw [List.length_set, nl_length]; omega) ?_)))))))))
    rw [rd_nl, hv1, shl64 hk hg, Int.toNat_natCast (n := w + i), Int.toNat_natCast (n := w + i + 1), getD_nl, hc1, u32_nat (v * 2 ^ k), bits_or32 ho1 (Nat.mod_lt _ (by decide)), hlow, fdiv32, u32_nat, Nat.mod_eq_of_lt (a := v * 2 ^ k / 4294967296) (by omega), nl_set, nl_set, succ_wrap (by omega)]
    exact h4
theorem up {n c : Nat} (hl : ln n ≤ 274877906944) (hc : c ≤ 274877906944) : Ev (tens_Up.f (L n) (c : Int)) (L (n * 2 ^ c)) := by
  refine ev_eq tens_Up.f_eq (Ev.bind (limbs_nl (by rw [L_length]; omega)) ?_)
  rcases Nat.eq_zero_or_pos c with rfl | hc0
  · exact ev_pos (by omega) (ev_now (by rw [Nat.pow_zero, Nat.mul_one]))
  refine ev_neg (by omega) ?_
  rw [L_length, tdiv32, wrap_nat (by omega), tmod32]
  rcases Nat.eq_zero_or_pos n with rfl | hn
  · have h0 : ln 0 = 0 := rfl
    exact ev_pos (by omega) (ev_now (by rw [Nat.zero_mul]))
  have hln : 0 < ln n := by
    rcases Nat.eq_zero_or_pos (ln n) with h | h
    · exfalso
      have := (dg_len b32 n 0).mp (by unfold ln at h; omega)
      omega
    · exact h
  refine ev_neg (by omega) ?_
  have hu := up_loop (dg 4294967296 n) (c / 32) (c % 32) (Dg_dg b32 n) (Nat.mod_lt _ (by decide)) (by unfold ln at hl; omega) (ln n) 0 (List.replicate (c / 32 + ln n + 1) 0) (by unfold ln; omega) (by rw [List.length_replicate]; rfl) (Dg.replicate (by decide) _) (fun j _ => gd_replicate _ _) (by rw [gd_replicate]; exact Nat.pow_pos (by decide)) (by rw [val_replicate]; simp [val])
  rw [val_dg b32, Nat.mul_left_comm, pow_split] at hu
  rw [wrap_add (by omega), succ_wrap (by omega), Int.toNat_natCast, show List.replicate (c / 32 + ln n + 1) (0 : Int) = nl (List.replicate (c / 32 + ln n + 1) 0) from nl_replicate _ 0]
  exact ev_pos (by omega) (ev_pos (by omega) hu)
theorem up_neg {n : Nat} {c : Int} (hl : ln n ≤ 274877906944) (hc : c ≤ 0) : Ev (tens_Up.f (L n) c) (L n) := ev_eq tens_Up.f_eq (Ev.bind (limbs_nl (by rw [L_length]; omega)) (ev_pos (by omega) (ev_now rfl)))
theorem ln_pow2 (n c : Nat) : ln (n * 2 ^ c) ≤ ln n + c / 32 + 1 := by
  refine (dg_len b32 _ _).mpr ?_
  have h1 := dg_lt b32 n
  have h2 : 2 ^ c < 4294967296 ^ (c / 32 + 1) := by
    rw [show (4294967296 : Nat) = 2 ^ 32 by decide, ← Nat.pow_mul]
    exact Nat.pow_lt_pow_right (by decide) (by omega)
  rw [Nat.add_assoc, Nat.pow_add]
  exact Nat.mul_lt_mul'' h1 h2

/-! ### powers of ten -/
theorem ten {c : Nat} (hc : c ≤ 1073741824) : Ev (tens_Ten.f (c : Int)) (L (10 ^ c)) := by
  have l10 := ln_small (n := 10) (by decide)
  have h := Nat.mul_le_mul_left c l10
  exact ev_eq tens_Ten.f_eq (Ev.bind (of_val (n := 10) (by decide)) (Ev.bind (npow (n := 10) (k := c) (by omega) (by omega)) (ev_now rfl)))
theorem ten_neg {c : Int} (hc : c ≤ 0) : Ev (tens_Ten.f c) (L 1) :=
  ev_eq tens_Ten.f_eq (Ev.bind (of_val (n := 10) (by decide)) (Ev.bind (npow_neg (n := 10) hc) (ev_now rfl)))
theorem dg_ten (c : Nat) : dg 10 (10 ^ c) = List.replicate c 0 ++ [1] := by
  induction c with
  | zero => rfl
  | succ c ih => rw [dg_pos b10 (Nat.pow_pos (by decide)), Nat.pow_succ, Nat.mul_mod_left, Nat.mul_div_cancel _ (by decide), ih]; rfl
end Go.Proofs.YtlnbcpcnpofnoaaGreatDoor.F

/- What 64 bits say. -/
namespace Go.Proofs.YtlnbcpcnpofnoaaGreatDoor.F
open Go Go.Proofs.YtlnbcpcnpofnoaaGreatDoor.E
set_option linter.unusedVariables false
set_option linter.unusedSimpArgs false

def W (s e f : Nat) : Nat := s * 9223372036854775808 + e * 4503599627370496 + f
/-- The value: its class, its sign, its mantissa, its exponent. -/
def V (s e f : Nat) : Int × Bool × Int × Int :=
  if e = 2047 then (if f = 0 then (2, decide (s = 1), 0, 0) else (3, false, 0, 0))
  else if e = 0 then (if f = 0 then (0, decide (s = 1), 0, 0) else (1, decide (s = 1), (f : Int), -1074))
  else (1, decide (s = 1), ((f + 4503599627370496 : Nat) : Int), ((e : Int) - 1075))
theorem W_split {b : Nat} (h : b < 18446744073709551616) : ∃ s e f, s ≤ 1 ∧ e < 2048 ∧ f < 4503599627370496 ∧ b = W s e f :=
  ⟨b / 9223372036854775808, b / 4503599627370496 % 2048, b % 4503599627370496, by omega, by omega, by omega, by unfold W; omega⟩
theorem and_splitK (k x y : Nat) : x &&& y = 2 ^ k * (x / 2 ^ k &&& y / 2 ^ k) + (x % 2 ^ k &&& y % 2 ^ k) := by
  have h := Nat.div_add_mod (x &&& y) (2 ^ k)
  have h1 : (x &&& y) / 2 ^ k = x / 2 ^ k &&& y / 2 ^ k := by
    have := Nat.shiftRight_and_distrib (a := x) (b := y) (i := k)
    rw [Nat.shiftRight_eq_div_pow, Nat.shiftRight_eq_div_pow, Nat.shiftRight_eq_div_pow] at this
    exact this
  have h2 : (x &&& y) % 2 ^ k = x % 2 ^ k &&& y % 2 ^ k := Nat.and_mod_two_pow
  rw [h1, h2] at h
  exact h.symm
theorem and_mask52 (x : Nat) : x &&& 4503599627370495 = x % 4503599627370496 := Nat.and_two_pow_sub_one_eq_mod x 52
theorem and_mask11 (x : Nat) : x &&& 2047 = x % 2048 := Nat.and_two_pow_sub_one_eq_mod x 11
theorem and_mask63 (x : Nat) : x &&& 9223372036854775807 = x % 9223372036854775808 := Nat.and_two_pow_sub_one_eq_mod x 63
theorem and_sign {s r : Nat} (hs : s ≤ 1) (hr : r < 9223372036854775808) : (s * 9223372036854775808 + r) &&& 9223372036854775808 = s * 9223372036854775808 := by
  have h := and_splitK 63 (s * 9223372036854775808 + r) 9223372036854775808
  rw [h, show (2 : Nat) ^ 63 = 9223372036854775808 by decide, show (s * 9223372036854775808 + r) / 9223372036854775808 = s by omega, show 9223372036854775808 / 9223372036854775808 = 1 by decide, show 9223372036854775808 % 9223372036854775808 = 0 by decide, Nat.and_zero, Nat.and_one_is_mod]
  omega
theorem or_sign {r : Nat} (hr : r < 9223372036854775808) : r ||| 9223372036854775808 = 9223372036854775808 + r := by
  have := Nat.two_pow_add_eq_or_of_lt (i := 63) (b := r) hr 1
  rw [Nat.or_comm]
  exact this.symm
theorem or_hidden {f : Nat} (e : Nat) (hf : f < 4503599627370496) : f ||| e * 4503599627370496 = e * 4503599627370496 + f := by
  have := Nat.two_pow_add_eq_or_of_lt (i := 52) (b := f) hf e
  rw [Nat.or_comm, Nat.mul_comm e]
  exact this.symm
theorem b64_and {a b : Nat} (ha : a < 18446744073709551616) (hb : b < 18446744073709551616) {x y : Int} (hx : x = (a : Int)) (hy : y = (b : Int)) : IntKind.u64.wrap ((BitVec.ofInt IntKind.u64.bits x &&& BitVec.ofInt IntKind.u64.bits y).toNat) = ((a &&& b : Nat) : Int) := by
  subst hx; subst hy; exact bits_and64 ha hb
theorem b64_or {a b : Nat} (ha : a < 18446744073709551616) (hb : b < 18446744073709551616) {x y : Int} (hx : x = (a : Int)) (hy : y = (b : Int)) : IntKind.u64.wrap ((BitVec.ofInt IntKind.u64.bits x ||| BitVec.ofInt IntKind.u64.bits y).toNat) = ((a ||| b : Nat) : Int) := by
  subst hx; subst hy; exact bits_or64 ha hb
theorem bits_of {s e f : Nat} (hs : s ≤ 1) (he : e < 2048) (hf : f < 4503599627370496) : Ev (bits_Of.f ((W s e f : Nat) : Int)) (V s e f) := by
  have hW : W s e f < 18446744073709551616 := by unfold W; omega
  have hd52 : ((W s e f : Nat) : Int).fdiv (2 ^ 52) = ((W s e f / 4503599627370496 : Nat) : Int) := by rw [Int.fdiv_eq_ediv_of_nonneg _ (by decide)]; omega
  have h1 : IntKind.i64.wrap (IntKind.u64.wrap ((BitVec.ofInt IntKind.u64.bits (((W s e f : Nat) : Int).fdiv (2 ^ 52)) &&& BitVec.ofInt IntKind.u64.bits 2047).toNat)) = (e : Int) := by
    rw [b64_and (a := W s e f / 4503599627370496) (b := 2047) (y := 2047) (by omega) (by decide) hd52 rfl, and_mask11, wrap_nat (by omega)]
    unfold W; omega
  have h2 : IntKind.u64.wrap ((BitVec.ofInt IntKind.u64.bits ((W s e f : Nat) : Int) &&& BitVec.ofInt IntKind.u64.bits 4503599627370495).toNat) = (f : Int) := by
    rw [b64_and (a := W s e f) (b := 4503599627370495) (y := 4503599627370495) hW (by decide) rfl rfl, and_mask52]
    unfold W; omega
  have h3 : IntKind.u64.wrap ((BitVec.ofInt IntKind.u64.bits ((W s e f : Nat) : Int) &&& BitVec.ofInt IntKind.u64.bits 9223372036854775808).toNat) = ((s * 9223372036854775808 : Nat) : Int) := by
    rw [b64_and (a := W s e f) (b := 9223372036854775808) (y := 9223372036854775808) hW (by decide) rfl rfl]
    unfold W
    rw [Nat.add_assoc, and_sign hs (by omega)]
  have h4 : IntKind.u64.wrap ((BitVec.ofInt IntKind.u64.bits (f : Int) ||| BitVec.ofInt IntKind.u64.bits 4503599627370496).toNat) = ((f + 4503599627370496 : Nat) : Int) := by
    rw [b64_or (a := f) (b := 4503599627370496) (y := 4503599627370496) (by omega) (by decide) rfl rfl]
    have := or_hidden 1 hf
    rw [Nat.one_mul] at this
    rw [this, Nat.add_comm]
  have hd : decide (((s * 9223372036854775808 : Nat) : Int) ≠ 0) = decide (s = 1) := decide_eq_decide.mpr (by omega)
  refine ev_eq bits_Of.f_eq ?_
  rw [h1, h2, h3, h4, hd]
  clear h1 h2 h3 h4 hd hd52 hW
  unfold V
  by_cases c1 : e = 2047
  · rw [if_pos c1]
    by_cases c2 : f = 0
    · rw [if_pos c2]
      refine ev_pos (by omega) (ev_neg (by omega) (ev_pos (by omega) (ev_now rfl)))
    · rw [if_neg c2]
      exact ev_pos (by omega) (ev_pos (by omega) (ev_now rfl))
  · rw [if_neg c1]
    by_cases c3 : e = 0
    · rw [if_pos c3]
      by_cases c2 : f = 0
      · rw [if_pos c2]
        (repeat (first | refine ev_pos (by (try simp only [nl_length, L_length, D_length, rd_nl, getD_nl, List.length_append, List.length_cons, List.length_nil, List.length_set, List.length_replicate, List.length_take, List.length_drop, Nat.zero_add, ge_iff_le, gt_iff_lt]); omega) ?_ | refine ev_neg (by (try simp only [nl_length, L_length, D_length, rd_nl, getD_nl, List.length_append, List.length_cons, List.length_nil, List.length_set, List.length_replicate, List.length_take, List.length_drop, Nat.zero_add, ge_iff_le, gt_iff_lt]); omega) ?_))
        exact ev_now rfl
      · rw [if_neg c2]
        (repeat (first | refine ev_pos (by (try simp only [nl_length, L_length, D_length, rd_nl, getD_nl, List.length_append, List.length_cons, List.length_nil, List.length_set, List.length_replicate, List.length_take, List.length_drop, Nat.zero_add, ge_iff_le, gt_iff_lt]); omega) ?_ | refine ev_neg (by (try simp only [nl_length, L_length, D_length, rd_nl, getD_nl, List.length_append, List.length_cons, List.length_nil, List.length_set, List.length_replicate, List.length_take, List.length_drop, Nat.zero_add, ge_iff_le, gt_iff_lt]); omega) ?_))
        exact ev_now rfl
    · rw [if_neg c3, wrap_id (x := (e : Int) - 1075) (by omega) (by omega)]
      (repeat (first | refine ev_pos (by (try simp only [nl_length, L_length, D_length, rd_nl, getD_nl, List.length_append, List.length_cons, List.length_nil, List.length_set, List.length_replicate, List.length_take, List.length_drop, Nat.zero_add, ge_iff_le, gt_iff_lt]); omega) ?_ | refine ev_neg (by (try simp only [nl_length, L_length, D_length, rd_nl, getD_nl, List.length_append, List.length_cons, List.length_nil, List.length_set, List.length_replicate, List.length_take, List.length_drop, Nat.zero_add, ge_iff_le, gt_iff_lt]); omega) ?_))
      exact ev_now rfl
theorem ref_of {s e f : Nat} (hs : s ≤ 1) (he : e < 2048) (hf : f < 4503599627370496) : Ev (numeraryref07_Of.f ((W s e f : Nat) : Int)) (V s e f) := by
  have hr : ∀ r : Nat, r = e * 4503599627370496 + f → IntKind.i64.wrap (IntKind.u64.wrap ((r : Int).tdiv 4503599627370496)) = (e : Int) ∧ (r : Int).tmod 4503599627370496 = (f : Int) := by
    intro r h
    have h1 : (r : Int).tdiv 4503599627370496 = (e : Int) := by rw [Int.tdiv_eq_ediv_of_nonneg (by omega)]; omega
    rw [h1, wrap_u64_nat (by omega), wrap_nat (by omega), Int.tmod_eq_emod_of_nonneg (by omega)]
    omega
  have hm : IntKind.u64.wrap ((f : Int) + 4503599627370496) = ((f + 4503599627370496 : Nat) : Int) := by rw [show (f : Int) + 4503599627370496 = ((f + 4503599627370496 : Nat) : Int) by omega, wrap_u64_nat (by omega)]
  have hx : IntKind.i64.wrap ((e : Int) - 1075) = (e : Int) - 1075 := wrap_id (by omega) (by omega)
  have hd : decide (((W s e f : Nat) : Int) ≥ 9223372036854775808) = decide (s = 1) := decide_eq_decide.mpr (by unfold W; omega)
  refine ev_eq numeraryref07_Of.f_eq ?_
  have key : ∀ (Z : Int × Bool × Int × Int), Z = V s e f → Ev (if (e : Int) = 2047 then (if (f : Int) > 0 then M.ret (3, false, 0, 0) else (if (e : Int) = 2047 then M.ret (2, decide (s = 1), 0, 0) else M.none)) else (if (e : Int) = 0 then (if (f : Int) = 0 then M.ret (0, decide (s = 1), 0, 0) else M.ret (1, decide (s = 1), (f : Int), (-1074))) else M.ret (1, decide (s = 1), ((f + 4503599627370496 : Nat) : Int), (e : Int) - 1075))) Z := by
    intro Z hZ
    subst hZ
    unfold V
    by_cases c1 : e = 2047
    · rw [if_pos c1]
      by_cases c2 : f = 0
      · rw [if_pos c2]; exact ev_pos (by omega) (ev_neg (by omega) (ev_pos (by omega) (ev_now rfl)))
      · rw [if_neg c2]; exact ev_pos (by omega) (ev_pos (by omega) (ev_now rfl))
    · rw [if_neg c1]
      refine ev_neg (by omega) ?_
      by_cases c3 : e = 0
      · rw [if_pos c3]
        by_cases c2 : f = 0
        · rw [if_pos c2]; exact ev_pos (by omega) (ev_pos (by omega) (ev_now rfl))
        · rw [if_neg c2]; exact ev_pos (by omega) (ev_neg (by omega) (ev_now rfl))
      · rw [if_neg c3]; exact ev_neg (by omega) (ev_now rfl)
  have fin : ∀ (r : Nat), r = e * 4503599627370496 + f → ∀ x : Int, x = (r : Int) → Ev (if (IntKind.i64.wrap (IntKind.u64.wrap (x.tdiv 4503599627370496))) = 2047 then (if (x.tmod 4503599627370496) > 0 then (M.ret ((3 : Int), false, (0 : Int), (0 : Int))) else (if (IntKind.i64.wrap (IntKind.u64.wrap (x.tdiv 4503599627370496))) = 2047 then (M.ret (2, decide (s = 1), 0, 0)) else (if (IntKind.i64.wrap (IntKind.u64.wrap (x.tdiv 4503599627370496))) = 0 then (if (x.tmod 4503599627370496) = 0 then (M.ret (0, decide (s = 1), 0, 0)) else (if (IntKind.i64.wrap (IntKind.u64.wrap (x.tdiv 4503599627370496))) = 0 then (M.ret (1, decide (s = 1), x.tmod 4503599627370496, (-1074))) else (M.ret (1, decide (s = 1), IntKind.u64.wrap ((x.tmod 4503599627370496) + 4503599627370496), IntKind.i64.wrap ((IntKind.i64.wrap (IntKind.u64.wrap (x.tdiv 4503599627370496))) - 1075))))) else (if (IntKind.i64.wrap (IntKind.u64.wrap (x.tdiv 4503599627370496))) = 0 then (M.ret (1, decide (s = 1), x.tmod 4503599627370496, (-1074))) else (M.ret (1, decide (s = 1), IntKind.u64.wrap ((x.tmod 4503599627370496) + 4503599627370496), IntKind.i64.wrap ((IntKind.i64.wrap (IntKind.u64.wrap (x.tdiv 4503599627370496))) - 1075))))))) else (if (IntKind.i64.wrap (IntKind.u64.wrap (x.tdiv 4503599627370496))) = 2047 then (M.ret (2, decide (s = 1), 0, 0)) else (if (IntKind.i64.wrap (IntKind.u64.wrap (x.tdiv 4503599627370496))) = 0 then (if (x.tmod 4503599627370496) = 0 then (M.ret (0, decide (s = 1), 0, 0)) else (if (IntKind.i64.wrap (IntKind.u64.wrap (x.tdiv 4503599627370496))) = 0 then (M.ret (1, decide (s = 1), x.tmod 4503599627370496, (-1074))) else (M.ret (1, decide (s = 1), IntKind.u64.wrap ((x.tmod 4503599627370496) + 4503599627370496), IntKind.i64.wrap ((IntKind.i64.wrap (IntKind.u64.wrap (x.tdiv 4503599627370496))) - 1075))))) else (if (IntKind.i64.wrap (IntKind.u64.wrap (x.tdiv 4503599627370496))) = 0 then (M.ret (1, decide (s = 1), x.tmod 4503599627370496, (-1074))) else (M.ret (1, decide (s = 1), IntKind.u64.wrap ((x.tmod 4503599627370496) + 4503599627370496), IntKind.i64.wrap ((IntKind.i64.wrap (IntKind.u64.wrap (x.tdiv 4503599627370496))) - 1075))))))) (V s e f) := by
    intro r hr1 x hx1
    obtain ⟨q1, q2⟩ := hr r hr1
    rw [← hx1] at q1 q2
    rw [q1, q2, hm, hx]
    clear hr hm hd key q1 q2
    unfold V
    by_cases c1 : e = 2047
    · rw [if_pos c1]
      by_cases c2 : f = 0
      · rw [if_pos c2]
        (repeat (first | refine ev_pos (by (try simp only [nl_length, L_length, D_length, rd_nl, getD_nl, List.length_append, List.length_cons, List.length_nil, List.length_set, List.length_replicate, List.length_take, List.length_drop, Nat.zero_add, ge_iff_le, gt_iff_lt]); omega) ?_ | refine ev_neg (by (try simp only [nl_length, L_length, D_length, rd_nl, getD_nl, List.length_append, List.length_cons, List.length_nil, List.length_set, List.length_replicate, List.length_take, List.length_drop, Nat.zero_add, ge_iff_le, gt_iff_lt]); omega) ?_))
        exact ev_now rfl
      · rw [if_neg c2]
        (repeat (first | refine ev_pos (by (try simp only [nl_length, L_length, D_length, rd_nl, getD_nl, List.length_append, List.length_cons, List.length_nil, List.length_set, List.length_replicate, List.length_take, List.length_drop, Nat.zero_add, ge_iff_le, gt_iff_lt]); omega) ?_ | refine ev_neg (by (try simp only [nl_length, L_length, D_length, rd_nl, getD_nl, List.length_append, List.length_cons, List.length_nil, List.length_set, List.length_replicate, List.length_take, List.length_drop, Nat.zero_add, ge_iff_le, gt_iff_lt]); omega) ?_))
        exact ev_now rfl
    · rw [if_neg c1]
      by_cases c3 : e = 0
      · rw [if_pos c3]
        by_cases c2 : f = 0
        · rw [if_pos c2]
          (repeat (first | refine ev_pos (by (try simp only [nl_length, L_length, D_length, rd_nl, getD_nl, List.length_append, List.length_cons, List.length_nil, List.length_set, List.length_replicate, List.length_take, List.length_drop, Nat.zero_add, ge_iff_le, gt_iff_lt]); omega) ?_ | refine ev_neg (by (try simp only [nl_length, L_length, D_length, rd_nl, getD_nl, List.length_append, List.length_cons, List.length_nil, List.length_set, List.length_replicate, List.length_take, List.length_drop, Nat.zero_add, ge_iff_le, gt_iff_lt]); omega) ?_))
          exact ev_now rfl
        · rw [if_neg c2]
          (repeat (first | refine ev_pos (by (try simp only [nl_length, L_length, D_length, rd_nl, getD_nl, List.length_append, List.length_cons, List.length_nil, List.length_set, List.length_replicate, List.length_take, List.length_drop, Nat.zero_add, ge_iff_le, gt_iff_lt]); omega) ?_ | refine ev_neg (by (try simp only [nl_length, L_length, D_length, rd_nl, getD_nl, List.length_append, List.length_cons, List.length_nil, List.length_set, List.length_replicate, List.length_take, List.length_drop, Nat.zero_add, ge_iff_le, gt_iff_lt]); omega) ?_))
          exact ev_now rfl
      · rw [if_neg c3]
        (repeat (first | refine ev_pos (by (try simp only [nl_length, L_length, D_length, rd_nl, getD_nl, List.length_append, List.length_cons, List.length_nil, List.length_set, List.length_replicate, List.length_take, List.length_drop, Nat.zero_add, ge_iff_le, gt_iff_lt]); omega) ?_ | refine ev_neg (by (try simp only [nl_length, L_length, D_length, rd_nl, getD_nl, List.length_append, List.length_cons, List.length_nil, List.length_set, List.length_replicate, List.length_take, List.length_drop, Nat.zero_add, ge_iff_le, gt_iff_lt]); omega) ?_))
        exact ev_now rfl
  rw [hd]
  rcases Nat.eq_zero_or_pos s with h0 | h0
  · refine ev_neg (by unfold W; omega) (fin _ rfl _ (by unfold W; omega))
  · refine ev_pos (by unfold W; omega) (fin _ rfl _ (by unfold W; rw [u64_id] <;> omega))
theorem fin_bits {t v : Int × Bool × Int × Int} {b : Int} (h : t = v) : Ev (if ¬ (t.1 = v.1 ∧ t.2.1 = v.2.1 ∧ t.2.2.1 = v.2.2.1 ∧ t.2.2.2 = v.2.2.2) then M.ret ((0 : Int), false) else M.ret (b, true)) (b, true) := by
  subst h
  exact ev_neg (fun h => h ⟨rfl, rfl, rfl, rfl⟩) (ev_now rfl)
theorem value_bits {s e f : Nat} (hs : s ≤ 1) (he : e < 2048) (hf : f < 4503599627370496) (hn : e ≠ 2047 ∨ f = 0) : Ev (bits_Value_Bits.f (V s e f)) (((W s e f : Nat) : Int), true) := by
  have hb := bits_of hs he hf
  have sgn : ∀ r : Nat, r < 9223372036854775808 → ∀ x : Int, x = (r : Int) → IntKind.u64.wrap ((BitVec.ofInt IntKind.u64.bits x ||| BitVec.ofInt IntKind.u64.bits 9223372036854775808).toNat) = ((9223372036854775808 + r : Nat) : Int) := by
    intro r h x hx
    rw [b64_or (a := r) (b := 9223372036854775808) (y := 9223372036854775808) (by omega) (by decide) hx rfl, or_sign h]
  have hs01 : s = 0 ∨ s = 1 := by omega
  refine ev_eq bits_Value_Bits.f_eq ?_
  by_cases c1 : e = 2047
  · have c2 : f = 0 := by omega
    subst c1; subst c2
    rcases hs01 with rfl | rfl
    · rw [show V 0 2047 0 = (2, false, 0, 0) from rfl] at hb ⊢
      dsimp only
      exact ev_pos rfl (ev_neg (by simp) (Ev.bind hb (fin_bits rfl)))
    · rw [show V 1 2047 0 = (2, true, 0, 0) from rfl] at hb ⊢
      dsimp only
      rw [sgn 9218868437227405312 (by decide) 9218868437227405312 rfl]
      exact ev_pos rfl (ev_pos rfl (Ev.bind hb (fin_bits rfl)))
  · by_cases c3 : e = 0
    · subst c3
      by_cases c2 : f = 0
      · subst c2
        rcases hs01 with rfl | rfl
        · rw [show V 0 0 0 = (0, false, 0, 0) from rfl] at hb ⊢
          dsimp only
          exact ev_neg (by decide) (ev_neg (by decide) (ev_neg (by decide) (ev_neg (by simp) (Ev.bind hb (fin_bits rfl)))))
        · rw [show V 1 0 0 = (0, true, 0, 0) from rfl] at hb ⊢
          dsimp only
          rw [sgn 0 (by decide) 0 rfl]
          exact ev_neg (by decide) (ev_neg (by decide) (ev_neg (by decide) (ev_pos rfl (Ev.bind hb (fin_bits rfl)))))
      · have hV : V s 0 f = (1, decide (s = 1), (f : Int), -1074) := by unfold V; rw [if_neg (by decide), if_pos rfl, if_neg c2]
        have hm : IntKind.u64.wrap ((BitVec.ofInt IntKind.u64.bits (f : Int) &&& BitVec.ofInt IntKind.u64.bits 4503599627370495).toNat) = (f : Int) := by
          rw [b64_and (a := f) (b := 4503599627370495) (y := 4503599627370495) (by omega) (by decide) rfl rfl, and_mask52]; omega
        rw [hV] at hb ⊢
        dsimp only
        rw [hm, sgn f (by omega) _ rfl]
        refine ev_neg (by decide) (ev_neg (by decide) (ev_pos rfl (ev_neg (by omega) ?_)))
        rcases hs01 with rfl | rfl
        · rw [show W 0 0 f = f by unfold W; omega] at hb ⊢
          exact ev_neg (by simp) (Ev.bind hb (fin_bits rfl))
        · rw [show W 1 0 f = 9223372036854775808 + f by unfold W; omega] at hb ⊢
          exact ev_pos (by simp) (Ev.bind hb (fin_bits rfl))
    · have hV : V s e f = (1, decide (s = 1), ((f + 4503599627370496 : Nat) : Int), (e : Int) - 1075) := by unfold V; rw [if_neg c1, if_neg c3]
      have hm : IntKind.u64.wrap ((BitVec.ofInt IntKind.u64.bits ((f + 4503599627370496 : Nat) : Int) &&& BitVec.ofInt IntKind.u64.bits 4503599627370495).toNat) = (f : Int) := by
        rw [b64_and (a := f + 4503599627370496) (b := 4503599627370495) (y := 4503599627370495) (by omega) (by decide) rfl rfl, and_mask52]; omega
      have hx : IntKind.u64.wrap ((BitVec.ofInt IntKind.u64.bits (IntKind.u64.wrap (IntKind.i64.wrap (((e : Int) - 1075) + 1075))) &&& BitVec.ofInt IntKind.u64.bits 2047).toNat) = (e : Int) := by
        rw [b64_and (a := e) (b := 2047) (y := 2047) (by omega) (by decide) (by rw [wrap_id (by omega) (by omega), u64_id (by omega) (by omega)]; omega) rfl, and_mask11]; omega
      have hsh : IntKind.u64.wrap ((e : Int) * 2 ^ 52) = ((e * 4503599627370496 : Nat) : Int) := by rw [show (e : Int) * 2 ^ 52 = ((e * 4503599627370496 : Nat) : Int) by omega, wrap_u64_nat (by omega)]
      have hor : IntKind.u64.wrap ((BitVec.ofInt IntKind.u64.bits (f : Int) ||| BitVec.ofInt IntKind.u64.bits ((e * 4503599627370496 : Nat) : Int)).toNat) = ((e * 4503599627370496 + f : Nat) : Int) := by
        rw [b64_or (a := f) (b := e * 4503599627370496) (by omega) (by omega) rfl rfl, or_hidden e hf]
      rw [hV] at hb ⊢
      dsimp only
      rw [hm, hx, hsh, hor, sgn (e * 4503599627370496 + f) (by omega) _ rfl]
      have hge : ((f + 4503599627370496 : Nat) : Int) ≥ 4503599627370496 := by omega
      clear hm hV
      generalize ((f + 4503599627370496 : Nat) : Int) = M at hb hge ⊢
      refine ev_neg (by decide) (ev_neg (by decide) (ev_pos rfl (ev_pos hge ?_)))
      rcases hs01 with rfl | rfl
      · rw [show W 0 e f = e * 4503599627370496 + f by unfold W; omega] at hb ⊢
        exact ev_neg (by simp) (Ev.bind hb (fin_bits rfl))
      · rw [show W 1 e f = 9223372036854775808 + (e * 4503599627370496 + f) by unfold W; omega] at hb ⊢
        exact ev_pos (by simp) (Ev.bind hb (fin_bits rfl))
theorem nothing_bits : Ev (bits_Value_Bits.f (3, false, 0, 0)) (9221120237041090560, true) := by
  have hb := bits_of (s := 0) (e := 2047) (f := 2251799813685248) (by decide) (by decide) (by decide)
  rw [show V 0 2047 2251799813685248 = (3, false, 0, 0) from rfl] at hb
  refine ev_eq bits_Value_Bits.f_eq ?_
  dsimp only
  exact ev_neg (by decide) (ev_pos rfl (ev_neg (by simp) (Ev.bind hb (fin_bits rfl))))
end Go.Proofs.YtlnbcpcnpofnoaaGreatDoor.F

/- Layer 7: what the laws' own helpers come to. -/
namespace Go.Proofs.YtlnbcpcnpofnoaaGreatDoor.F
open Go Go.Proofs.YtlnbcpcnpofnoaaGreatDoor.E
set_option linter.unusedVariables false
set_option linter.unusedSimpArgs false
theorem bits1 : Ev (nat_Nat_Bits.f (L 1)) 1 := by
  have := nbits (n := 1) (by have := ln_small (n := 1) (by decide); omega)
  rw [bl_eq (n := 1) (k := 0) (by decide) (by decide)] at this
  exact this
theorem bits3 : Ev (nat_Nat_Bits.f (L 3)) 2 := by
  have := nbits (n := 3) (by have := ln_small (n := 3) (by decide); omega)
  rw [bl_eq (n := 3) (k := 1) (by decide) (by decide)] at this
  exact this
theorem V_class {s e f : Nat} (h : e ≠ 2047 ∨ f = 0) : (V s e f).1 ≠ 3 := by
  unfold V
  by_cases c1 : e = 2047
  · rw [if_pos c1, if_pos (by omega)]; simp
  · rw [if_neg c1]
    by_cases c2 : e = 0
    · rw [if_pos c2]
      by_cases c3 : f = 0
      · rw [if_pos c3]; simp
      · rw [if_neg c3]; simp
    · rw [if_neg c2]; simp
end Go.Proofs.YtlnbcpcnpofnoaaGreatDoor.F

/- Rounding to the nearest 64 bits. -/
namespace Go.Proofs.YtlnbcpcnpofnoaaGreatDoor.F
open Go Go.Proofs.YtlnbcpcnpofnoaaGreatDoor.E
set_option linter.unusedVariables false
set_option linter.unusedSimpArgs false

/-- The whole number next to u over v, of two as near the even one. -/
def rnd (u v : Nat) : Nat := if v < 2 * (u % v) ∨ (2 * (u % v) = v ∧ u / v % 2 = 1) then u / v + 1 else u / v
theorem rnd_pos {u v : Nat} (h : v < 2 * (u % v) ∨ (2 * (u % v) = v ∧ u / v % 2 = 1)) : rnd u v = u / v + 1 := if_pos h
theorem rnd_neg {u v : Nat} (h : ¬(v < 2 * (u % v) ∨ (2 * (u % v) = v ∧ u / v % 2 = 1))) : rnd u v = u / v := if_neg h
theorem rnd_ge (u v : Nat) : u / v ≤ rnd u v := by unfold rnd; split <;> omega
theorem rnd_at {u v w A q t : Nat} (hv : 0 < v) (hw : 0 < w) (h : u * w = A * v) (hA : A = q * w + t) (ht : t ≤ w) : rnd u v = (if w < 2 * t ∨ (2 * t = w ∧ q % 2 = 1) then q + 1 else q) := by
  have h1 := Nat.div_add_mod u v
  have h2 := Nat.mod_lt u hv
  -- the rest, times w, is t times v
  rcases Nat.lt_or_ge t w with hlt | hge
  · have hq : u / v = q := by
      refine Nat.div_eq_of_lt_le ?_ ?_
      · refine Nat.le_of_mul_le_mul_right ?_ hw
        rw [h, hA, Nat.add_mul, Nat.mul_right_comm]; omega
      · refine Nat.lt_of_mul_lt_mul_right (a := w) ?_
        rw [h, hA, Nat.add_mul, Nat.add_mul, Nat.one_mul, Nat.add_mul, Nat.mul_right_comm q w v, Nat.mul_comm v w]
        have := Nat.mul_lt_mul_of_pos_right hlt hv
        omega
    have hr : u % v * w = t * v := by
      have e : (v * (u / v) + u % v) * w = A * v := by rw [h1]; exact h
      rw [hq, hA, Nat.add_mul, Nat.add_mul, Nat.mul_comm v q, Nat.mul_right_comm q v w] at e
      omega
    have c1 : v < 2 * (u % v) ↔ w < 2 * t := by
      rw [← Nat.mul_lt_mul_right (b := v) hw, ← Nat.mul_lt_mul_right (b := w) hv, Nat.mul_assoc 2, hr, Nat.mul_comm v w, ← Nat.mul_assoc]
    have c2 : 2 * (u % v) = v ↔ 2 * t = w := by
      constructor
      · intro e
        refine Nat.eq_of_mul_eq_mul_right hv ?_
        rw [Nat.mul_assoc, ← hr, ← Nat.mul_assoc, e, Nat.mul_comm]
      · intro e
        refine Nat.eq_of_mul_eq_mul_right hw ?_
        rw [Nat.mul_assoc, hr, ← Nat.mul_assoc, e, Nat.mul_comm]
    unfold rnd
    rw [hq]
    by_cases d1 : w < 2 * t
    · rw [if_pos (.inl (c1.mpr d1)), if_pos (.inl d1)]
    · by_cases d2 : 2 * t = w ∧ q % 2 = 1
      · rw [if_pos (.inr ⟨c2.mpr d2.1, d2.2⟩), if_pos (.inr d2)]
      · rw [if_neg (fun hh => hh.elim (fun a => d1 (c1.mp a)) (fun a => d2 ⟨c2.mp a.1, a.2⟩)), if_neg (fun hh => hh.elim d1 d2)]
  · have he : t = w := by omega
    subst he
    have hu : u = (q + 1) * v := by
      refine Nat.eq_of_mul_eq_mul_right hw ?_
      rw [h, hA, Nat.mul_right_comm, Nat.add_mul q 1 t, Nat.one_mul]
    have hq : u / v = q + 1 := by rw [hu, Nat.mul_div_cancel _ hv]
    have hr : u % v = 0 := by rw [hu, Nat.mul_mod_left]
    unfold rnd
    rw [hq, hr, if_neg (by omega), if_pos (.inl (by omega))]
/-- A mantissa of 53 bits and what stands above it. -/
theorem enc {X g : Nat} (h1 : 4503599627370496 ≤ X) (h2 : X < 9007199254740992) (hg : g < 2048) {G Y : Int} (hG : G = (g : Int)) (hY : Y = (X : Int)) :
    IntKind.u64.wrap ((BitVec.ofInt IntKind.u64.bits (IntKind.u64.wrap ((IntKind.u64.wrap G) * 2 ^ 52)) ||| BitVec.ofInt IntKind.u64.bits (IntKind.u64.wrap ((BitVec.ofInt IntKind.u64.bits Y &&& BitVec.ofInt IntKind.u64.bits 4503599627370495).toNat))).toNat) = ((g * 4503599627370496 + (X - 4503599627370496) : Nat) : Int) := by
  subst hG; subst hY
  rw [b64_and (a := X) (b := 4503599627370495) (y := 4503599627370495) (by omega) (by decide) rfl rfl, and_mask52, wrap_u64_nat (n := g) (by omega), show (g : Int) * 2 ^ 52 = ((g * 4503599627370496 : Nat) : Int) by omega, wrap_u64_nat (n := g * 4503599627370496) (by omega),
    b64_or (a := g * 4503599627370496) (b := X % 4503599627370496) (by omega) (by omega) rfl rfl, Nat.or_comm, or_hidden g (Nat.mod_lt _ (by decide))]
  omega
end Go.Proofs.YtlnbcpcnpofnoaaGreatDoor.F

/- The bits nearest to a quotient. -/
namespace Go.Proofs.YtlnbcpcnpofnoaaGreatDoor.F
open Go Go.Proofs.YtlnbcpcnpofnoaaGreatDoor.E
set_option linter.unusedVariables false
set_option linter.unusedSimpArgs false
theorem rnd_le (u v : Nat) : rnd u v ≤ u / v + 1 := by unfold rnd; split <;> omega
theorem rnd_ratio {u v a b : Nat} (hv : 0 < v) (hb : 0 < b) (h : u * b = a * v) : rnd u v = rnd a b := by
  have e := Nat.div_add_mod a b
  rw [rnd_at hv hb h (q := a / b) (t := a % b) (by rw [Nat.mul_comm]; omega) (Nat.le_of_lt (Nat.mod_lt _ hb))]
  rfl
theorem div_ratio {u v a b : Nat} (hv : 0 < v) (hb : 0 < b) (h : u * b = a * v) : u / v = a / b := by
  rw [← Nat.mul_div_mul_right u v hb, h, Nat.mul_comm v b, Nat.mul_div_mul_right a b hv]
theorem rnd_half {u v : Nat} (hv : 0 < v) (h1 : u < 9007199254740992 * v) (h2 : rnd u v = 9007199254740992) : rnd u (v * 2) = 4503599627370496 := by
  have hq : u / v < 9007199254740992 := Nat.div_lt_of_lt_mul (by rw [Nat.mul_comm]; exact h1)
  have hle := rnd_le u v
  have hq2 : u / v = 9007199254740991 := by omega
  have hm := Nat.div_add_mod u v
  have hr : v ≤ 2 * (u % v) := by
    by_cases c : v < 2 * (u % v) ∨ (2 * (u % v) = v ∧ u / v % 2 = 1)
    · omega
    · rw [rnd_neg c] at h2; omega
  rw [hq2] at hm
  generalize u % v = r at *
  have hlt : r < v := by omega
  have d : u / (v * 2) = 4503599627370495 := Nat.div_eq_of_lt_le (by omega) (by omega)
  have m : u % (v * 2) = v + r := by
    have := Nat.div_add_mod u (v * 2)
    rw [d] at this
    omega
  have := rnd_pos (u := u) (v := v * 2) (.inl (by omega))
  omega
theorem exp_at {a b K : Nat} (ha : a ≤ 100000) (hb : b ≤ 100000) (hK : K = 1074) : mxI (IntKind.i64.wrap ((IntKind.i64.wrap ((IntKind.i64.wrap ((a : Int) - (b : Int))) - 52)) - 1)) (-1074) = ((a + 1021 - b : Nat) : Int) - (K : Int) := by
  rw [wrap_id (x := (a : Int) - (b : Int)) (by omega) (by omega), wrap_id (x := (a : Int) - (b : Int) - 52) (by omega) (by omega), wrap_id (x := (a : Int) - (b : Int) - 52 - 1) (by omega) (by omega)]
  unfold mxI
  split <;> omega
theorem fin0 {m j : Nat} {s Y : Int} (hs : s = (j : Int) - 1074) (hM : Y = (m : Int)) (hm : m < 9007199254740992) (hj : j = 0 ∨ 4503599627370496 ≤ m) (ht : j * 4503599627370496 + m < 9218868437227405312) :
    Ev (if (IntKind.i64.wrap (s + 1075)) ≥ 2047 then (M.ret ((9218868437227405312 : Int), true)) else (if Y < 4503599627370496 then (M.ret (Y, true)) else (M.ret (IntKind.u64.wrap ((BitVec.ofInt IntKind.u64.bits (IntKind.u64.wrap ((IntKind.u64.wrap (IntKind.i64.wrap (s + 1075))) * 2 ^ 52)) ||| BitVec.ofInt IntKind.u64.bits (IntKind.u64.wrap ((BitVec.ofInt IntKind.u64.bits Y &&& BitVec.ofInt IntKind.u64.bits 4503599627370495).toNat))).toNat), true)))) (((j * 4503599627370496 + m : Nat) : Int), true) := by
  subst hs
  have hw : IntKind.i64.wrap ((j : Int) - 1074 + 1075) = ((j + 1 : Nat) : Int) := by rw [wrap_id (by omega) (by omega)]; omega
  refine ev_neg (by rw [hw]; omega) ?_
  by_cases c : m < 4503599627370496
  · refine ev_pos (by omega) (ev_now ?_)
    rw [hM, show j * 4503599627370496 + m = m by omega]
  · refine ev_neg (by omega) (ev_now ?_)
    rw [enc (X := m) (g := j + 1) (by omega) hm (by omega) hw hM]
    refine congrArg (fun z : Nat => ((z : Int), true)) ?_
    omega
theorem fin1 {j : Nat} {s Y : Int} (hs : s = (j : Int) - 1074) (hM : Y = 9007199254740992) (ht : j * 4503599627370496 + 9007199254740992 < 9218868437227405312) :
    Ev (if (IntKind.i64.wrap (IntKind.i64.wrap (s + 1) + 1075)) ≥ 2047 then (M.ret ((9218868437227405312 : Int), true)) else (if Y.fdiv (2 ^ 1) < 4503599627370496 then (M.ret (Y.fdiv (2 ^ 1), true)) else (M.ret (IntKind.u64.wrap ((BitVec.ofInt IntKind.u64.bits (IntKind.u64.wrap ((IntKind.u64.wrap (IntKind.i64.wrap (IntKind.i64.wrap (s + 1) + 1075))) * 2 ^ 52)) ||| BitVec.ofInt IntKind.u64.bits (IntKind.u64.wrap ((BitVec.ofInt IntKind.u64.bits (Y.fdiv (2 ^ 1)) &&& BitVec.ofInt IntKind.u64.bits 4503599627370495).toNat))).toNat), true)))) (((j * 4503599627370496 + 9007199254740992 : Nat) : Int), true) := by
  have hd : Y.fdiv (2 ^ 1) = ((4503599627370496 : Nat) : Int) := by rw [hM]; decide
  have hs1 : IntKind.i64.wrap (s + 1) = ((j + 1 : Nat) : Int) - 1074 := by rw [hs, wrap_id (by omega) (by omega)]; omega
  have := fin0 (m := 4503599627370496) (j := j + 1) hs1 hd (by decide) (.inr (Nat.le_refl _)) (by omega)
  rw [show (j + 1) * 4503599627370496 + 4503599627370496 = j * 4503599627370496 + 9007199254740992 by omega] at this
  exact this
end Go.Proofs.YtlnbcpcnpofnoaaGreatDoor.F

/- Quotients in lowest terms, and the document's quotients. -/
namespace Go.Proofs.YtlnbcpcnpofnoaaGreatDoor.F
open Go Go.Proofs.YtlnbcpcnpofnoaaGreatDoor.E
set_option linter.unusedVariables false
set_option linter.unusedSimpArgs false

/-- A quotient of the program: n over d, in lowest terms. -/
def RQ (r : List Int × List Int) (n d c : Nat) : Prop := ∃ n' d', r = (L n', L d') ∧ 0 < d' ∧ Nat.gcd n' d' = 1 ∧ n' * d = n * d' ∧ ln n' ≤ c ∧ ln d' ≤ c
theorem RQ.trans {r : List Int × List Int} {a b n d c : Nat} (h : RQ r a b c) (hb : 0 < b) (e : a * d = n * b) : RQ r n d c := by
  obtain ⟨n', d', h1, h2, h3, h4, h5⟩ := h
  refine ⟨n', d', h1, h2, h3, ?_, h5⟩
  refine Nat.eq_of_mul_eq_mul_right hb ?_
  have e1 : n' * d * b = n' * b * d := Nat.mul_right_comm _ _ _
  have e2 : n * d' * b = n * b * d' := Nat.mul_right_comm _ _ _
  rw [e1, e2, h4, ← e]
  exact Nat.mul_right_comm _ _ _
theorem RQ.le {r : List Int × List Int} {n d c k : Nat} (h : RQ r n d c) (hk : c ≤ k) : RQ r n d k := by
  obtain ⟨n', d', h1, h2, h3, h4, h5, h6⟩ := h
  exact ⟨n', d', h1, h2, h3, h4, by omega, by omega⟩
theorem lowest_ex {a b : Nat} (hb : 0 < b) (ha : ln a ≤ 1048576) (hlb : ln b ≤ 1048576) : Ev (ratio_lowest.f (L a) (L b)) (L (a / Nat.gcd a b), L (b / Nat.gcd a b)) := by
  have hg : 0 < Nat.gcd a b := Nat.gcd_pos_of_pos_right a hb
  have lg := ln_mono (Nat.le_of_dvd hb (Nat.gcd_dvd_right a b))
  exact ev_eq ratio_lowest.f_eq (Ev.bind (qgcd (by omega) (by omega)) (Ev.bind (qdiv hg (by omega) (by omega)) (Ev.bind (qdiv hg (by omega) (by omega)) (ev_now rfl))))
theorem lowest {a b c : Nat} (hb : 0 < b) (hc : c ≤ 1048576) (ha : ln a ≤ c) (hlb : ln b ≤ c) : ∃ r, RQ r a b c ∧ Ev (ratio_lowest.f (L a) (L b)) r := by
  have hg : 0 < Nat.gcd a b := Nat.gcd_pos_of_pos_right a hb
  refine ⟨_, ⟨a / Nat.gcd a b, b / Nat.gcd a b, rfl, Nat.div_pos (Nat.le_of_dvd hb (Nat.gcd_dvd_right a b)) hg, ?_, ?_, ?_, ?_⟩, lowest_ex hb (by omega) (by omega)⟩
  · rw [Nat.gcd_div (Nat.gcd_dvd_left a b) (Nat.gcd_dvd_right a b), Nat.div_self hg]
  · obtain ⟨x, hx⟩ := Nat.gcd_dvd_left a b
    obtain ⟨y, hy⟩ := Nat.gcd_dvd_right a b
    generalize Nat.gcd a b = g at *
    subst hx; subst hy
    rw [Nat.mul_div_cancel_left _ hg, Nat.mul_div_cancel_left _ hg, Nat.mul_left_comm, Nat.mul_assoc]
  · exact Nat.le_trans (ln_mono (Nat.div_le_self _ _)) ha
  · exact Nat.le_trans (ln_mono (Nat.div_le_self _ _)) hlb
theorem under_pos {n d : Nat} (hd : 0 < d) (hl : ln d ≤ 1048576) : Ev (ratio_Ratio_under.f (L n, L d)) (L d) := by
  have hb := bl_pos hd
  exact ev_eq ratio_Ratio_under.f_eq (Ev.bind (nbits (by omega)) (ev_neg (by omega) (ev_now rfl)))
theorem under_zero : Ev (ratio_Ratio_under.f (([] : List Int), ([] : List Int))) (L 1) :=
  ev_eq ratio_Ratio_under.f_eq (Ev.bind (nbits (n := 0) (by decide)) (ev_pos rfl (Ev.bind (of_val (n := 1) (by decide)) (ev_now rfl))))
theorem ratio_of0 {a : Nat} : Ev (ratio_Of.f (L a) (L 0)) ((([] : List Int), ([] : List Int)), false) :=
  ev_eq ratio_Of.f_eq (Ev.bind (nbits (n := 0) (by decide)) (ev_pos rfl (ev_now rfl)))
theorem ratio_of {a b c : Nat} (hb : 0 < b) (hc : c ≤ 1048576) (ha : ln a ≤ c) (hlb : ln b ≤ c) : ∃ r, RQ r a b c ∧ Ev (ratio_Of.f (L a) (L b)) (r, true) := by
  obtain ⟨r, h1, h2⟩ := lowest hb hc ha hlb
  have h3 := bl_pos hb
  exact ⟨r, h1, ev_eq ratio_Of.f_eq (Ev.bind (nbits (by omega)) (ev_neg (by omega) (Ev.bind h2 (ev_now rfl))))⟩
theorem ratio_of_ex {a b : Nat} (hb : 0 < b) (ha : ln a ≤ 1048576) (hlb : ln b ≤ 1048576) : Ev (ratio_Of.f (L a) (L b)) ((L (a / Nat.gcd a b), L (b / Nat.gcd a b)), true) := by
  have h3 := bl_pos hb
  exact ev_eq ratio_Of.f_eq (Ev.bind (nbits (by omega)) (ev_neg (by omega) (Ev.bind (lowest_ex hb ha hlb) (ev_now rfl))))
theorem crossed {n d m e : Nat} (hd : 0 < d) (he : 0 < e) (h1 : ln n ≤ 1048576) (h2 : ln d ≤ 1048576) (h3 : ln m ≤ 1048576) (h4 : ln e ≤ 1048576) :
    Ev (ratio_crossed.f (L n, L d) (L m, L e)) (L (n * e), L (m * d), L (d * e)) :=
  ev_eq ratio_crossed.f_eq (Ev.bind (under_pos hd h2) (Ev.bind (under_pos he h4) (Ev.bind (nmul (by omega) (by omega)) (Ev.bind (nmul (by omega) (by omega)) (Ev.bind (nmul (by omega) (by omega)) (ev_now rfl))))))
theorem cmp_scale {X Y A B P T : Nat} (h1 : X * P = A * T) (h2 : Y * P = B * T) (hP : 0 < P) (hT : 0 < T) : cmpI X Y = cmpI A B := by
  have lt : X < Y ↔ A < B := by
    rw [← Nat.mul_lt_mul_right hP, h1, h2, Nat.mul_lt_mul_right hT]
  have gt : Y < X ↔ B < A := by
    rw [← Nat.mul_lt_mul_right hP, h1, h2, Nat.mul_lt_mul_right hT]
  unfold cmpI
  by_cases c : X < Y
  · rw [if_pos c, if_pos (lt.mp c)]
  · rw [if_neg c, if_neg (fun h => c (lt.mpr h))]
    by_cases c2 : Y < X
    · rw [if_pos c2, if_pos (gt.mp c2)]
    · rw [if_neg c2, if_neg (fun h => c2 (gt.mpr h))]
theorem cross_eq {n' d' n d m' e' m e : Nat} (h1 : n' * d = n * d') (h2 : m' * e = m * e') : n' * e' * (d * e) = n * e * (d' * e') ∧ m' * d' * (d * e) = m * d * (d' * e') := by
  constructor
  · calc n' * e' * (d * e) = (n' * d) * (e' * e) := by grind
      _ = n * d' * (e' * e) := by rw [h1]
      _ = n * e * (d' * e') := by grind
  · calc m' * d' * (d * e) = (m' * e) * (d' * d) := by grind
      _ = m * e' * (d' * d) := by rw [h2]
      _ = m * d * (d' * e') := by grind
theorem ratio_cmp {r s : List Int × List Int} {n d m e c k : Nat} (h1 : RQ r n d c) (h2 : RQ s m e k) (hd : 0 < d) (he : 0 < e) (hc : c ≤ 262144) (hk : k ≤ 262144) : Ev (ratio_Cmp.f r s) (cmpI (n * e) (m * d)) := by
  obtain ⟨n', d', rfl, p1, _, e1, a1, b1⟩ := h1
  obtain ⟨m', e', rfl, p2, _, e2, a2, b2⟩ := h2
  obtain ⟨x1, x2⟩ := cross_eq e1 e2
  have l1 := ln_mul n' e'
  have l2 := ln_mul m' d'
  rw [← cmp_scale x1 x2 (Nat.mul_pos hd he) (Nat.mul_pos p1 p2)]
  exact ev_eq ratio_Cmp.f_eq (Ev.bind (crossed p1 p2 (by omega) (by omega) (by omega) (by omega)) (Ev.bind (ncmp (by omega) (by omega)) (ev_now rfl)))
/-- How far two numbers are from one another. -/
def ad (a b : Nat) : Nat := (a - b) + (b - a)
theorem ad_mul (a b p : Nat) : ad a b * p = ad (a * p) (b * p) := by unfold ad; rw [Nat.add_mul, Nat.sub_mul, Nat.sub_mul]
theorem ad_le (a b : Nat) : ad a b ≤ max a b := by unfold ad; omega
theorem ad_comm (a b : Nat) : ad a b = ad b a := by unfold ad; omega
/-! ### the document's -/
theorem value_half : Ev (ratio_Value.f (1, false, 4503599627370496, (-53))) ((L 1, L 2), true) := by
  have hb := value_bits (s := 0) (e := 1022) (f := 0) (by decide) (by decide) (by decide) (.inr rfl)
  rw [show V 0 1022 0 = (1, false, 4503599627370496, -53) by decide] at hb
  have l1 := ln_small (n := 1) (by decide)
  have lm := ln_small (n := 4503599627370496) (by decide)
  have hn := noughts (n := 4503599627370496) (k := 52) (by omega) ⟨0, by decide⟩
  have hd := down (n := 4503599627370496) (c := 52) (by omega) (by decide)
  rw [show 4503599627370496 / 2 ^ 52 = 1 by decide, show decide (4503599627370496 % 2 ^ 52 ≠ 0) = false by decide] at hd
  have hu := up (n := 1) (c := 1) (by omega) (by decide)
  rw [show 1 * 2 ^ 1 = 2 by decide] at hu
  have hbits := nbits (n := 4503599627370496) (by omega)
  rw [bl_eq (n := 4503599627370496) (k := 52) (by decide) (by decide)] at hbits
  refine ev_eq ratio_Value.f_eq ?_
  dsimp only
  refine ev_pos (by decide) (ev_neg (by decide) (Ev.bind hb (ev_neg (by simp) (Ev.bind (of_val (n := 4503599627370496) (by decide)) (ev_neg (by decide) (Ev.bind hn ?_))))))
  rw [show mnI ((52 : Nat) : Int) (IntKind.i64.wrap (0 - (-53))) = ((52 : Nat) : Int) by decide]
  refine Ev.bind hd (Ev.bind hbits (ev_neg (by decide) (Ev.bind (of_val (n := 1) (by decide)) ?_)))
  rw [show IntKind.i64.wrap (IntKind.i64.wrap (0 - (-53)) - ((52 : Nat) : Int)) = ((1 : Nat) : Int) by decide]
  exact Ev.bind hu (ev_now rfl)
end Go.Proofs.YtlnbcpcnpofnoaaGreatDoor.F

/- Small rules for quotients. -/
namespace Go.Proofs.YtlnbcpcnpofnoaaGreatDoor.F
open Go Go.Proofs.YtlnbcpcnpofnoaaGreatDoor.E
set_option linter.unusedVariables false
set_option linter.unusedSimpArgs false
theorem ratio_eq {r s : List Int × List Int} {n d m e c k : Nat} (h1 : RQ r n d c) (h2 : RQ s m e k) (hd : 0 < d) (he : 0 < e) (hc : c ≤ 262144) (hk : k ≤ 262144) (h : n * e = m * d) : Ev (ratio_Cmp.f r s) 0 := by
  have := ratio_cmp h1 h2 hd he hc hk
  rw [h, cmpI_self] at this
  exact this
theorem dn_pos {b : Nat} (hb : 0 < b) : 0 < dn b := by
  rcases Nat.eq_zero_or_pos (dn b) with h | h
  · exfalso
    have := (dg_len b10 b 0).mp (by unfold dn at h; omega)
    rw [Nat.pow_zero] at this
    omega
  · exact h
end Go.Proofs.YtlnbcpcnpofnoaaGreatDoor.F

/- The document's decimals of a value, and its noughts. -/
namespace Go.Proofs.YtlnbcpcnpofnoaaGreatDoor.F
open Go Go.Proofs.YtlnbcpcnpofnoaaGreatDoor.E
set_option linter.unusedVariables false
theorem dg_noughts (n : Nat) (hn : 0 < n) (k : Nat) : dg 10 (n * 10 ^ k) = List.replicate k 0 ++ dg 10 n := by
  induction k with
  | zero => rw [Nat.pow_zero, Nat.mul_one]; rfl
  | succ k ih =>
    rw [dg_pos b10 (Nat.mul_pos hn (Nat.pow_pos (by decide))), Nat.pow_succ, ← Nat.mul_assoc, Nat.mul_mod_left, Nat.mul_div_cancel _ (by decide), ih]; rfl
theorem rtens_up {n k : Nat} (hn : dn n ≤ 1048576) (hk : k ≤ 1048576) : Ev (numeraryref07_Tens.f (D n) (k : Int)) (D (n * 10 ^ k)) := by
  refine ev_eq numeraryref07_Tens.f_eq ?_
  rcases Nat.eq_zero_or_pos n with rfl | h0
  · exact ev_pos rfl (ev_now (by rw [Nat.zero_mul]))
  · have := dn_pos h0
    refine ev_neg (by rw [D_length]; omega) ?_
    rcases Nat.eq_zero_or_pos k with rfl | hk0
    · exact ev_pos (by omega) (ev_now (by rw [Nat.pow_zero, Nat.mul_one]))
    · refine ev_neg (by omega) (ev_pos (by omega) (ev_pos (by omega) (ev_pos ?_ (ev_now ?_))))
      · rw [D_length, List.length_replicate, Int.toNat_natCast]; omega
      · rw [Int.toNat_natCast, show List.replicate k (0 : Int) = nl (List.replicate k 0) from nl_replicate k 0]
        unfold D
        rw [dg_noughts n h0, nl_append]
theorem rtens_low {n : Nat} {k : Int} (hk : k < 1) : Ev (numeraryref07_Tens.f (D n) k) (D n) := by
  refine ev_eq numeraryref07_Tens.f_eq ?_
  by_cases h : ((D n).length : Int) = 0
  · exact ev_pos h (ev_now rfl)
  · exact ev_neg h (ev_pos hk (ev_now rfl))
theorem dn_ten (n k : Nat) : dn (n * 10 ^ k) ≤ dn n + k := by
  refine (dg_len b10 _ _).mpr ?_
  rw [Nat.pow_add]
  exact Nat.mul_lt_mul_of_pos_right (dg_lt b10 n) (Nat.pow_pos (by decide))
theorem dn_two (n k : Nat) : dn (n * 2 ^ k) ≤ dn n + k :=
  Nat.le_trans (dn_mono (Nat.mul_le_mul_left _ (Nat.pow_le_pow_left (by decide) k))) (dn_ten n k)
theorem dn_five (n k : Nat) : dn (n * 5 ^ k) ≤ dn n + k :=
  Nat.le_trans (dn_mono (Nat.mul_le_mul_left _ (Nat.pow_le_pow_left (by decide) k))) (dn_ten n k)
theorem rdec_l1 {m c : Nat} (hm : dn m ≤ 1000) (hc : c ≤ 100000) : ∀ k i, i + k = c → Ev (numeraryref07_Decimals.l1 (D (m * 5 ^ i)) (i : Int) ((i : Int) - (c : Int))) (D (m * 5 ^ c), (c : Int)) := by
  intro k
  induction k with
  | zero =>
    intro i hi
    obtain rfl : i = c := by omega
    exact ev_loop numeraryref07_Decimals.l1_eq numeraryref07_Decimals.l1_step (ev_neg (by omega) (ev_now rfl))
  | succ k ih =>
    intro i hi
    have l1 := dn_five m i
    have := rtimes_D (n := m * 5 ^ i) (m := 5) (by omega) (by decide)
    rw [Nat.mul_assoc, ← Nat.pow_succ] at this
    refine ev_loop numeraryref07_Decimals.l1_eq numeraryref07_Decimals.l1_step (ev_pos (by omega) (Ev.bind this ?_))
    have h := ih (i + 1) (by omega)
    rw [wrap_id (x := (i : Int) + 1) (by omega) (by omega), wrap_id (x := (i : Int) - (c : Int) + 1) (by omega) (by omega)]
    rw [show (i : Int) - (c : Int) + 1 = ((i + 1 : Nat) : Int) - (c : Int) by omega]
    exact h
theorem rdec_l0 {m c : Nat} {x : Int} {R : List Int × Int} (hm : dn m ≤ 1000) (hc : c ≤ 100000) (hx : x ≤ (c : Int)) (hc2 : 0 < c → x = (c : Int)) (h : Ev (numeraryref07_Decimals.l1 (D (m * 2 ^ c)) 0 x) R) : ∀ k i, i + k = c → Ev (numeraryref07_Decimals.l0 x (D (m * 2 ^ i)) (i : Int)) R := by
  intro k
  induction k with
  | zero =>
    intro i hi
    obtain rfl : i = c := by omega
    exact ev_loop numeraryref07_Decimals.l0_eq numeraryref07_Decimals.l0_step (ev_neg (by omega) h)
  | succ k ih =>
    intro i hi
    have l1 := dn_two m i
    have := rtimes_D (n := m * 2 ^ i) (m := 2) (by omega) (by decide)
    rw [Nat.mul_assoc, ← Nat.pow_succ] at this
    refine ev_loop numeraryref07_Decimals.l0_eq numeraryref07_Decimals.l0_step (ev_pos (by omega) (Ev.bind this ?_))
    have h := ih (i + 1) (by omega)
    rw [wrap_id (x := (i : Int) + 1) (by omega) (by omega)]
    exact h
theorem rdec_up {m c : Nat} (hm : m < 18446744073709551616) (hc : c ≤ 100000) : Ev (numeraryref07_Decimals.f (m : Int) (c : Int)) (D (m * 2 ^ c), 0) := by
  have l := dn_small hm
  refine ev_eq numeraryref07_Decimals.f_eq (Ev.bind (rof_val hm) ?_)
  have l2 := dn_two m c
  have h1 : Ev (numeraryref07_Decimals.l1 (D (m * 2 ^ c)) 0 (c : Int)) (D (m * 2 ^ c), 0) :=
    ev_loop numeraryref07_Decimals.l1_eq numeraryref07_Decimals.l1_step (ev_neg (by omega) (ev_now rfl))
  have := rdec_l0 (by omega) hc (Int.le_refl _) (fun _ => rfl) h1 c 0 (by omega)
  rw [Nat.pow_zero, Nat.mul_one] at this
  exact this
theorem rdec_down {m c : Nat} (hm : m < 18446744073709551616) (hc : c ≤ 100000) : Ev (numeraryref07_Decimals.f (m : Int) (-(c : Int))) (D (m * 5 ^ c), (c : Int)) := by
  have l := dn_small hm
  refine ev_eq numeraryref07_Decimals.f_eq (Ev.bind (rof_val hm) ?_)
  have h1 := rdec_l1 (m := m) (by omega) hc c 0 (by omega)
  rw [Nat.pow_zero, Nat.mul_one] at h1
  have h2 : ((0 : Nat) : Int) - (c : Int) = -(c : Int) := by omega
  rw [h2] at h1
  have h3 : m * 2 ^ 0 = m := by rw [Nat.pow_zero, Nat.mul_one]
  rw [← h3] at h1
  have := rdec_l0 (m := m) (c := 0) (x := -(c : Int)) (by omega) (by omega) (by omega) (by omega) (by rw [h3] at h1 ⊢; exact h1) 0 0 (by omega)
  rw [h3] at this
  exact this
end Go.Proofs.YtlnbcpcnpofnoaaGreatDoor.F

/- The bits nearest to a number, and their neighbours. -/
namespace Go.Proofs.YtlnbcpcnpofnoaaGreatDoor.F
open Go Go.Proofs.YtlnbcpcnpofnoaaGreatDoor.E
set_option linter.unusedVariables false
set_option linter.unusedSimpArgs false
/-- The value of bits that aren't negative, times two to 1074. -/
def Nb (b : Nat) : Nat := if b < 4503599627370496 then b else (b % 4503599627370496 + 4503599627370496) * 2 ^ (b / 4503599627370496 - 1)
theorem Nb_at {b E M : Nat} (hb : b = E * 4503599627370496 + M) (hM : M ≤ 9007199254740992) (hE : E = 0 ∨ 4503599627370496 ≤ M) : Nb b = M * 2 ^ E := by
  unfold Nb
  by_cases c : b < 4503599627370496
  · have h0 : E = 0 := by omega
    subst h0
    rw [if_pos c, Nat.pow_zero, Nat.mul_one]; omega
  · rw [if_neg c]
    by_cases c2 : M = 9007199254740992
    · have e1 : b / 4503599627370496 = E + 2 := by omega
      have e2 : b % 4503599627370496 = 0 := by omega
      rw [e1, e2, c2, Nat.zero_add, show E + 2 - 1 = E + 1 by omega, Nat.pow_succ, Nat.mul_comm (2 ^ E) 2, ← Nat.mul_assoc]
    · have e1 : b / 4503599627370496 = E + 1 := by omega
      have e2 : b % 4503599627370496 + 4503599627370496 = M := by omega
      rw [e1, e2, Nat.add_sub_cancel]
theorem rnd_near {u v : Nat} (hv : 0 < v) : 2 * u ≤ (2 * rnd u v + 1) * v ∧ 2 * rnd u v * v ≤ 2 * u + v ∧ (2 * u = (2 * rnd u v + 1) * v → rnd u v % 2 = 0) ∧ (2 * rnd u v * v = 2 * u + v → rnd u v % 2 = 0) := by
  have h1 := Nat.div_add_mod u v
  have h2 := Nat.mod_lt u hv
  have p := @rnd_pos u v
  have n := @rnd_neg u v
  generalize rnd u v = R at *
  generalize u / v = q at *
  generalize u % v = r at *
  have e1 : (2 * (q + 1) + 1) * v = 2 * (v * q) + 3 * v := by grind
  have e2 : 2 * (q + 1) * v = 2 * (v * q) + 2 * v := by grind
  have e3 : (2 * q + 1) * v = 2 * (v * q) + v := by grind
  have e4 : 2 * q * v = 2 * (v * q) := by grind
  by_cases c : v < 2 * r ∨ (2 * r = v ∧ q % 2 = 1)
  · rw [p c]
    clear p n
    rw [e1, e2]
    generalize v * q = z at *
    omega
  · rw [n c]
    clear p n
    rw [e3, e4]
    generalize v * q = z at *
    omega
theorem mids {u Y E b : Nat} (hY : 0 < Y) (h1 : u < 9007199254740992 * (Y * 2 ^ E)) (h2 : E = 0 ∨ 4503599627370496 * (Y * 2 ^ E) ≤ u) (hb : b = E * 4503599627370496 + rnd u (Y * 2 ^ E)) :
    2 * u ≤ Y * (Nb b + Nb (b + 1)) ∧ (2 * u = Y * (Nb b + Nb (b + 1)) → b % 2 = 0) ∧ (0 < b → Y * (Nb (b - 1) + Nb b) ≤ 2 * u ∧ (2 * u = Y * (Nb (b - 1) + Nb b) → b % 2 = 0)) := by
  have hv : 0 < Y * 2 ^ E := Nat.mul_pos hY (Nat.pow_pos (by decide))
  have hq : u / (Y * 2 ^ E) < 9007199254740992 := Nat.div_lt_of_lt_mul (by rw [Nat.mul_comm (Y * 2 ^ E)]; exact h1)
  have hR := rnd_le u (Y * 2 ^ E)
  have hR2 := rnd_ge u (Y * 2 ^ E)
  have hge : E = 0 ∨ 4503599627370496 ≤ u / (Y * 2 ^ E) := h2.imp id (fun h => (Nat.le_div_iff_mul_le hv).mpr h)
  obtain ⟨n1, n2, n3, n4⟩ := rnd_near (u := u) hv
  generalize rnd u (Y * 2 ^ E) = R at *
  have hRle : R ≤ 9007199254740992 := by omega
  have hER : E = 0 ∨ 4503599627370496 ≤ R := hge.imp id (fun h => by omega)
  clear hR hR2 hge hq
  have b0 := Nb_at hb hRle hER
  have par : b % 2 = R % 2 := by omega
  have up : (R + 1) * 2 ^ E ≤ Nb (b + 1) := by
    by_cases c : R + 1 ≤ 9007199254740992
    · rw [Nb_at (b := b + 1) (E := E) (M := R + 1) (by omega) c (by omega)]
      exact Nat.le_refl _
    · have c2 : R = 9007199254740992 := by omega
      rw [Nb_at (b := b + 1) (E := E + 1) (M := 4503599627370497) (by omega) (by decide) (.inr (by decide)), Nat.pow_succ, Nat.mul_comm (2 ^ E) 2, ← Nat.mul_assoc]
      exact Nat.mul_le_mul_right _ (by omega)
  have up2 : (2 * R + 1) * (Y * 2 ^ E) ≤ Y * (Nb b + Nb (b + 1)) := by
    rw [b0]
    calc (2 * R + 1) * (Y * 2 ^ E) = Y * (R * 2 ^ E + (R + 1) * 2 ^ E) := by grind
      _ ≤ _ := Nat.mul_le_mul_left _ (Nat.add_le_add_left up _)
  refine ⟨Nat.le_trans n1 up2, fun h => ?_, fun hb0 => ?_⟩
  · rw [par]; exact n3 (Nat.le_antisymm n1 (h ▸ up2))
  · by_cases c : E = 0 ∨ 4503599627370496 ≤ R - 1
    · have hR0 : 1 ≤ R := by omega
      have b1 := Nb_at (b := b - 1) (E := E) (M := R - 1) (by omega) (by omega) c
      have e : Y * (Nb (b - 1) + Nb b) + Y * 2 ^ E = 2 * R * (Y * 2 ^ E) := by
        rw [b0, b1]
        obtain ⟨Q, rfl⟩ : ∃ Q, R = Q + 1 := ⟨R - 1, by omega⟩
        rw [Nat.add_sub_cancel]; grind
      refine ⟨by omega, fun h => ?_⟩
      rw [par]; exact n4 (by omega)
    · obtain ⟨F, rfl⟩ : ∃ F, E = F + 1 := ⟨E - 1, by omega⟩
      have hR0 : R = 4503599627370496 := by omega
      have hu : 4503599627370496 * (Y * 2 ^ (F + 1)) ≤ u := by omega
      have b1 := Nb_at (b := b - 1) (E := F) (M := 9007199254740991) (by omega) (by decide) (.inr (by decide))
      have hF : 0 < Y * 2 ^ F := Nat.mul_pos hY (Nat.pow_pos (by decide))
      have e : Y * (Nb (b - 1) + Nb b) + Y * 2 ^ F = 2 * (4503599627370496 * (Y * 2 ^ (F + 1))) := by
        rw [b0, b1, hR0, Nat.pow_succ]; grind
      refine ⟨by omega, fun h => by omega⟩
/-- What the document says of bits that are neither negative nor infinite nor Nothing. -/
theorem ref_value {c K : Nat} (hK : K = 1074) (hc : c < 9218868437227405312) : ∃ (cl m x : Int) (p pk : Nat), cl ≤ 1 ∧ Ev (numeraryref07_Of.f (c : Int)) (cl, false, m, x) ∧ Ev (numeraryref07_Decimals.f m x) (D p, (pk : Int)) ∧ pk ≤ K ∧ dn p ≤ 4000 ∧ p * 2 ^ K = Nb c * 10 ^ pk := by
  obtain ⟨s, e, f, hs, he, hf, hW⟩ := W_split (b := c) (by omega)
  have hs0 : s = 0 := by unfold W at hW; omega
  subst hs0
  have he2 : e < 2047 := by unfold W at hW; omega
  have ho := ref_of (s := 0) (e := e) (f := f) (by decide) he hf
  rw [← hW] at ho
  have ten : ∀ j : Nat, (10 : Nat) ^ j = 5 ^ j * 2 ^ j := fun j => by rw [← Nat.mul_pow]
  by_cases e0 : e = 0
  · have hN : Nb c = f := by
      have hcf : c = f := by rw [hW, e0]; unfold W; omega
      unfold Nb; rw [if_pos (by omega), hcf]
    by_cases f0 : f = 0
    · have hV : V 0 e f = (0, false, 0, 0) := by unfold V; rw [if_neg (by omega), if_pos e0, if_pos f0]; rfl
      rw [hV] at ho
      have hd := rdec_up (m := 0) (c := 0) (by decide) (by decide)
      rw [Nat.zero_mul] at hd
      refine ⟨0, 0, 0, 0, 0, by decide, ho, hd, Nat.zero_le _, Nat.le_trans (dn_small (n := 0) (by decide)) (by decide), ?_⟩
      rw [hN, f0, Nat.zero_mul, Nat.zero_mul]
    · have hV : V 0 e f = (1, false, (f : Int), -1074) := by unfold V; rw [if_neg (by omega), if_pos e0, if_neg f0]; rfl
      rw [hV] at ho
      have hd := rdec_down (m := f) (c := K) (by omega) (by omega)
      rw [show (-(K : Int)) = -1074 by omega] at hd
      have l1 := dn_small (n := f) (by omega)
      have l2 := dn_five f K
      refine ⟨1, f, -1074, f * 5 ^ K, K, by decide, ho, hd, Nat.le_refl _, by omega, ?_⟩
      rw [hN, ten, Nat.mul_assoc]
  · have hN : Nb c = (f + 4503599627370496) * 2 ^ (e - 1) := by
      obtain ⟨d, rfl⟩ : ∃ d, e = d + 1 := ⟨e - 1, by omega⟩
      refine Nb_at (E := d) (M := f + 4503599627370496) ?_ (by clear hW ho he he2 e0; omega) (.inr (Nat.le_add_left _ _))
      rw [hW]; unfold W
      rw [Nat.zero_mul, Nat.zero_add, Nat.add_mul, Nat.one_mul, Nat.add_assoc, Nat.add_comm f]
    have hV : V 0 e f = (1, false, ((f + 4503599627370496 : Nat) : Int), (e : Int) - 1075) := by unfold V; rw [if_neg (by omega), if_neg e0]; rfl
    rw [hV] at ho
    have hm : f + 4503599627370496 < 18446744073709551616 := by clear hN hW ho hV; omega
    generalize f + 4503599627370496 = M at *
    have l1 := dn_small hm
    by_cases hx : 1075 ≤ e
    · obtain ⟨d, hd⟩ : ∃ d, e = 1075 + d := ⟨e - 1075, by omega⟩
      have h := rdec_up (m := M) (c := d) hm (by omega)
      have l2 := dn_two M d
      refine ⟨1, M, (e : Int) - 1075, M * 2 ^ d, 0, by decide, ho, ?_, Nat.zero_le _, by omega, ?_⟩
      · rw [show (e : Int) - 1075 = (d : Int) by omega]; exact h
      · rw [hN, Nat.pow_zero, Nat.mul_one, Nat.mul_assoc, ← Nat.pow_add, show d + K = e - 1 by omega]
    · obtain ⟨d, hd⟩ : ∃ d, d + e = 1075 := ⟨1075 - e, by omega⟩
      have h := rdec_down (m := M) (c := d) hm (by omega)
      have l2 := dn_five M d
      refine ⟨1, M, (e : Int) - 1075, M * 5 ^ d, d, by decide, ho, ?_, by omega, by omega, ?_⟩
      · rw [show (e : Int) - 1075 = -(d : Int) by omega]; exact h
      · rw [hN, ten, show K = e - 1 + d by omega, Nat.pow_add]; grind
theorem cmp_both {A B a b s t : Nat} (hs : 0 < s) (ht : 0 < t) (hA : A * s = a * t) (hB : B * s = b * t) : cmpI A B = cmpI a b := by
  have h1 : A < B ↔ a < b := by rw [← Nat.mul_lt_mul_right (b := A) hs, hA, hB, Nat.mul_lt_mul_right ht]
  have h2 : B < A ↔ b < a := by rw [← Nat.mul_lt_mul_right (b := B) hs, hA, hB, Nat.mul_lt_mul_right ht]
  unfold cmpI
  by_cases c : A < B
  · rw [if_pos c, if_pos (h1.mp c)]
  · rw [if_neg c, if_neg (fun h => c (h1.mpr h))]
    by_cases c2 : B < A
    · rw [if_pos c2, if_pos (h2.mp c2)]
    · rw [if_neg c2, if_neg (fun h => c2 (h2.mpr h))]
theorem mxI_nat (a b : Nat) : mxI (a : Int) (b : Int) = ((max a b : Nat) : Int) := by unfold mxI; split <;> omega
end Go.Proofs.YtlnbcpcnpofnoaaGreatDoor.F

/- Fractions near numbers. -/
namespace Go.Proofs.YtlnbcpcnpofnoaaGreatDoor.F
open Go Go.Proofs.YtlnbcpcnpofnoaaGreatDoor.E
set_option linter.unusedVariables false
set_option linter.unusedSimpArgs false

/-- The whole number next to x over y; of two as near the greater one. -/
def near (x y : Nat) : Nat := (2 * x + y) / (2 * y)
theorem near_half {x y : Nat} (hy : 0 < y) : (x / y + if y ≤ 2 * (x % y) then 1 else 0) = near x y := by
  have h1 := Nat.div_add_mod x y
  have h2 := Nat.mod_lt x hy
  unfold near
  generalize x / y = q at *
  generalize x % y = r at *
  subst h1
  have e : 2 * (y * q + r) + y = (2 * r + y) + 2 * y * q := by rw [Nat.mul_assoc]; omega
  rw [e, Nat.add_mul_div_left _ _ (by omega : 0 < 2 * y), Nat.add_comm q]
  congr 1
  split
  · rw [Nat.div_eq_of_lt_le] <;> omega
  · rw [Nat.div_eq_of_lt]; omega
theorem near_scale {x y X Y : Nat} (hy : 0 < y) (hY : 0 < Y) (h : x * Y = X * y) : near x y = near X Y := by
  unfold near
  rw [← Nat.mul_div_mul_right (2 * x + y) (2 * y) hY, ← Nat.mul_div_mul_right (2 * X + Y) (2 * Y) hy]
  congr 1
  · rw [Nat.add_mul, Nat.add_mul, Nat.mul_assoc, Nat.mul_assoc, h, Nat.mul_comm y]
  · rw [Nat.mul_assoc, Nat.mul_assoc, Nat.mul_comm y]
theorem near_le {x y : Nat} (hy : 0 < y) : near x y ≤ x + 1 := by
  rw [← near_half hy]
  have := Nat.div_le_self x y
  split <;> omega
end Go.Proofs.YtlnbcpcnpofnoaaGreatDoor.F

/- Layer 5: what the laws' own helpers come to. -/
namespace Go.Proofs.YtlnbcpcnpofnoaaGreatDoor.F
open Go Go.Proofs.YtlnbcpcnpofnoaaGreatDoor.E
set_option linter.unusedVariables false
set_option linter.unusedSimpArgs false
theorem wf_u16 {x : Int} (h : (Lit.int .u16 x).wf = true) : 0 ≤ x ∧ x < 65536 := by
  simp [Lit.wf, IntKind.min, IntKind.max, IntKind.signed, IntKind.bits] at h
  omega
theorem ln_pow10 (c : Nat) : ln (10 ^ c) ≤ c / 8 + 1 := by
  refine (dg_len b32 _ _).mpr ?_
  have h1 : 10 ^ c ≤ 16 ^ c := Nat.pow_le_pow_left (by decide) c
  have h2 : 16 ^ c = 2 ^ (4 * c) := by rw [show 16 = 2 ^ 4 by decide, ← Nat.pow_mul]
  have h3 : 2 ^ (4 * c) < 4294967296 ^ (c / 8 + 1) := by
    rw [show (4294967296 : Nat) = 2 ^ 32 by decide, ← Nat.pow_mul]
    exact Nat.pow_lt_pow_right (by decide) (by omega)
  omega
end Go.Proofs.YtlnbcpcnpofnoaaGreatDoor.F

/- Steps of a quotient, days and times. -/
namespace Go.Proofs.YtlnbcpcnpofnoaaGreatDoor.F
open Go Go.Proofs.YtlnbcpcnpofnoaaGreatDoor.E
set_option linter.unusedVariables false
set_option linter.unusedSimpArgs false
theorem near_spec {x y n : Nat} (hy : 0 < y) (h : n = near x y) : 2 * n * y ≤ 2 * x + y ∧ 2 * x + y < (2 * n + 2) * y := by
  have h1 := Nat.div_add_mod (2 * x + y) (2 * y)
  have h2 := Nat.mod_lt (2 * x + y) (show 0 < 2 * y by omega)
  unfold near at h
  rw [← h] at h1
  have e1 : 2 * y * n = 2 * n * y := by grind
  have e2 : (2 * n + 2) * y = 2 * n * y + 2 * y := by grind
  rw [e2]
  rw [e1] at h1
  generalize 2 * n * y = z at *
  omega
theorem near_uniq {x y n : Nat} (hy : 0 < y) (h1 : 2 * n * y ≤ 2 * x + y) (h2 : 2 * x + y < (2 * n + 2) * y) : near x y = n := by
  unfold near
  refine Nat.div_eq_of_lt_le ?_ ?_
  · have : n * (2 * y) = 2 * n * y := by grind
    omega
  · have : (n + 1) * (2 * y) = (2 * n + 2) * y := by grind
    omega
theorem rq_one {t : List Int × List Int} {n c : Nat} (h : RQ t n 1 c) : t = (L n, L 1) := by
  obtain ⟨n', d', rfl, p1, g, e1, _, _⟩ := h
  rw [Nat.mul_one] at e1
  have : d' ∣ Nat.gcd n' d' := Nat.dvd_gcd ⟨n, by rw [e1, Nat.mul_comm]⟩ (Nat.dvd_refl _)
  rw [g] at this
  obtain rfl := Nat.eq_one_of_dvd_one this
  rw [Nat.mul_one] at e1
  rw [e1]
theorem one_rq {n : Nat} : RQ (L n, L 1) n 1 (ln n + 1) := ⟨n, 1, rfl, by decide, Nat.gcd_one_right n, rfl, by omega, by rw [show ln 1 = 1 by decide]; omega⟩
/-! ### days -/
end Go.Proofs.YtlnbcpcnpofnoaaGreatDoor.F

/- The value of 64 bits, as a quotient and as the document's decimals; decimals that are cut off. -/
namespace Go.Proofs.YtlnbcpcnpofnoaaGreatDoor.F
open Go Go.Proofs.YtlnbcpcnpofnoaaGreatDoor.E
set_option linter.unusedVariables false
set_option linter.unusedSimpArgs false
theorem mnI_min (a b : Nat) : mnI (a : Int) (b : Int) = ((min a b : Nat) : Int) := by unfold mnI; split <;> omega
theorem value_tail {cl : Int} {sg : Bool} {mu : Nat} {x b : Int} {R : (List Int × List Int) × Bool} (hb : Ev (bits_Value_Bits.f (cl, sg, (mu : Int), x)) (b, true)) (hcl : cl = 0 ∨ cl = 1) (hM : mu < 18446744073709551616)
    (h : Ev (if x ≥ 0 then (M.bind (tens_Up.f (L mu) x) fun t3 => (M.bind (nat_Of.f 1) fun t4 => (M.ret ((t3, t4), true)))) else (M.bind (tens_Noughts.f (L mu)) fun t5 => (M.bind (tens_Down.f (L mu) (mnI t5 (IntKind.i64.wrap (0 - x)))) fun t6 => (M.bind (nat_Nat_Bits.f (L mu)) fun t7 => (if t7 = 0 then (M.ret ((([] : List Int), ([] : List Int)), true)) else (M.bind (nat_Of.f 1) fun t8 => (M.bind (tens_Up.f t8 (IntKind.i64.wrap ((IntKind.i64.wrap (0 - x)) - (mnI t5 (IntKind.i64.wrap (0 - x)))))) fun t9 => (M.ret ((t6.1, t9), true))))))))) R) :
    Ev (ratio_Value.f (cl, sg, (mu : Int), x)) R := by
  refine ev_eq ratio_Value.f_eq ?_
  rcases hcl with rfl | rfl
  · exact ev_neg (by simp) (Ev.bind hb (ev_neg (by simp) (Ev.bind (of_val hM) h)))
  · exact ev_pos (by simp) (ev_neg (by simp) (Ev.bind hb (ev_neg (by simp) (Ev.bind (of_val hM) h))))
theorem gcd_odd_pow {m c : Nat} (h : m % 2 = 1) : Nat.gcd m (2 ^ c) = 1 := by
  have h2 : Nat.Coprime m 2 := by
    rw [Nat.coprime_comm]
    unfold Nat.Coprime
    rw [← Nat.mod_add_div m 2, h, Nat.gcd_add_mul_left_right]
    rfl
  exact Nat.Coprime.pow_right c h2
theorem two_pow_ln {c : Nat} (hc : c ≤ 2000) : ln (2 ^ c) ≤ 70 := by
  have h1 := ln_pow2 1 c
  have h2 := ln_small (n := 1) (by decide)
  rw [Nat.one_mul] at h1
  omega
theorem value_up {cl : Int} {sg : Bool} {mu c : Nat} {x b : Int} (hb : Ev (bits_Value_Bits.f (cl, sg, (mu : Int), x)) (b, true)) (hcl : cl = 0 ∨ cl = 1) (hM : mu < 18446744073709551616) (hx : x = (c : Int)) (hc : c ≤ 2000) :
    ∃ r, RQ r (mu * 2 ^ c) 1 100 ∧ Ev (ratio_Value.f (cl, sg, (mu : Int), x)) (r, true) := by
  have l1 := ln_small hM
  have l2 := ln_pow2 mu c
  have l3 : ln 1 = 1 := by decide
  subst hx
  exact ⟨_, ⟨mu * 2 ^ c, 1, rfl, by decide, Nat.gcd_one_right _, rfl, by omega, by omega⟩, value_tail hb hcl hM (ev_pos (by omega) (Ev.bind (up (by omega) (by omega)) (Ev.bind (of_val (n := 1) (by decide)) (ev_now rfl))))⟩
theorem value_down {cl : Int} {sg : Bool} {mu c : Nat} {x b : Int} (hb : Ev (bits_Value_Bits.f (cl, sg, (mu : Int), x)) (b, true)) (hcl : cl = 0 ∨ cl = 1) (hM : mu < 18446744073709551616) (h0 : 0 < mu) (hx : x = -(c : Int)) (hc : c ≤ 2000) (hc0 : 0 < c) :
    ∃ r, RQ r mu (2 ^ c) 100 ∧ Ev (ratio_Value.f (cl, sg, (mu : Int), x)) (r, true) := by
  have l1 := ln_small hM
  obtain ⟨k, hk⟩ := tz_ex mu h0
  have hb0 := bl_pos h0
  have l4 := two_pow_ln (c := c - min k c) (by omega)
  have l5 := ln_mono (Nat.div_le_self mu (2 ^ min k c))
  have l6 : ln 1 = 1 := by decide
  have hw : IntKind.i64.wrap (0 - -(c : Int)) = (c : Int) := by rw [wrap_id (by omega) (by omega)]; omega
  have hw2 : IntKind.i64.wrap ((c : Int) - ((min k c : Nat) : Int)) = ((c - min k c : Nat) : Int) := by rw [wrap_id (by omega) (by omega)]; omega
  have hdv : 2 ^ min k c ∣ mu := Nat.dvd_of_mod_eq_zero ((hk.mod _).mpr (Nat.min_le_left _ _))
  have hu := up (n := 1) (c := c - min k c) (by omega) (by omega)
  rw [Nat.one_mul] at hu
  subst hx
  refine ⟨_, ⟨mu / 2 ^ min k c, 2 ^ (c - min k c), rfl, Nat.pow_pos (by decide), ?_, ?_, by omega, by omega⟩, value_tail hb hcl hM (ev_neg (by omega) (Ev.bind (noughts (by omega) hk) ?_))⟩
  · rcases Nat.le_total k c with h | h
    · rw [Nat.min_eq_left h]
      exact gcd_odd_pow hk.div
    · rw [Nat.min_eq_right h, Nat.sub_self, Nat.pow_zero, Nat.gcd_one_right]
  · obtain ⟨z, hz⟩ := hdv
    rw [hz, Nat.mul_div_cancel_left _ (Nat.pow_pos (by decide)), Nat.mul_right_comm, ← Nat.pow_add, show min k c + (c - min k c) = c by omega, Nat.mul_comm]
  · rw [hw, mnI_min, hw2]
    exact Ev.bind (down (by omega) (by omega)) (Ev.bind (nbits (by omega)) (ev_neg (by omega) (Ev.bind (of_val (n := 1) (by decide)) (Ev.bind hu (ev_now rfl)))))
/-- The value of bits that are finite or nought: n over d of the program, p with pk places of the document. -/
theorem val64N {s e f : Nat} (hs : s ≤ 1) (he : e < 2047) (hf : f < 4503599627370496) : ∃ (cl m x : Int) (r : List Int × List Int) (n d p pk : Nat), V s e f = (cl, decide (s = 1), m, x) ∧ (cl = 0 ∨ cl = 1) ∧ (cl = 0 ↔ n = 0) ∧ (e = 0 ∧ f = 0 ↔ n = 0) ∧ 0 < d ∧ RQ r n d 100 ∧ ln n ≤ 100 ∧ ln d ≤ 100 ∧
    Ev (ratio_Value.f (V s e f)) (r, true) ∧ Ev (numeraryref07_Decimals.f m x) (D p, (pk : Int)) ∧ pk ≤ 1074 ∧ dn p ≤ 4000 ∧ p * d = n * 10 ^ pk ∧ (pk = 0 ∨ d = 2 ^ pk) ∧ (d = 1 ∨ d = 2 ^ pk) ∧ (pk = 0 → d = 1) ∧ ∀ J : Nat, J = 1074 → n * 2 ^ J = (if e = 0 then f else (f + 4503599627370496) * 2 ^ (e - 1)) * d := by
  have hb := value_bits hs (show e < 2048 by omega) hf (.inl (by omega))
  have ten : ∀ j : Nat, (10 : Nat) ^ j = 5 ^ j * 2 ^ j := fun j => by rw [← Nat.mul_pow]
  have hl1 : ln 1 = 1 := by decide
  by_cases e0 : e = 0
  · by_cases f0 : f = 0
    · have hV : V s e f = (0, decide (s = 1), ((0 : Nat) : Int), ((0 : Nat) : Int)) := by unfold V; rw [if_neg (by omega), if_pos e0, if_pos f0]; rfl
      rw [hV] at hb ⊢
      obtain ⟨r, hr, hv⟩ := value_up (c := 0) hb (.inl rfl) (by decide) rfl (by decide)
      have hd := rdec_up (m := 0) (c := 0) (by decide) (by decide)
      rw [Nat.zero_mul] at hd hr
      exact ⟨_, _, _, r, 0, 1, 0, 0, rfl, .inl rfl, by simp, by simp [e0, f0], by decide, hr, by decide, by decide, hv, hd, by decide, Nat.le_trans (dn_small (n := 0) (by decide)) (by decide), by decide, .inl rfl, .inl rfl, fun _ => rfl, fun J _ => by rw [if_pos e0, f0, Nat.zero_mul, Nat.zero_mul]⟩
    · obtain ⟨K, hK⟩ : ∃ K : Nat, K = 1074 := ⟨_, rfl⟩
      have hV : V s e f = (1, decide (s = 1), (f : Int), -(K : Int)) := by unfold V; rw [if_neg (by omega), if_pos e0, if_neg f0, hK]; rfl
      rw [hV] at hb ⊢
      obtain ⟨r, hr, hv⟩ := value_down (c := K) hb (.inr rfl) (by omega) (by omega) rfl (by omega) (by omega)
      have hd := rdec_down (m := f) (c := K) (by omega) (by omega)
      have l1 := dn_small (n := f) (by omega)
      have l2 := dn_five f K
      have l3 := ln_small (n := f) (by omega)
      have l4 := two_pow_ln (c := K) (by omega)
      refine ⟨_, _, _, r, f, 2 ^ K, f * 5 ^ K, K, rfl, .inr rfl, ⟨fun h => absurd h (by decide), fun h => absurd h f0⟩, ⟨fun h => h.2, fun h => ⟨e0, h⟩⟩, Nat.pow_pos (by decide), hr, by omega, by omega, hv, hd, by omega, by omega, ?_, .inr rfl, .inr rfl, fun h => by omega, fun J hJ => by rw [if_pos e0, show J = K by omega]⟩
      rw [ten, Nat.mul_assoc]
  · have hV : V s e f = (1, decide (s = 1), ((f + 4503599627370496 : Nat) : Int), (e : Int) - 1075) := by unfold V; rw [if_neg (by omega), if_neg e0]
    rw [hV] at hb ⊢
    have hm : f + 4503599627370496 < 18446744073709551616 := by omega
    have hm0 : 0 < f + 4503599627370496 := by omega
    clear hV
    generalize f + 4503599627370496 = mu at *
    have l1 := dn_small hm
    have l3 := ln_small hm
    by_cases hx : 1075 ≤ e
    · obtain ⟨d, hd⟩ : ∃ d, e = 1075 + d := ⟨e - 1075, by omega⟩
      have h := rdec_up (m := mu) (c := d) hm (by omega)
      have l2 := dn_two mu d
      have l4 := ln_pow2 mu d
      obtain ⟨r, hr, hv⟩ := value_up (c := d) hb (.inr rfl) hm (by omega) (by omega)
      have hpos : 0 < mu * 2 ^ d := Nat.mul_pos hm0 (Nat.pow_pos (by decide))
      refine ⟨_, _, _, r, mu * 2 ^ d, 1, mu * 2 ^ d, 0, rfl, .inr rfl, ⟨fun h => absurd h (by decide), fun h => by omega⟩, ⟨fun h => absurd h.1 e0, fun h => by omega⟩, by decide, hr, by omega, by omega, hv, ?_, by decide, by omega, by rw [Nat.pow_zero], .inl rfl, .inl rfl, fun _ => rfl, fun J hJ => by rw [if_neg e0, Nat.mul_one, Nat.mul_assoc, ← Nat.pow_add, show d + J = e - 1 by omega]⟩
      rw [show (e : Int) - 1075 = (d : Int) by omega]; exact h
    · obtain ⟨d, hd⟩ : ∃ d, d + e = 1075 := ⟨1075 - e, by omega⟩
      have h := rdec_down (m := mu) (c := d) hm (by omega)
      have l2 := dn_five mu d
      have l4 := two_pow_ln (c := d) (by omega)
      obtain ⟨r, hr, hv⟩ := value_down (c := d) hb (.inr rfl) hm hm0 (by omega) (by omega) (by omega)
      refine ⟨_, _, _, r, mu, 2 ^ d, mu * 5 ^ d, d, rfl, .inr rfl, ⟨fun h => absurd h (by decide), fun h => by omega⟩, ⟨fun h => absurd h.1 e0, fun h => by omega⟩, Nat.pow_pos (by decide), hr, by omega, by omega, hv, ?_, by omega, by omega, ?_, .inr rfl, .inr rfl, fun h => by omega, fun J hJ => by rw [if_neg e0, Nat.mul_assoc, ← Nat.pow_add, show e - 1 + d = J by omega]⟩
      · rw [show (e : Int) - 1075 = -(d : Int) by omega]; exact h
      · rw [ten, Nat.mul_assoc]
theorem val64 {s e f : Nat} (hs : s ≤ 1) (he : e < 2047) (hf : f < 4503599627370496) : ∃ (cl m x : Int) (r : List Int × List Int) (n d p pk : Nat), V s e f = (cl, decide (s = 1), m, x) ∧ (cl = 0 ∨ cl = 1) ∧ (cl = 0 ↔ n = 0) ∧ (e = 0 ∧ f = 0 ↔ n = 0) ∧ 0 < d ∧ RQ r n d 100 ∧ ln n ≤ 100 ∧ ln d ≤ 100 ∧
    Ev (ratio_Value.f (V s e f)) (r, true) ∧ Ev (numeraryref07_Decimals.f m x) (D p, (pk : Int)) ∧ pk ≤ 1074 ∧ dn p ≤ 4000 ∧ p * d = n * 10 ^ pk ∧ (pk = 0 ∨ d = 2 ^ pk) ∧ (d = 1 ∨ d = 2 ^ pk) ∧ (pk = 0 → d = 1) := by
  obtain ⟨cl, m, x, r, n, d, p, pk, h1, h2, h3, h4, h5, h6, h7, h8, h9, h10, h11, h12, h13, h14, h15, h16, _⟩ := val64N hs he hf
  exact ⟨cl, m, x, r, n, d, p, pk, h1, h2, h3, h4, h5, h6, h7, h8, h9, h10, h11, h12, h13, h14, h15, h16⟩
theorem value_no {s f : Nat} : Ev (ratio_Value.f (V s 2047 f)) (([], []), false) ∧ (V s 2047 f).1 > 1 ∧ ((V s 2047 f).1 = 2 ∨ (V s 2047 f).1 = 3) := by
  unfold V
  rw [if_pos rfl]
  by_cases c : f = 0
  · rw [if_pos c]; exact ⟨ev_eq ratio_Value.f_eq (ev_pos (by simp) (ev_pos (by simp) (ev_now rfl))), by simp, .inl rfl⟩
  · rw [if_neg c]; exact ⟨ev_eq ratio_Value.f_eq (ev_pos (by simp) (ev_pos (by simp) (ev_now rfl))), by simp, .inr rfl⟩
/-! ### decimals that are cut off -/
theorem dg_drop {B : Nat} (hB : 2 ≤ B) (n m : Nat) : (dg B n).drop m = dg B (n / B ^ m) := by
  induction m generalizing n with
  | zero => simp
  | succ m ih =>
    rcases Nat.eq_zero_or_pos n with rfl | hn
    · simp [dg_zero]
    · rw [dg_pos hB hn, List.drop_succ_cons, ih, Nat.div_div_eq_div_mul, Nat.pow_succ, Nat.mul_comm]
theorem D_drop (n m : Nat) : (D n).drop m = D (n / 10 ^ m) := by
  unfold D; rw [nl_drop, dg_drop (by decide)]
theorem gd_dg {B : Nat} (hB : 2 ≤ B) (n i : Nat) : gd (dg B n) i = n / B ^ i % B := by
  have h : gd (dg B n) i = gd ((dg B n).drop i) 0 := by rw [gd_drop, Nat.add_zero]
  rw [h, dg_drop hB]
  rcases Nat.eq_zero_or_pos (n / B ^ i) with h0 | h0
  · rw [h0, Nat.zero_mod]; rfl
  · rw [dg_pos hB h0]; rfl
/-- Rounded off by so many digits. -/
theorem near_pow {n m : Nat} (hm : 0 < m) : near n (10 ^ m) = n / 10 ^ m + (if 5 ≤ n / 10 ^ (m - 1) % 10 then 1 else 0) := by
  obtain ⟨k, rfl⟩ : ∃ k, m = k + 1 := ⟨m - 1, by omega⟩
  have h := near_half (x := n) (y := 10 ^ (k + 1)) (Nat.pow_pos (by decide))
  rw [← h, Nat.add_sub_cancel]
  have e : n / 10 ^ (k + 1) = n / 10 ^ k / 10 := by rw [Nat.pow_succ, Nat.div_div_eq_div_mul]
  have e2 : n % 10 ^ (k + 1) = n % 10 ^ k + 10 ^ k * (n / 10 ^ k % 10) := by rw [Nat.pow_succ, Nat.mod_mul]
  have hp : 0 < 10 ^ k := Nat.pow_pos (by decide)
  have hlt := Nat.mod_lt n hp
  congr 1
  rw [e2, Nat.pow_succ]
  generalize n / 10 ^ k % 10 = q at *
  generalize n % 10 ^ k = t at *
  generalize 10 ^ k = T at *
  by_cases c : 5 ≤ q
  · rw [if_pos c, if_pos]
    have : T * 5 ≤ T * q := Nat.mul_le_mul_left _ c
    omega
  · rw [if_neg c, if_neg]
    have : T * q ≤ T * 4 := Nat.mul_le_mul_left _ (by omega)
    omega
end Go.Proofs.YtlnbcpcnpofnoaaGreatDoor.F
