/- Natural numbers of the program and of the document: what each call comes to. -/
import Derived.Test.YteidggfjcanbjaaQClockMoreC
import Derived.Test.YteidggfjcanbjaaQClockMoreN0
namespace Go.Proofs.Yteidggfjcanbjaa.F
open Go Go.Proofs.Yteidggfjcanbjaa.E
set_option linter.unusedVariables false
set_option linter.unusedSimpArgs false

/-- A number's limbs, and its decimals. -/
def L (n : Nat) : List Int := nl (dg 4294967296 n)
def D (n : Nat) : List Int := nl (dg 10 n)
theorem b32 : 2 ≤ 4294967296 := by decide
theorem b10 : 2 ≤ 10 := by decide
def ln (n : Nat) : Nat := (dg 4294967296 n).length
def dn (n : Nat) : Nat := (dg 10 n).length
theorem L_length (n : Nat) : (L n).length = ln n := nl_length _
theorem D_length (n : Nat) : (D n).length = dn n := nl_length _

theorem pred_wrap {n : Nat} (h : n ≤ 4611686018427387904) : IntKind.i64.wrap (((n + 1 : Nat) : Int) - 1) = (n : Int) := by rw [wrap_id] <;> omega
theorem succ_wrap {n : Nat} (h : n ≤ 4611686018427387904) : IntKind.i64.wrap ((n : Int) + 1) = ((n + 1 : Nat) : Int) := by rw [wrap_id] <;> omega
theorem zero_pred : IntKind.i64.wrap (((0 : Nat) : Int) - 1) = -1 := by rw [wrap_id] <;> omega

theorem clone_nl {l : List Int} (h : l.length ≤ 1099511627776) : Ev (slices_Clone_uint32_uint32.f l) l :=
  ev_eq slices_Clone_uint32_uint32.f_eq (ev_nq (fun h => ev_now h.symm) (ev_pos (by simp; omega) (ev_now (List.nil_append _))))
theorem limbs_nl {l : List Int} (h : l.length ≤ 1099511627776) : Ev (nat_Nat_Limbs.f l) l := ev_eq nat_Nat_Limbs.f_eq (Ev.bind (clone_nl h) (ev_now rfl))

theorem made_loop {l : List Nat} (hl : l.length ≤ 1099511627776) : ∀ n, n ≤ l.length → (∀ i, n ≤ i → gd l i = 0) → Ev (nat_Made.l0 (nl l) [] (n : Int)) (nl (trim l)) := by
  intro n
  have fin : ∀ n, n ≤ l.length → (n = 0 ∨ gd l (n - 1) ≠ 0) → (∀ i, n ≤ i → gd l i = 0) → Ev (slices_Clone_uint32_uint32.f ((nl l).take ((n : Int)).toNat)) (nl (trim l)) := by
    intro n hn h1 h2
    rw [Int.toNat_natCast, nl_take, trim_take hn h1 h2]
    exact clone_nl (by rw [nl_length, List.length_take]; omega)
  induction n with
  | zero =>
    intro hn hz
    refine ev_loop nat_Made.l0_eq nat_Made.l0_step ?_
    refine ev_neg (by omega) (ev_pos (by omega) (ev_pos (by rw [nl_length]; omega) (Ev.bind (fin 0 hn (.inl rfl) hz) (ev_now rfl))))
  | succ n ih =>
    intro hn hz
    refine ev_loop nat_Made.l0_eq nat_Made.l0_step ?_
    rw [pred_wrap (by omega)]
    refine ev_pos (by omega) (ev_pos (by omega) (ev_pos (by rw [nl_length]; omega) ?_))
    by_cases h0 : gd l n = 0
    · refine ev_pos (by rw [rd_nl, h0]; rfl) (ih (by omega) fun i hi => ?_)
      rcases Nat.lt_or_eq_of_le hi with h | rfl
      · exact hz i h
      · exact h0
    · refine ev_neg (by rw [rd_nl]; omega) (ev_pos (by omega) (ev_pos (by rw [nl_length]; omega) (Ev.bind (fin (n + 1) hn (.inr (by simpa using h0)) hz) (ev_now rfl))))
theorem made_nl {l : List Nat} (hl : l.length ≤ 1099511627776) : Ev (nat_Made.f (nl l)) (nl (trim l)) := by
  have := made_loop hl l.length (Nat.le_refl _) (fun i hi => gd_ge hi)
  refine ev_eq nat_Made.f_eq ?_
  rw [nl_length]
  exact this
theorem made_val {l : List Nat} (hl : l.length ≤ 1099511627776) (h : Dg 4294967296 l) : Ev (nat_Made.f (nl l)) (L (val 4294967296 l)) := by
  unfold L; rw [dg_val b32 h]; exact made_nl hl

/-- of up to 64 bits. -/
theorem of_val {n : Nat} (hn : n < 18446744073709551616) : Ev (nat_Of.f (n : Int)) (L n) := by
  have h : Dg 4294967296 [n % 4294967296, n / 4294967296] := Dg.cons (Nat.mod_lt _ (by decide)) (Dg.cons (by omega) (Dg.nil _))
  have h1 := made_val (l := [n % 4294967296, n / 4294967296]) (by simp) h
  have h2 : val 4294967296 [n % 4294967296, n / 4294967296] = n := by simp only [val]; omega
  rw [h2] at h1
  refine ev_eq nat_Of.f_eq ?_
  have h3 : ([IntKind.u32.wrap (n : Int), IntKind.u32.wrap ((n : Int).fdiv (2 ^ 32))] : List Int) = nl [n % 4294967296, n / 4294967296] := by
    rw [nl_cons, nl_cons, nl_nil, u32_def, u32_def, Int.fdiv_eq_ediv_of_nonneg _ (by decide)]
    congr 2
    omega
  rw [h3]
  exact h1.bind (ev_now rfl)

/-! ### the document's -/
theorem nat_at_nl (l : List Nat) (i : Nat) : Ev (nat_Nat_at.f (nl l) (i : Int)) ((gd l i : Nat) : Int) := by
  refine ev_eq nat_Nat_at.f_eq ?_
  by_cases h : i < l.length
  · (repeat (first | refine ev_pos (by (try simp only [nl_length, L_length, D_length, rd_nl, getD_nl, List.length_append, List.length_cons, List.length_nil, List.length_set, List.length_replicate, List.length_take, List.length_drop, Nat.zero_add, ge_iff_le, gt_iff_lt]); omega) ?_ | refine ev_neg (by (try simp only [nl_length, L_length, D_length, rd_nl, getD_nl, List.length_append, List.length_cons, List.length_nil, List.length_set, List.length_replicate, List.length_take, List.length_drop, Nat.zero_add, ge_iff_le, gt_iff_lt]); omega) ?_))
    exact ev_now (rd_nl _ _)
  · (repeat (first | refine ev_pos (by (try simp only [nl_length, L_length, D_length, rd_nl, getD_nl, List.length_append, List.length_cons, List.length_nil, List.length_set, List.length_replicate, List.length_take, List.length_drop, Nat.zero_add, ge_iff_le, gt_iff_lt]); omega) ?_ | refine ev_neg (by (try simp only [nl_length, L_length, D_length, rd_nl, getD_nl, List.length_append, List.length_cons, List.length_nil, List.length_set, List.length_replicate, List.length_take, List.length_drop, Nat.zero_add, ge_iff_le, gt_iff_lt]); omega) ?_))
    exact ev_now (by rw [gd_ge (by omega)]; rfl)

/-! times a small number -/
/-! the sum -/
/-! which is greater -/
def cmpI (m n : Nat) : Int := if m < n then -1 else if n < m then 1 else 0
end Go.Proofs.Yteidggfjcanbjaa.F
