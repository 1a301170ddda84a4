/- What comes in: limbs. -/
import Derived.Test.YteidggfjcanbjaaQClockMoreN3
namespace Go.Proofs.Yteidggfjcanbjaa.F
open Go Go.Proofs.Yteidggfjcanbjaa.E
set_option linter.unusedVariables false
set_option linter.unusedSimpArgs false
theorem wf_u32 {x : Int} (h : (Lit.int .u32 x).wf = true) : 0 ≤ x ∧ x < 4294967296 := by
  simp [Lit.wf, IntKind.min, IntKind.max, IntKind.signed, IntKind.bits] at h
  omega
theorem wf_u64 {x : Int} (h : (Lit.int .u64 x).wf = true) : 0 ≤ x ∧ x < 18446744073709551616 := by
  simp [Lit.wf, IntKind.min, IntKind.max, IntKind.signed, IntKind.bits] at h
  omega
theorem wf_i64 {x : Int} (h : (Lit.int .i64 x).wf = true) : -9223372036854775808 ≤ x ∧ x < 9223372036854775808 := by
  simp [Lit.wf, IntKind.min, IntKind.max, IntKind.signed, IntKind.bits] at h
  omega
theorem wf_u8 {x : Int} (h : (Lit.int .u8 x).wf = true) : 0 ≤ x ∧ x < 256 := by
  simp [Lit.wf, IntKind.min, IntKind.max, IntKind.signed, IntKind.bits] at h
  omega
theorem limbs_in {l : List Int} (h : ∀ x ∈ l, (Lit.int .u32 x).wf = true) : ∃ t : List Nat, l = nl t ∧ Dg 4294967296 t := by
  refine ⟨l.map Int.toNat, toNl fun x hx => (wf_u32 (h x hx)).1, fun y hy => ?_⟩
  obtain ⟨x, hx, rfl⟩ := List.mem_map.mp hy
  have := wf_u32 (h x hx)
  omega
theorem few_of {l : List Nat} (n : Nat) {N : Int} (hN : N = (n : Int)) : (nl l).take ((mnI ((nl l).length : Int) N) : Int).toNat = nl (l.take n) ∧ 0 ≤ mnI ((nl l).length : Int) N ∧ mnI ((nl l).length : Int) N ≤ ((nl l).length : Int) := by
  subst hN
  rw [nl_length]
  unfold mnI
  refine ⟨?_, ?_, ?_⟩
  · split
    · rw [Int.toNat_natCast, nl_take]
    · rw [Int.toNat_natCast, nl_take, List.take_of_length_le (Nat.le_refl _), List.take_of_length_le (by omega)]
  · split <;> omega
  · split <;> omega
theorem cmpI_neg (m n : Nat) : IntKind.i64.wrap (0 - cmpI m n) = cmpI n m := by
  have h : cmpI n m = -(cmpI m n) := by
    unfold cmpI
    rcases Nat.lt_trichotomy m n with h | h | h
    · rw [if_neg (by omega), if_pos h, if_pos h]; rfl
    · subst h; rw [if_neg (Nat.lt_irrefl _), if_neg (Nat.lt_irrefl _)]; rfl
    · rw [if_pos h, if_neg (by omega), if_pos h]
  have h2 : -1 ≤ cmpI m n ∧ cmpI m n ≤ 1 := by unfold cmpI; split <;> (try split) <;> omega
  rw [h, wrap_id (by omega) (by omega)]; omega
theorem cmpI_self (m : Nat) : cmpI m m = 0 := by unfold cmpI; rw [if_neg (Nat.lt_irrefl _), if_neg (Nat.lt_irrefl _)]
theorem cmpI_ge {m n : Nat} : 0 ≤ cmpI m n ↔ n ≤ m := by unfold cmpI; split <;> (try split) <;> omega
theorem cmpI_eq0 {m n : Nat} : cmpI m n = 0 ↔ m = n := by unfold cmpI; split <;> (try split) <;> omega
theorem cmpI_lt {m n : Nat} : cmpI m n < 0 ↔ m < n := by unfold cmpI; split <;> (try split) <;> omega
theorem cmpI_gt {m n : Nat} : 0 < cmpI m n ↔ n < m := by unfold cmpI; split <;> (try split) <;> omega
theorem cmpI_pos {m n : Nat} : cmpI m n = 1 ↔ n < m := by unfold cmpI; split <;> (try split) <;> omega
theorem bl_add (a b : Nat) : bl (a + b) ≤ max (bl a) (bl b) + 1 := by
  refine (bl_le _ _).mpr ?_
  have h1 := Nat.lt_of_lt_of_le (bl_lt a) (Nat.pow_le_pow_right (n := 2) (by omega) (Nat.le_max_left (bl a) (bl b)))
  have h2 := Nat.lt_of_lt_of_le (bl_lt b) (Nat.pow_le_pow_right (n := 2) (by omega) (Nat.le_max_right (bl a) (bl b)))
  rw [Nat.pow_succ]; omega
theorem bl_mul (a b : Nat) : bl (a * b) ≤ bl a + bl b := by
  refine (bl_le _ _).mpr ?_
  rw [Nat.pow_add]
  exact Nat.mul_lt_mul'' (bl_lt a) (bl_lt b)
theorem bl_eq0 {n : Nat} : bl n = 0 ↔ n = 0 := by
  unfold bl; split <;> simp_all
theorem bl_le_ln (n : Nat) : bl n ≤ 32 * ln n := by
  refine (bl_le _ _).mpr ?_
  rw [Nat.pow_mul]
  exact dg_lt b32 n
end Go.Proofs.Yteidggfjcanbjaa.F
