/- Layer 5: what the laws' own helpers come to. -/
import Derived.Test.YtcepdndhkidehaaDoorQTensBackT1
namespace Go.Proofs.YtcepdndhkidehaaDoor.F
open Go Go.Proofs.YtcepdndhkidehaaDoor.E
set_option linter.unusedVariables false
set_option linter.unusedSimpArgs false
theorem few05 (l : List Nat) : Ev (numerarylaw05_few.f (nl l)) (nl (l.take 15)) := by
  obtain ⟨h1, h2, h3⟩ := few_of (l := l) 15 (N := 15) rfl
  exact ev_eq numerarylaw05_few.f_eq (ev_pos h2 (ev_pos h3 (ev_now h1)))
theorem of05 {n : Nat} (h : ln n ≤ 1073741824) : Ev (numerarylaw05_of.f (L n)) (D n) :=
  ev_eq numerarylaw05_of.f_eq <| Ev.bind (limbs_nl (by rw [L_length]; omega)) (Ev.bind (rmade_L h) (ev_now rfl))
theorem wakes05 : Ev (numerarylaw05_wakes.f ()) true := by
  have l5 := ln_small (n := 5) (by decide)
  have l3 := ln_small (n := 3) (by decide)
  have l24 := ln_small (n := 24) (by decide)
  have d := down (n := 5) (c := 1) (by omega) (by decide)
  rw [show 5 / 2 ^ 1 = 2 by decide, show decide (5 % 2 ^ 1 ≠ 0) = true by decide] at d
  have u := up (n := 3) (c := 40) (by omega) (by decide)
  rw [show 3 * 2 ^ 40 = 3298534883328 by decide] at u
  refine ev_eq numerarylaw05_wakes.f_eq ?_
  refine Ev.bind (ten (c := 19) (by decide)) (Ev.bind (nsmall (n := 10 ^ 19) (by decide)) (Ev.bind (of_val (n := 5) (by decide)) (Ev.bind d (Ev.bind (nsmall (n := 2) (by decide)) (Ev.bind (of_val (n := 3) (by decide)) (Ev.bind u (Ev.bind (nsmall (n := 3298534883328) (by decide)) ?_)))))))
  refine ev_pos rfl (ev_pos (by decide) (ev_pos rfl (ev_pos rfl (ev_pos (by decide) (ev_pos rfl (ev_pos (by decide) ?_))))))
  exact Ev.bind (of_val (n := 24) (by decide)) (Ev.bind (noughts (n := 24) (k := 3) (by omega) ⟨1, by decide⟩) (ev_now rfl))
theorem wf_u16 {x : Int} (h : (Lit.int .u16 x).wf = true) : 0 ≤ x ∧ x < 65536 := by
  simp [Lit.wf, IntKind.min, IntKind.max, IntKind.signed, IntKind.bits] at h
  omega
theorem ln_pow10 (c : Nat) : ln (10 ^ c) ≤ c / 8 + 1 := by
  refine (dg_len b32 _ _).mpr ?_
  have h1 : 10 ^ c ≤ 16 ^ c := Nat.pow_le_pow_left (by decide) c
  have h2 : 16 ^ c = 2 ^ (4 * c) := by rw [show 16 = 2 ^ 4 by decide, ← Nat.pow_mul]
  have h3 : 2 ^ (4 * c) < 4294967296 ^ (c / 8 + 1) := by
    rw [show (4294967296 : Nat) = 2 ^ 32 by decide, ← Nat.pow_mul]
    exact Nat.pow_lt_pow_right (by decide) (by omega)
  omega
end Go.Proofs.YtcepdndhkidehaaDoor.F
