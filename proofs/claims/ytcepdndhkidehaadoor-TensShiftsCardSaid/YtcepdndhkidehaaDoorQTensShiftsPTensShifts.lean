/- Of every number of up to fifteen limbs: times a power of two, of a count of up to 149, and divided by it, rounded down, it is the document's; so is whether something is lost; by a count below 1 it stays as it is. -/
import Derived.Test.YtcepdndhkidehaaDoorQTensShiftsY05
import Derived.Test.YtcepdndhkidehaaDoorQTensShiftsN8
namespace Go.Proofs.YtcepdndhkidehaaDoor.Pure
open Go Go.Proofs.YtcepdndhkidehaaDoor.E Go.Proofs.YtcepdndhkidehaaDoor.F
set_option linter.unusedVariables false
theorem TensShifts (a0 : List Int) (h0 : ∀ n ∈ a0, (Lit.int .u32 n).wf = true) (s0 : a0.length * 4 ≤ 140737488351232) (a1 : Int) (h1 : (Lit.int .i64 a1).wf = true) : Ev (numerarylaw05_TensShifts.f a0 a1) true := by
  obtain ⟨s, rfl, hs⟩ := num_in h0
  obtain ⟨a, la, ma, ra⟩ := hs 15 (by omega)
  obtain ⟨h1a, h1b⟩ := wf_i64 h1
  obtain ⟨c, hc⟩ : ∃ c : Nat, (mxI 0 a1).tmod 150 = (c : Int) := ⟨((mxI 0 a1).tmod 150).toNat, by
    have : 0 ≤ mxI 0 a1 := by unfold mxI; split <;> omega
    rw [Int.tmod_eq_emod_of_nonneg this]; omega⟩
  have hc1 : c < 150 := by
    have : 0 ≤ mxI 0 a1 := by unfold mxI; split <;> omega
    rw [Int.tmod_eq_emod_of_nonneg this] at hc; omega
  have hneg : mnI a1 0 ≤ 0 := by unfold mnI; split <;> omega
  have hda := dn_le_ln a
  have lp : ∀ i, i ≤ 150 → dn (a * 2 ^ i) ≤ 250 ∧ dn (2 ^ i) ≤ 100 := by
    intro i hi
    have h2 := ln_pow2 a i
    have h3 := dn_le_ln (a * 2 ^ i)
    have h4 := ln_pow2 1 i
    have h5 := ln_small (n := 1) (by decide)
    rw [Nat.one_mul] at h4
    have h6 := dn_le_ln (2 ^ i)
    omega
  refine ev_eq numerarylaw05_TensShifts.f_eq ?_
  refine Ev.bind (few05 s) (Ev.bind ma (Ev.bind (few05 s) (Ev.bind ra (Ev.bind (rof_val (n := 1) (by decide)) ?_))))
  rw [hc]
  have fin : Ev (numerarylaw05_TensShifts.l0 a1 (L a) (c : Int) (D a) (D (a * 2 ^ c)) (D (2 ^ c)) (c : Int) (c : Int)) true := by
    obtain ⟨l1, l2⟩ := lp c (by omega)
    have hp : 0 < 2 ^ c := Nat.pow_pos (by decide)
    have lu := ln_pow2 a c
    have ld := ln_mono (Nat.div_le_self a (2 ^ c))
    have ddv := dn_mono (Nat.div_le_self a (2 ^ c))
    refine ev_loop numerarylaw05_TensShifts.l0_eq numerarylaw05_TensShifts.l0_step (ev_neg (by omega) ?_)
    refine Ev.bind (rdiv_D hp (by omega) (by omega)) (Ev.bind (down (by omega) (by omega)) (Ev.bind (down_neg hneg) (Ev.bind wakes05 (ev_pos rfl (Ev.bind (up (by omega) (by omega)) (Ev.bind (of05 (by omega)) ?_))))))
    refine Ev.bind (rcmp_D (by omega) (by omega)) (ev_pos (cmpI_self _) (Ev.bind (of05 (by omega)) (Ev.bind (rcmp_D (by omega) (by omega)) (ev_pos (cmpI_self _) (ev_pos ?_ ?_)))))
    · refine decide_eq_decide.mpr ?_
      rw [D_length]
      constructor
      · intro h
        rcases Nat.eq_zero_or_pos (dn (a % 2 ^ c)) with h2 | h2
        · exfalso
          have := (dg_len b10 (a % 2 ^ c) 0).mp (by unfold dn at h2; omega)
          rw [Nat.pow_zero] at this
          omega
        · omega
      · intro h h2
        rw [h2] at h
        exact absurd h (by decide)
    · refine Ev.bind (ncmp (by omega) (by omega)) (ev_pos (cmpI_self _) (ev_pos rfl (Ev.bind (up_neg (by omega) hneg) (Ev.bind (ncmp (by omega) (by omega)) (ev_now ?_)))))
      rw [cmpI_self]; rfl
  have loop : ∀ d i, i + d = c → Ev (numerarylaw05_TensShifts.l0 a1 (L a) (c : Int) (D a) (D (a * 2 ^ i)) (D (2 ^ i)) (c : Int) (i : Int)) true := by
    intro d
    induction d with
    | zero => intro i hi; have : i = c := by omega
              subst this; exact fin
    | succ d ih =>
      intro i hi
      obtain ⟨l1, l2⟩ := lp i (by omega)
      refine ev_loop numerarylaw05_TensShifts.l0_eq numerarylaw05_TensShifts.l0_step (ev_pos (by omega) ?_)
      refine Ev.bind (rtimes_D (m := 2) (by omega) (by decide)) (Ev.bind (rtimes_D (m := 2) (by omega) (by decide)) ?_)
      rw [succ_wrap (by omega), Nat.mul_assoc, ← Nat.pow_succ]
      exact ih (i + 1) (by omega)
  have := loop c 0 (by omega)
  rw [Nat.pow_zero, Nat.mul_one] at this
  exact this
end Go.Proofs.YtcepdndhkidehaaDoor.Pure
