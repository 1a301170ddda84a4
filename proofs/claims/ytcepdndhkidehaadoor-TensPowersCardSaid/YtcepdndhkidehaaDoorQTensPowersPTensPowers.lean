/- The power of ten of every count of up to 699, taken of whatever count comes in, has a one as its first decimal and as many noughts behind it; of a count below 1 it is 1. -/
import Derived.Test.YtcepdndhkidehaaDoorQTensPowersY05
namespace Go.Proofs.YtcepdndhkidehaaDoor.Pure
open Go Go.Proofs.YtcepdndhkidehaaDoor.E Go.Proofs.YtcepdndhkidehaaDoor.F
set_option linter.unusedVariables false
theorem TensPowers (a0 : Int) (h0 : (Lit.int .i64 a0).wf = true) : Ev (numerarylaw05_TensPowers.f a0) true := by
  obtain ⟨h0a, h0b⟩ := wf_i64 h0
  obtain ⟨c, hc⟩ : ∃ c : Nat, (mxI 0 a0).tmod 700 = (c : Int) := ⟨((mxI 0 a0).tmod 700).toNat, by
    have : 0 ≤ mxI 0 a0 := by unfold mxI; split <;> omega
    rw [Int.tmod_eq_emod_of_nonneg this]; omega⟩
  have hc7 : c < 700 := by
    have : 0 ≤ mxI 0 a0 := by unfold mxI; split <;> omega
    rw [Int.tmod_eq_emod_of_nonneg this] at hc; omega
  have hneg : mnI a0 0 ≤ 0 := by unfold mnI; split <;> omega
  have hl := ln_pow10 c
  have hD : D (10 ^ c) = nl (List.replicate c 0 ++ [1]) := by unfold D; rw [dg_ten]
  have hlen : (nl (List.replicate c 0 ++ [1])).length = c + 1 := by rw [nl_length]; simp
  have htk : (nl (List.replicate c 0 ++ [1])).take c = nl (List.replicate c 0) := by
    rw [nl_take, List.take_append_of_le_length (by simp), List.take_of_length_le (by simp)]
  refine ev_eq numerarylaw05_TensPowers.f_eq ?_
  rw [hc]
  refine Ev.bind (ten (by omega)) (Ev.bind (of05 (by omega)) ?_)
  rw [hD, succ_wrap (by omega), hlen, rd_nl, Int.toNat_natCast, htk, nl_length, List.length_replicate]
  have hlast : gd (List.replicate c 0 ++ [1]) c = 1 := by
    have := gd_append_right (List.replicate c 0) [1] 0
    rw [List.length_replicate] at this
    exact this
  rw [hlast]
  refine ev_neg (by omega) (ev_pos (by omega) (ev_pos (by omega) (ev_neg (by decide) (ev_pos (by omega) (ev_pos (by omega) ?_)))))
  have loop : ∀ d i, i + d = c → Ev (numerarylaw05_TensPowers.l0 a0 (nl (List.replicate c 0)) (c : Int) (i : Int)) true := by
    intro d
    induction d with
    | zero =>
      intro i hi
      refine ev_loop numerarylaw05_TensPowers.l0_eq numerarylaw05_TensPowers.l0_step (ev_neg (by omega) ?_)
      exact Ev.bind (ten_neg hneg) (Ev.bind (nsmall (n := 1) (by decide)) (Ev.bind wakes05 (ev_pos rfl (ev_pos rfl (ev_now rfl)))))
    | succ d ih =>
      intro i hi
      refine ev_loop numerarylaw05_TensPowers.l0_eq numerarylaw05_TensPowers.l0_step (ev_pos (by omega) (ev_pos (by omega) (ev_pos (by rw [nl_length, List.length_replicate]; omega) ?_)))
      rw [rd_nl, gd_replicate]
      refine ev_neg (by decide) ?_
      rw [succ_wrap (by omega)]
      exact ih (i + 1) (by omega)
  exact loop c 0 (by omega)
end Go.Proofs.YtcepdndhkidehaaDoor.Pure
