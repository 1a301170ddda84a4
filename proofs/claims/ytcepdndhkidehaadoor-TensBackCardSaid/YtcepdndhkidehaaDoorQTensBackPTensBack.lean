/- Every number of up to fifteen limbs, shifted up and down again by a count of up to 1999, is as it was, with nothing lost; the noughts at its end are told: shifted down by so many it is odd, by one more something is lost; shifted up it has as many more noughts, and bits. -/
import Derived.Test.YtcepdndhkidehaaDoorQTensBackY05
namespace Go.Proofs.YtcepdndhkidehaaDoor.Pure
open Go Go.Proofs.YtcepdndhkidehaaDoor.E Go.Proofs.YtcepdndhkidehaaDoor.F
set_option linter.unusedVariables false
theorem odd_limb {m : Nat} (h : m % 2 = 1) : gd (dg 4294967296 m) 0 % 2 = 1 := by
  rw [dg_pos b32 (by omega), gd_cons_zero]; omega
theorem TensBack (a0 : List Int) (h0 : ∀ n ∈ a0, (Lit.int .u32 n).wf = true) (s0 : a0.length * 4 ≤ 140737488351232) (a1 : Int) (h1 : (Lit.int .u16 a1).wf = true) : Ev (numerarylaw05_TensBack.f a0 a1) true := by
  obtain ⟨s, rfl, hs⟩ := num_in h0
  obtain ⟨a, la, ma, _⟩ := hs 15 (by omega)
  obtain ⟨h1a, h1b⟩ := wf_u16 h1
  obtain ⟨c, hc⟩ : ∃ c : Nat, IntKind.i64.wrap (a1.tmod 2000) = (c : Int) := ⟨(a1.tmod 2000).toNat, by
    rw [Int.tmod_eq_emod_of_nonneg h1a, wrap_id] <;> omega⟩
  have hc1 : c < 2000 := by rw [Int.tmod_eq_emod_of_nonneg h1a, wrap_id (by omega) (by omega)] at hc; omega
  have hp : 0 < 2 ^ c := Nat.pow_pos (by decide)
  have lu := ln_pow2 a c
  have hu := up (n := a) (c := c) (by omega) (by omega)
  have hd := down (n := a * 2 ^ c) (c := c) (by omega) (by omega)
  rw [Nat.mul_div_cancel _ hp, Nat.mul_mod_left, show decide ((0 : Nat) ≠ 0) = false by decide] at hd
  refine ev_eq numerarylaw05_TensBack.f_eq ?_
  rw [hc]
  refine Ev.bind (few05 s) (Ev.bind ma (Ev.bind hu (Ev.bind hd (Ev.bind wakes05 (ev_neg (by simp) (ev_neg (by simp) (Ev.bind (ncmp (by omega) (by omega)) (ev_neg (by rw [cmpI_self]; decide) (Ev.bind (nbits (by omega)) ?_)))))))))
  rcases Nat.eq_zero_or_pos a with rfl | ha
  · exact ev_pos rfl (Ev.bind noughts0 (ev_now rfl))
  have hbp := bl_pos ha
  obtain ⟨k, hk⟩ := tz_ex a ha
  have hk480 : k < 480 := by
    have h1 := bl_le_ln a
    rcases Nat.lt_or_ge k (bl a) with h | h
    · omega
    · exfalso
      have h2 := (bl_le a k).mp h
      obtain ⟨m, hm⟩ := hk
      have h4 : 2 ^ k * 1 ≤ 2 ^ k * (2 * m + 1) := Nat.mul_le_mul_left _ (by omega)
      rw [← hm] at h4
      omega
  have hn := noughts (n := a) (by omega) hk
  have d1 := down (n := a) (c := k) (by omega) (by omega)
  rw [(hk.mod k).mpr (Nat.le_refl _), show decide ((0 : Nat) ≠ 0) = false by decide] at d1
  have d2 := down (n := a) (c := k + 1) (by omega) (by omega)
  rw [decide_eq_true (show a % 2 ^ (k + 1) ≠ 0 from fun h => by have := (hk.mod (k + 1)).mp h; omega)] at d2
  have hodd := hk.div
  have l1 := ln_mono (Nat.div_le_self a (2 ^ k))
  have hzp : 1 ≤ a / 2 ^ k := by
    generalize a / 2 ^ k = z at hodd ⊢
    omega
  have hlp : 0 < ln (a / 2 ^ k) := by
    rcases Nat.eq_zero_or_pos (ln (a / 2 ^ k)) with h | h
    · exfalso
      have := (dg_len b32 (a / 2 ^ k) 0).mp (by unfold ln at h; omega)
      rw [Nat.pow_zero] at this
      exact absurd this (Nat.not_lt.mpr hzp)
    · exact h
  have hlimb := odd_limb hodd
  have hgl := (Dg_dg b32 (a / 2 ^ k)).gd (by decide) 0
  have hbit : IntKind.u32.wrap ((BitVec.ofInt IntKind.u32.bits (rdI (L (a / 2 ^ k)) 0) &&& BitVec.ofInt IntKind.u32.bits 1).toNat) = 1 := by
    have e1 : rdI (L (a / 2 ^ k)) 0 = ((gd (dg 4294967296 (a / 2 ^ k)) 0 : Nat) : Int) := rd_nl _ 0
    have e2 := bits_and32 hgl (b := 1) (by decide)
    rw [e1]
    refine e2.trans ?_
    rw [Nat.and_one_is_mod, hlimb]; rfl
  have hbs : bl (a * 2 ^ c) = c + bl a := by
    have := bl_shift (t := a) (low := 0) (k := c) ha hp
    rw [Nat.zero_add, Nat.mul_comm] at this
    exact this
  have hb480 := bl_le_ln a
  refine ev_neg (by omega) (Ev.bind hn (Ev.bind d1 ?_))
  rw [succ_wrap (by omega)]
  refine Ev.bind d2 (Ev.bind (limbs_nl (by rw [L_length]; omega)) (ev_pos rfl (ev_pos rfl (ev_pos (by rw [L_length]; omega) (ev_pos (by omega) (ev_pos (by rw [L_length]; omega) (ev_pos hbit ?_)))))))
  refine Ev.bind hu (Ev.bind (noughts (n := a * 2 ^ c) (by omega) (hk.mul c)) ?_)
  rw [wrap_add (by omega)]
  refine ev_pos rfl (Ev.bind hu (Ev.bind (nbits (by omega)) (Ev.bind (nbits (by omega)) (ev_now ?_))))
  rw [wrap_add (by omega), hbs, Nat.add_comm]
  exact decide_eq_true rfl
end Go.Proofs.YtcepdndhkidehaaDoor.Pure
