/- Of every three numbers of up to twenty limbs: what the first one times the second one, and the third one where it is below the second one, is divided by the second one, is the first one, and the third one is left; divided by nothing there is no answer. -/
import Derived.Test.YtcepdndhkidehaaQQuotBackY04
namespace Go.Proofs.Ytcepdndhkidehaa.Pure
open Go Go.Proofs.Ytcepdndhkidehaa.E Go.Proofs.Ytcepdndhkidehaa.F
set_option linter.unusedVariables false
theorem QuotBack (a0 : List Int) (h0 : ∀ n ∈ a0, (Lit.int .u32 n).wf = true) (s0 : a0.length * 4 ≤ 140737488351232) (a1 : List Int) (h1 : ∀ n ∈ a1, (Lit.int .u32 n).wf = true) (s1 : a1.length * 4 ≤ 140737488351232) (a2 : List Int) (h2 : ∀ n ∈ a2, (Lit.int .u32 n).wf = true) (s2 : a2.length * 4 ≤ 140737488351232) :
    Ev (numerarylaw04_QuotBack.f a0 a1 a2) true := by
  obtain ⟨s, rfl, hs⟩ := num_in h0
  obtain ⟨t, rfl, ht⟩ := num_in h1
  obtain ⟨u, rfl, hu⟩ := num_in h2
  obtain ⟨a, la, ma, _⟩ := hs 20 (by omega)
  obtain ⟨b, lb, mb, _⟩ := ht 20 (by omega)
  obtain ⟨c, lc, mc, _⟩ := hu 20 (by omega)
  refine ev_eq numerarylaw04_QuotBack.f_eq ?_
  refine Ev.bind (few04 s 20 rfl) (Ev.bind ma (Ev.bind (few04 t 20 rfl) (Ev.bind mb (Ev.bind (few04 u 20 rfl) (Ev.bind mc ?_)))))
  refine Ev.bind (qdiv0 (by omega)) (ev_neg (by decide) (Ev.bind (nbits (by omega)) ?_))
  rcases Nat.eq_zero_or_pos b with rfl | hb
  · exact ev_pos (by decide) (Ev.bind wakes04 (ev_pos rfl (ev_now rfl)))
  · have hbp := bl_pos hb
    refine ev_neg (by omega) (Ev.bind (ncmp (by omega) (by omega)) ?_)
    have lm := ln_mul a b
    rcases Nat.lt_or_ge c b with hc | hc
    · have l1 := ln_add (a * b) c
      have hd := qdiv (a := a * b + c) hb (by omega) (by omega)
      rw [Nat.mul_comm a b, Nat.mul_add_div hb, Nat.div_eq_of_lt hc, Nat.add_zero, Nat.mul_add_mod, Nat.mod_eq_of_lt hc, Nat.mul_comm b a] at hd
      refine ev_neg (fun h => by have := cmpI_ge.mp h; omega) ?_
      refine Ev.bind (nmul (by omega) (by omega)) (Ev.bind (nadd (by omega) (by omega)) (Ev.bind hd (Ev.bind wakes04 ?_)))
      exact ev_pos rfl (ev_pos rfl (Ev.bind (ncmp (by omega) (by omega)) (ev_pos (cmpI_self a) (Ev.bind (ncmp (by omega) (by omega)) (ev_now (by rw [cmpI_self]; rfl))))))
    · have hd := qdiv (a := a * b) hb (by omega) (by omega)
      rw [Nat.mul_div_cancel _ hb, Nat.mul_mod_left] at hd
      refine ev_pos (cmpI_ge.mpr hc) ?_
      refine Ev.bind (nmul (by omega) (by omega)) (Ev.bind (nadd (n := 0) (by omega) (by decide)) (Ev.bind hd (Ev.bind wakes04 ?_)))
      exact ev_pos rfl (ev_pos rfl (Ev.bind (ncmp (by omega) (by omega)) (ev_pos (cmpI_self a) (Ev.bind (ncmp (m := 0) (n := 0) (by decide) (by decide)) (ev_now (by rw [cmpI_self]; rfl))))))
end Go.Proofs.Ytcepdndhkidehaa.Pure
