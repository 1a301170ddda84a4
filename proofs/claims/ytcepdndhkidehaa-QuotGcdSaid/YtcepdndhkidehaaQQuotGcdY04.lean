/- Layer 4: what the laws' own helpers come to. -/
import Derived.Test.YtcepdndhkidehaaQQuotGcdN8
namespace Go.Proofs.Ytcepdndhkidehaa.F
open Go Go.Proofs.Ytcepdndhkidehaa.E
set_option linter.unusedVariables false
set_option linter.unusedSimpArgs false
theorem few04 (l : List Nat) {N : Int} (n : Nat) (h : N = (n : Int)) : Ev (numerarylaw04_few.f (nl l) N) (nl (l.take n)) := by
  obtain ⟨h1, h2, h3⟩ := few_of (l := l) n h
  exact ev_eq numerarylaw04_few.f_eq (ev_pos h2 (ev_pos h3 (ev_now h1)))
theorem of04 {n : Nat} (h : ln n ≤ 1073741824) : Ev (numerarylaw04_of.f (L n)) (D n) :=
  ev_eq numerarylaw04_of.f_eq <| Ev.bind (limbs_nl (by rw [L_length]; omega)) (Ev.bind (rmade_L h) (ev_now rfl))
theorem wakes04 : Ev (numerarylaw04_wakes.f ()) true := by
  have l10 := ln_small (n := 10) (by decide)
  have l5 := ln_small (n := 5) (by decide)
  have l2 := ln_small (n := 2) (by decide)
  have l12 := ln_small (n := 12) (by decide)
  have l18 := ln_small (n := 18) (by decide)
  have p20 : ln (10 ^ 20) ≤ 3 := (dg_len b32 _ _).mpr (by decide)
  have p10 : ln (10 ^ 10) ≤ 2 := ln_small (by decide)
  have hd := qdiv (a := 10 ^ 20) (b := 10 ^ 10) (by decide) (by omega) (by omega)
  rw [show 10 ^ 20 / 10 ^ 10 = 10000000000 by decide, show 10 ^ 20 % 10 ^ 10 = 0 by decide] at hd
  have hh := qhalf (a := 5) (b := 2) (by decide) (by omega) (by omega)
  rw [show (5 / 2 + if 2 ≤ 2 * (5 % 2) then 1 else 0) = 3 by decide] at hh
  have hg := qgcd (a := 12) (b := 18) (by omega) (by omega)
  rw [show Nat.gcd 12 18 = 6 by decide] at hg
  refine ev_eq numerarylaw04_wakes.f_eq ?_
  refine Ev.bind (of_val (n := 10) (by decide)) (Ev.bind (npow (n := 10) (k := 20) (by decide) (by omega)) (Ev.bind (of_val (n := 10) (by decide)) (Ev.bind (npow (n := 10) (k := 10) (by decide) (by omega)) (Ev.bind hd (Ev.bind (nsmall (n := 10000000000) (by decide)) ?_)))))
  refine Ev.bind (of_val (n := 5) (by decide)) (Ev.bind (of_val (n := 2) (by decide)) (Ev.bind hh (Ev.bind (nsmall (n := 3) (by decide)) ?_)))
  refine Ev.bind (of_val (n := 12) (by decide)) (Ev.bind (of_val (n := 18) (by decide)) (Ev.bind hg (Ev.bind (nsmall (n := 6) (by decide)) ?_)))
  exact ev_pos rfl (ev_pos rfl (ev_pos (by decide) (Ev.bind (nbits (n := 0) (by decide)) (ev_pos (by decide) (ev_pos rfl (ev_pos rfl (ev_pos (by decide) (ev_pos rfl (ev_now (by decide))))))))))
end Go.Proofs.Ytcepdndhkidehaa.F
