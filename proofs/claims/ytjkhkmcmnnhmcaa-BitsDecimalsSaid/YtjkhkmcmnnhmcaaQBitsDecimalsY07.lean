/- Layer 7: what the laws' own helpers come to. -/
import Derived.Test.YtjkhkmcmnnhmcaaQBitsDecimalsK1
namespace Go.Proofs.Ytjkhkmcmnnhmcaa.F
open Go Go.Proofs.Ytjkhkmcmnnhmcaa.E
set_option linter.unusedVariables false
set_option linter.unusedSimpArgs false
theorem bits1 : Ev (nat_Nat_Bits.f (L 1)) 1 := by
  have := nbits (n := 1) (by have := ln_small (n := 1) (by decide); omega)
  rw [bl_eq (n := 1) (k := 0) (by decide) (by decide)] at this
  exact this
theorem bits3 : Ev (nat_Nat_Bits.f (L 3)) 2 := by
  have := nbits (n := 3) (by have := ln_small (n := 3) (by decide); omega)
  rw [bl_eq (n := 3) (k := 1) (by decide) (by decide)] at this
  exact this
theorem round13 : Ev (bits_rounded.f (L 1) (L 3) (-54)) 6004799503160661 := by
  have l1 := ln_small (n := 1) (by decide)
  have l2 := ln_small (n := 2) (by decide)
  have l3 := ln_small (n := 3) (by decide)
  have l4 := ln_small (n := 18014398509481984) (by decide)
  have u := up (n := 1) (c := 54) (by omega) (by decide)
  rw [show 1 * 2 ^ 54 = 18014398509481984 by decide] at u
  have d := qdiv (a := 18014398509481984) (b := 3) (by decide) (by omega) (by omega)
  rw [show 18014398509481984 / 3 = 6004799503160661 by decide, show 18014398509481984 % 3 = 1 by decide] at d
  have a := nadd (m := 1) (n := 1) (by omega) (by omega)
  rw [show 1 + 1 = 2 by decide] at a
  refine ev_eq bits_rounded.f_eq (ev_neg (by decide) ?_)
  rw [show IntKind.i64.wrap (0 - (-54)) = ((54 : Nat) : Int) by decide]
  exact Ev.bind u (Ev.bind d (Ev.bind (nsmall (n := 6004799503160661) (by decide)) (Ev.bind a (Ev.bind (ncmp (m := 2) (n := 3) (by omega) (by omega)) (ev_neg (by decide) (ev_neg (by decide) (ev_now rfl)))))))
theorem near13 : Ev (bits_Nearest.f (L 1) (L 3)) (4599676419421066581, true) := by
  refine ev_eq bits_Nearest.f_eq (Ev.bind bits3 (ev_neg (by decide) (Ev.bind bits1 (Ev.bind bits3 (Ev.bind bits1 (ev_neg (by decide) ?_))))))
  rw [show mxI (IntKind.i64.wrap ((IntKind.i64.wrap ((IntKind.i64.wrap (1 - 2)) - 52)) - 1)) (-1074) = -54 by decide]
  exact Ev.bind round13 (ev_neg (by decide) (ev_neg (by decide) (ev_neg (by decide) (ev_neg (by decide) (ev_now (by decide +kernel))))))
theorem wakes07 : Ev (numerarylaw07_wakes.f ()) true := by
  have h1 := bits_of (s := 0) (e := 1023) (f := 0) (by decide) (by decide) (by decide)
  have h2 := value_bits (s := 0) (e := 1023) (f := 0) (by decide) (by decide) (by decide) (.inr rfl)
  have hV : V 0 1023 0 = (1, false, 4503599627370496, -52) := by decide
  have hW : W 0 1023 0 = 4607182418800017408 := by decide
  rw [hV, hW] at h1 h2
  exact ev_eq numerarylaw07_wakes.f_eq (Ev.bind h1 (Ev.bind h2 (Ev.bind (of_val (n := 1) (by decide)) (Ev.bind (of_val (n := 3) (by decide)) (Ev.bind near13 (Ev.bind (next_ok (b := 0) (by decide)) (ev_pos (by decide) (ev_pos rfl (ev_pos (by decide) (ev_pos rfl (ev_pos rfl (ev_pos rfl (ev_now (by decide))))))))))))))
theorem V_class {s e f : Nat} (h : e ≠ 2047 ∨ f = 0) : (V s e f).1 ≠ 3 := by
  unfold V
  by_cases c1 : e = 2047
  · rw [if_pos c1, if_pos (by omega)]; simp
  · rw [if_neg c1]
    by_cases c2 : e = 0
    · rw [if_pos c2]
      by_cases c3 : f = 0
      · rw [if_pos c3]; simp
      · rw [if_neg c3]; simp
    · rw [if_neg c2]; simp
end Go.Proofs.Ytjkhkmcmnnhmcaa.F
