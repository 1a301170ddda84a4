/- Small rules for quotients. -/
import Derived.Test.YteidggfjcanbjaaQClockMoreR1
namespace Go.Proofs.Yteidggfjcanbjaa.F
open Go Go.Proofs.Yteidggfjcanbjaa.E
set_option linter.unusedVariables false
set_option linter.unusedSimpArgs false
theorem ratio_eq {r s : List Int × List Int} {n d m e c k : Nat} (h1 : RQ r n d c) (h2 : RQ s m e k) (hd : 0 < d) (he : 0 < e) (hc : c ≤ 262144) (hk : k ≤ 262144) (h : n * e = m * d) : Ev (ratio_Cmp.f r s) 0 := by
  have := ratio_cmp h1 h2 hd he hc hk
  rw [h, cmpI_self] at this
  exact this
theorem dn_pos {b : Nat} (hb : 0 < b) : 0 < dn b := by
  rcases Nat.eq_zero_or_pos (dn b) with h | h
  · exfalso
    have := (dg_len b10 b 0).mp (by unfold dn at h; omega)
    rw [Nat.pow_zero] at this
    omega
  · exact h
end Go.Proofs.Yteidggfjcanbjaa.F
