/- Layer 5: what the laws' own helpers come to. -/
import Derived.Test.YteidggfjcanbjaaQClockMoreT1
namespace Go.Proofs.Yteidggfjcanbjaa.F
open Go Go.Proofs.Yteidggfjcanbjaa.E
set_option linter.unusedVariables false
set_option linter.unusedSimpArgs false
theorem wf_u16 {x : Int} (h : (Lit.int .u16 x).wf = true) : 0 ≤ x ∧ x < 65536 := by
  simp [Lit.wf, IntKind.min, IntKind.max, IntKind.signed, IntKind.bits] at h
  omega
theorem ln_pow10 (c : Nat) : ln (10 ^ c) ≤ c / 8 + 1 := by
  refine (dg_len b32 _ _).mpr ?_
  have h1 : 10 ^ c ≤ 16 ^ c := Nat.pow_le_pow_left (by decide) c
  have h2 : 16 ^ c = 2 ^ (4 * c) := by rw [show 16 = 2 ^ 4 by decide, ← Nat.pow_mul]
  have h3 : 2 ^ (4 * c) < 4294967296 ^ (c / 8 + 1) := by
    rw [show (4294967296 : Nat) = 2 ^ 32 by decide, ← Nat.pow_mul]
    exact Nat.pow_lt_pow_right (by decide) (by omega)
  omega
end Go.Proofs.Yteidggfjcanbjaa.F
