/- The value of all 64 bits is the document's; its bits are these again, but of Nothing, of which they are one and the same. -/
import Derived.Test.YtjkhkmcmnnhmcaaQBitsValuesY07
namespace Go.Proofs.Ytjkhkmcmnnhmcaa.Pure
open Go Go.Proofs.Ytjkhkmcmnnhmcaa.E Go.Proofs.Ytjkhkmcmnnhmcaa.F
set_option linter.unusedVariables false
theorem BitsValues (a0 : Int) (h0 : (Lit.int .u64 a0).wf = true) : Ev (numerarylaw07_BitsValues.f a0) true := by
  obtain ⟨h0a, h0b⟩ := wf_u64 h0
  obtain ⟨b, rfl⟩ : ∃ b : Nat, a0 = (b : Int) := ⟨a0.toNat, by omega⟩
  obtain ⟨s, e, f, hs, he, hf, rfl⟩ := W_split (b := b) (by omega)
  refine ev_eq numerarylaw07_BitsValues.f_eq (Ev.bind (bits_of hs he hf) (Ev.bind (ref_of hs he hf) (ev_neg (fun h => h rfl) (ev_neg (fun h => h rfl) (ev_neg (fun h => h rfl) (ev_neg (fun h => h rfl) ?_))))))
  by_cases hn : e ≠ 2047 ∨ f = 0
  · exact Ev.bind (value_bits hs he hf hn) (ev_neg (V_class hn) (Ev.bind wakes07 (ev_pos rfl (ev_pos rfl (ev_now (decide_eq_true rfl))))))
  · have hV : V s e f = (3, false, 0, 0) := by
      unfold V; rw [if_pos (by omega), if_neg (by omega)]
    rw [hV]
    exact Ev.bind nothing_bits (ev_pos rfl (Ev.bind wakes07 (ev_pos rfl (ev_pos rfl (ev_now (by decide))))))
end Go.Proofs.Ytjkhkmcmnnhmcaa.Pure
