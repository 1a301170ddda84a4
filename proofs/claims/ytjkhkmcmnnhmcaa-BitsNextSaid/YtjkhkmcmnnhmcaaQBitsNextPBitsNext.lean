/- Of all 64 bits below those of the infinite: the next greater ones are told; their value is greater, or infinite, and nothing is between; from there on there are none. -/
import Derived.Test.YtjkhkmcmnnhmcaaQBitsNextY07
namespace Go.Proofs.Ytjkhkmcmnnhmcaa.Pure
open Go Go.Proofs.Ytjkhkmcmnnhmcaa.E Go.Proofs.Ytjkhkmcmnnhmcaa.F
set_option linter.unusedVariables false
theorem BitsNext (a0 : Int) (h0 : (Lit.int .u64 a0).wf = true) : Ev (numerarylaw07_BitsNext.f a0) true := by
  obtain ⟨h0a, h0b⟩ := wf_u64 h0
  obtain ⟨b, rfl⟩ : ∃ b : Nat, a0 = (b : Int) := ⟨a0.toNat, by omega⟩
  by_cases hb : 9218868437227405312 ≤ b
  · exact ev_eq numerarylaw07_BitsNext.f_eq (Ev.bind (ev_eq bits_Next.f_eq (ev_pos (by omega) (ev_now rfl))) (ev_pos (by omega) (Ev.bind wakes07 (ev_pos rfl (ev_pos rfl (ev_now (by decide)))))))
  · obtain ⟨s, e, f, hs, he, hf, rfl⟩ := W_split (b := b) (by omega)
    have hs0 : s = 0 := by unfold W at hb; omega
    subst hs0
    have he7 : e < 2047 := by unfold W at hb; omega
    have hadd : IntKind.u64.wrap (((W 0 e f : Nat) : Int) + 1) = ((W 0 e f + 1 : Nat) : Int) := by rw [show ((W 0 e f : Nat) : Int) + 1 = ((W 0 e f + 1 : Nat) : Int) by omega, wrap_u64_nat (by omega)]
    refine ev_eq numerarylaw07_BitsNext.f_eq (Ev.bind (next_ok (by omega)) (ev_neg (by omega) (Ev.bind (bits_of hs he hf) ?_)))
    rw [hadd]
    by_cases hc : f + 1 < 4503599627370496
    · have hW : W 0 e f + 1 = W 0 e (f + 1) := by unfold W; omega
      rw [hW]
      refine Ev.bind (bits_of hs he hc) (Ev.bind wakes07 (ev_pos rfl (ev_pos rfl (ev_pos rfl ?_))))
      by_cases e0 : e = 0
      · have hV : V 0 e (f + 1) = (1, false, ((f + 1 : Nat) : Int), -1074) := by unfold V; rw [if_neg (by omega), if_pos e0, if_neg (by omega)]; rfl
        by_cases f0 : f = 0
        · have hV0 : V 0 e f = (0, false, 0, 0) := by unfold V; rw [if_neg (by omega), if_pos e0, if_pos f0]; rfl
          rw [hV, hV0, f0]
          exact ev_neg (by decide) (ev_pos rfl (ev_neg (by decide) (ev_pos (by decide) (ev_now rfl))))
        · have hV0 : V 0 e f = (1, false, (f : Int), -1074) := by unfold V; rw [if_neg (by omega), if_pos e0, if_neg f0]; rfl
          rw [hV, hV0]
          dsimp only
          exact ev_neg (by decide) (ev_pos rfl (ev_neg (by decide) (ev_pos (by rw [u64_id] <;> omega) (ev_now rfl))))
      · have hV : ∀ g, V 0 e g = (1, false, ((g + 4503599627370496 : Nat) : Int), (e : Int) - 1075) := by intro g; unfold V; rw [if_neg (by omega), if_neg e0]; rfl
        rw [hV, hV]
        dsimp only
        refine ev_neg (by decide) (ev_pos rfl (ev_neg (by omega) (ev_pos ?_ (ev_now rfl))))
        rw [u64_id] <;> omega
    · have hW : W 0 e f + 1 = W 0 (e + 1) 0 := by unfold W; omega
      rw [hW]
      refine Ev.bind (bits_of hs (by omega) (by decide)) (Ev.bind wakes07 (ev_pos rfl (ev_pos rfl (ev_pos rfl ?_))))
      by_cases e6 : e + 1 = 2047
      · have hV : V 0 (e + 1) 0 = (2, false, 0, 0) := by unfold V; rw [if_pos e6, if_pos rfl]; rfl
        rw [hV]
        exact ev_pos rfl (ev_now rfl)
      · have hV : V 0 (e + 1) 0 = (1, false, 4503599627370496, ((e + 1 : Nat) : Int) - 1075) := by unfold V; rw [if_neg e6, if_neg (by omega)]; rfl
        rw [hV]
        dsimp only
        refine ev_neg (by decide) (ev_pos rfl ?_)
        by_cases e0 : e = 0
        · have hV0 : V 0 e f = (1, false, (f : Int), -1074) := by unfold V; rw [if_neg (by omega), if_pos e0, if_neg (by omega)]; rfl
          rw [hV0]
          dsimp only
          exact ev_neg (by omega) (ev_pos (by rw [u64_id] <;> omega) (ev_now rfl))
        · have hV0 : V 0 e f = (1, false, ((f + 4503599627370496 : Nat) : Int), (e : Int) - 1075) := by unfold V; rw [if_neg (by omega), if_neg e0]; rfl
          rw [hV0]
          dsimp only
          exact ev_pos (by omega) (ev_now rfl)
end Go.Proofs.Ytjkhkmcmnnhmcaa.Pure
