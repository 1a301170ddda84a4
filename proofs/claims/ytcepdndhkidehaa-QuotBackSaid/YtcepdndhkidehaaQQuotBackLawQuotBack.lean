/- Of every three numbers of up to twenty limbs: what the first one times the second one, and the third one where it is below the second one, is divided by the second one, is the first one, and the third one is left; divided by nothing there is no answer. -/
import Derived.Test.YtcepdndhkidehaaQQuotBackS23
import Derived.Test.YtcepdndhkidehaaQQuotBackPQuotBack
import Derived.Test.YtcepdndhkidehaaRows
namespace Go.Proofs.Ytcepdndhkidehaa.quotBack
open Go.ChangeShapes Go.WideShapes Go.ChangeAt Go.RowKit Go.Proofs.Ytcepdndhkidehaa.E
open Go.ChangeMaps (open_string shut_string)
set_option linter.unusedVariables false
theorem own : ownKnob Try.prog.godebug = none := by kernel_rfl
theorem laidOut : laidOutB Try.prog = true := by kernel_rfl
set_option maxRecDepth 100000 in
theorem lifted (os : Os) (started : os.Started) (H : Type) (enc : TypeId × Value → H) :
    ReturnsInHanded {} Try.checked os 13 .any (Rows.quotBackSpec.pre6 enc Try.prog Try.f13 Rows.quotBackRow.domain false) (Rows.quotBackSpec.post enc Try.prog Try.f13 false true false false) := by
  refine returnsInHanded_of_change_sized (C := Try.checked) own started (by kernel_rfl) Try.func13
    (ChangeSpec.witness6 (enc := enc) (C := Try.checked) false ⟨#[], #[.slice none 0 0, .slice none 0 0, .slice none 0 0], []⟩ 8 (by kernel_rfl) (by kernel_rfl) (by kernel_rfl) (by kernel_rfl)) ?_
  intro W base args ds gs before hval0 hW hcnd hsz0 _
  have hsz : (DataW.weightsEach Try.prog (Try.f13.params.toList ++ Rows.quotBackSpec.plain.varTypes Try.prog) (ds ++ gs)).all (· ≤ reachBytes) = true := hsz0
  have hval : ∀ (j : Nat) t v, Try.f13.params[j]? = some t → args[j]? = some v → Value.okWide Try.prog W .any base t v := hval0
  have hW' := hW
  obtain ⟨p, q, hA0, hV, rfl, hfz, hnd⟩ := hW
  have hA : DataW.TrodAll enc Try.prog W 0 (fun _ => true) true Try.f13.params.toList args.toList ds p := hA0
  rw [Try.params13] at hA hval hsz
  obtain ⟨v0, vs0, d0, ds0, p0, q0, hargs, rfl, rfl, h0, r0⟩ := trodAll_cons hA
  obtain ⟨v1, vs1, d1, ds1, p1, q1, rfl, rfl, rfl, h1, r1⟩ := trodAll_cons r0
  obtain ⟨v2, vs2, d2, ds2, p2, q2, rfl, rfl, rfl, h2, r2⟩ := trodAll_cons r1
  obtain ⟨rfl, rfl, rfl⟩ := trodAll_nil r2
  obtain rfl : args = #[v0, v1, v2] := by cases args; simp_all
  obtain ⟨rfl, rfl⟩ := trodVars_none hV
  obtain ⟨a0, len0, cap0, rfl⟩ := okWide_slice Try.underlying22 (hval 0 22 v0 rfl rfl)
  have k0 := h0
  have lt0 : ∀ x ∈ p0, x.block < W.heap.size := by obtain ⟨m, hm⟩ := k0; exact DataW.trod_lt m _ _ _ hm
  obtain ⟨z0, w0⟩ := isrow_of Try.underlying22 Try.underlying23 (by kernel_rfl) rfl h0
  have y0 : len0 * 4 ≤ 140737488351232 := sized_ints hsz (j := 0) (t := 22) rfl rfl Try.underlying22 Try.underlying23 (by kernel_rfl) (by kernel_rfl) h0
  obtain ⟨a1, len1, cap1, rfl⟩ := okWide_slice Try.underlying22 (hval 1 22 v1 rfl rfl)
  have k1 := h1
  have lt1 : ∀ x ∈ p1, x.block < W.heap.size := by obtain ⟨m, hm⟩ := k1; exact DataW.trod_lt m _ _ _ hm
  obtain ⟨z1, w1⟩ := isrow_of Try.underlying22 Try.underlying23 (by kernel_rfl) rfl h1
  have y1 : len1 * 4 ≤ 140737488351232 := sized_ints hsz (j := 1) (t := 22) rfl rfl Try.underlying22 Try.underlying23 (by kernel_rfl) (by kernel_rfl) h1
  obtain ⟨a2, len2, cap2, rfl⟩ := okWide_slice Try.underlying22 (hval 2 22 v2 rfl rfl)
  have k2 := h2
  have lt2 : ∀ x ∈ p2, x.block < W.heap.size := by obtain ⟨m, hm⟩ := k2; exact DataW.trod_lt m _ _ _ hm
  obtain ⟨z2, w2⟩ := isrow_of Try.underlying22 Try.underlying23 (by kernel_rfl) rfl h2
  have y2 : len2 * 4 ≤ 140737488351232 := sized_ints hsz (j := 2) (t := 22) rfl rfl Try.underlying22 Try.underlying23 (by kernel_rfl) (by kernel_rfl) h2
  clear hA0 hval0 hsz0 hsz
  have hp := Pure.QuotBack (z0.take len0) (isrow_wf w0) (by rw [isrow_len w0]; exact y0) (z1.take len1) (isrow_wf w1) (by rw [isrow_len w1]; exact y1) (z2.take len2) (isrow_wf w2) (by rw [isrow_len w2]; exact y2)
  have ha : ArgsR W (fun _ => False) ((.pair (.lst (.int .u32)) (.pair (.lst (.int .u32)) (.lst (.int .u32))))) (z0.take len0, z1.take len1, z2.take len2) [.slice a0 len0 cap0, .slice a1 len1 cap1, .slice a2 len2 cap2] := ⟨_, _, rfl, VR_isrow w0, ⟨_, _, rfl, VR_isrow w1, ⟨_, rfl, VR_isrow w2⟩⟩⟩
  have hc := @law_calls Try.prog F.globs 13 ((.pair (.lst (.int .u32)) (.pair (.lst (.int .u32)) (.lst (.int .u32))))) (fun x => F.numerarylaw04_QuotBack.f x.1 x.2.1 x.2.2) F.numerarylaw04_QuotBack.ok (z0.take len0, z1.take len1, z2.take len2) W [.slice a0 len0 cap0, .slice a1 len1 cap1, .slice a2 len2 cap2] (fun _ _ _ h => by cases h) ha hp.out
  refine hc.mono fun e W' ⟨he, bel⟩ => ?_
  subst he
  exact ⟨_, rfl, _, _, _, [], _, [], hW', trodAll_mk1 (shut_bool Try.underlying4 _), (trodAll_cons_mk (Below.trod laidOut (by kernel_rfl) (of_decide_eq_true (by kernel_rfl)) k0 bel lt0) (trodAll_cons_mk (Below.trod laidOut (by kernel_rfl) (of_decide_eq_true (by kernel_rfl)) k1 bel lt1) (trodAll_cons_mk (Below.trod laidOut (by kernel_rfl) (of_decide_eq_true (by kernel_rfl)) k2 bel lt2) trodAll_mk0))), rfl, bel.frame _, fun h => by cases h⟩
theorem over : Rows.quotBackRow.holds Try.pinned (OpenSpec.ofChange Rows.quotBackSpec) :=
  OpenClaim.holds_of_wide 13 Try.f13 rfl rfl rfl rfl rfl rfl rfl ⟨rfl, rfl, rfl, rfl, rfl⟩ rfl rfl rfl rfl rfl (by kernel_rfl) Try.func13 (by kernel_rfl)
    (of_decide_eq_true (by kernel_rfl)) (by unfold Func.isWrapper; first | (rw [if_pos (by decide +kernel)]; kernel_rfl) | (rw [if_neg (by decide +kernel)]; exact ⟨rfl, rfl⟩))
    (fun os started H enc _ => lifted os started H enc)
theorem proved : Rows.QuotBackSaid := over
#print axioms proved
end Go.Proofs.Ytcepdndhkidehaa.quotBack
namespace Go.Proofs.Ytcepdndhkidehaa
/-- The row, under a short name, for the claim. -/
theorem quotBack_holds : Rows.QuotBackSaid := quotBack.proved
end Go.Proofs.Ytcepdndhkidehaa
