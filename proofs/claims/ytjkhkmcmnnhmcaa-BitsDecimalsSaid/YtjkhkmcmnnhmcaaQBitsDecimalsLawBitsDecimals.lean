/- Of every decimal number of up to 25 digits and every exponent (cut to -40 to 60) no neighbour's value is nearer than that of the bits that are told; one as near has other bits that aren't even. -/
import Derived.Test.YtjkhkmcmnnhmcaaQBitsDecimalsS23
import Derived.Test.YtjkhkmcmnnhmcaaQBitsDecimalsPBitsDecimals
import Derived.Test.YtjkhkmcmnnhmcaaRows
namespace Go.Proofs.Ytjkhkmcmnnhmcaa.bitsDecimals
open Go.ChangeShapes Go.WideShapes Go.ChangeAt Go.RowKit Go.Proofs.Ytjkhkmcmnnhmcaa.E
open Go.ChangeMaps (open_string shut_string)
set_option linter.unusedVariables false
theorem own : ownKnob Try.prog.godebug = none := by kernel_rfl
theorem laidOut : laidOutB Try.prog = true := by kernel_rfl
set_option maxRecDepth 100000 in
theorem lifted (os : Os) (started : os.Started) (H : Type) (enc : TypeId × Value → H) :
    ReturnsInHanded {} Try.checked os 8 .any (Rows.bitsDecimalsSpec.pre6 enc Try.prog Try.f8 Rows.bitsDecimalsRow.domain false) (Rows.bitsDecimalsSpec.post enc Try.prog Try.f8 false true false false) := by
  refine returnsInHanded_of_change_sized (C := Try.checked) own started (by kernel_rfl) Try.func8
    (ChangeSpec.witness6 (enc := enc) (C := Try.checked) false ⟨#[], #[.slice none 0 0, .int .i64 0], []⟩ 8 (by kernel_rfl) (by kernel_rfl) (by kernel_rfl) (by kernel_rfl)) ?_
  intro W base args ds gs before hval0 hW hcnd hsz0 _
  have hsz : (DataW.weightsEach Try.prog (Try.f8.params.toList ++ Rows.bitsDecimalsSpec.plain.varTypes Try.prog) (ds ++ gs)).all (· ≤ reachBytes) = true := hsz0
  have hval : ∀ (j : Nat) t v, Try.f8.params[j]? = some t → args[j]? = some v → Value.okWide Try.prog W .any base t v := hval0
  have hW' := hW
  obtain ⟨p, q, hA0, hV, rfl, hfz, hnd⟩ := hW
  have hA : DataW.TrodAll enc Try.prog W 0 (fun _ => true) true Try.f8.params.toList args.toList ds p := hA0
  rw [Try.params8] at hA hval hsz
  obtain ⟨v0, vs0, d0, ds0, p0, q0, hargs, rfl, rfl, h0, r0⟩ := trodAll_cons hA
  obtain ⟨v1, vs1, d1, ds1, p1, q1, rfl, rfl, rfl, h1, r1⟩ := trodAll_cons r0
  obtain ⟨rfl, rfl, rfl⟩ := trodAll_nil r1
  obtain rfl : args = #[v0, v1] := by cases args; simp_all
  obtain ⟨rfl, rfl⟩ := trodVars_none hV
  obtain ⟨a0, len0, cap0, rfl⟩ := okWide_slice Try.underlying53 (hval 0 53 v0 rfl rfl)
  have k0 := h0
  have lt0 : ∀ x ∈ p0, x.block < W.heap.size := by obtain ⟨m, hm⟩ := k0; exact DataW.trod_lt m _ _ _ hm
  obtain ⟨z0, w0⟩ := isrow_of Try.underlying53 Try.underlying5 (by kernel_rfl) rfl h0
  have y0 : len0 * 1 ≤ 140737488351232 := sized_ints hsz (j := 0) (t := 53) rfl rfl Try.underlying53 Try.underlying5 (by kernel_rfl) (by kernel_rfl) h0
  obtain ⟨a1, rfl, rfl, rfl, w1⟩ := open_int Try.underlying3 (hval 1 3 v1 rfl rfl) h1
  clear hA0 hval0 hsz0 hsz
  have hp := Pure.BitsDecimals (z0.take len0) (isrow_wf w0) (by rw [isrow_len w0]; exact y0) a1 w1
  have ha : ArgsR W (fun _ => False) ((.pair (.lst (.int .u8)) (.int .i64))) (z0.take len0, a1) [.slice a0 len0 cap0, .int .i64 a1] := ⟨_, _, rfl, VR_isrow w0, ⟨_, rfl, in_int a1⟩⟩
  have hc := @law_calls Try.prog F.globs 8 ((.pair (.lst (.int .u8)) (.int .i64))) (fun x => F.numerarylaw07_BitsDecimals.f x.1 x.2) F.numerarylaw07_BitsDecimals.ok (z0.take len0, a1) W [.slice a0 len0 cap0, .int .i64 a1] (fun _ _ _ h => by cases h) ha hp.out
  refine hc.mono fun e W' ⟨he, bel⟩ => ?_
  subst he
  exact ⟨_, rfl, _, _, _, [], _, [], hW', trodAll_mk1 (shut_bool Try.underlying4 _), (trodAll_cons_mk (Below.trod laidOut (by kernel_rfl) (of_decide_eq_true (by kernel_rfl)) k0 bel lt0) (trodAll_cons_mk (shut_int Try.underlying3 w1) trodAll_mk0)), rfl, bel.frame _, fun h => by cases h⟩
theorem over : Rows.bitsDecimalsRow.holds Try.pinned (OpenSpec.ofChange Rows.bitsDecimalsSpec) :=
  OpenClaim.holds_of_wide 8 Try.f8 rfl rfl rfl rfl rfl rfl rfl ⟨rfl, rfl, rfl, rfl, rfl⟩ rfl rfl rfl rfl rfl (by kernel_rfl) Try.func8 (by kernel_rfl)
    (of_decide_eq_true (by kernel_rfl)) (by unfold Func.isWrapper; first | (rw [if_pos (by decide +kernel)]; kernel_rfl) | (rw [if_neg (by decide +kernel)]; exact ⟨rfl, rfl⟩))
    (fun os started H enc _ => lifted os started H enc)
theorem proved : Rows.BitsDecimalsSaid := over
#print axioms proved
end Go.Proofs.Ytjkhkmcmnnhmcaa.bitsDecimals
namespace Go.Proofs.Ytjkhkmcmnnhmcaa
/-- The row, under a short name, for the claim. -/
theorem bitsDecimals_holds : Rows.BitsDecimalsSaid := bitsDecimals.proved
end Go.Proofs.Ytjkhkmcmnnhmcaa
