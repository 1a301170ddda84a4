/- No fraction with a denominator that may be is nearer to a number than the best one; one as near has no lesser denominator, or the same one and no lesser numerator. -/
import Derived.Test.YtjkhkmcmnnhmcaaQApproxNearS27
import Derived.Test.YtjkhkmcmnnhmcaaQApproxNearS23
import Derived.Test.YtjkhkmcmnnhmcaaQApproxNearPApproxNear
import Derived.Test.YtjkhkmcmnnhmcaaRows
namespace Go.Proofs.Ytjkhkmcmnnhmcaa.approxNear
open Go.ChangeShapes Go.WideShapes Go.ChangeAt Go.RowKit Go.Proofs.Ytjkhkmcmnnhmcaa.E
open Go.ChangeMaps (open_string shut_string)
set_option linter.unusedVariables false
theorem own : ownKnob Try.prog.godebug = none := by kernel_rfl
theorem laidOut : laidOutB Try.prog = true := by kernel_rfl
set_option maxRecDepth 100000 in
theorem lifted (os : Os) (started : os.Started) (H : Type) (enc : TypeId × Value → H) :
    ReturnsInHanded {} Try.checked os 10 .any (Rows.approxNearSpec.pre6 enc Try.prog Try.f10 Rows.approxNearRow.domain false) (Rows.approxNearSpec.post enc Try.prog Try.f10 false true false false) := by
  refine returnsInHanded_of_change_sized (C := Try.checked) own started (by kernel_rfl) Try.func10
    (ChangeSpec.witness6 (enc := enc) (C := Try.checked) false ⟨#[], #[.agg #[.int .u64 0, .int .u64 0, .int .u32 0, .int .u32 0, .int .u32 0]], []⟩ 8 (by kernel_rfl) (by kernel_rfl) (by kernel_rfl) (by kernel_rfl)) ?_
  intro W base args ds gs before hval0 hW hcnd hsz0 _
  have hsz : (DataW.weightsEach Try.prog (Try.f10.params.toList ++ Rows.approxNearSpec.plain.varTypes Try.prog) (ds ++ gs)).all (· ≤ reachBytes) = true := hsz0
  have hval : ∀ (j : Nat) t v, Try.f10.params[j]? = some t → args[j]? = some v → Value.okWide Try.prog W .any base t v := hval0
  have hW' := hW
  obtain ⟨p, q, hA0, hV, rfl, hfz, hnd⟩ := hW
  have hA : DataW.TrodAll enc Try.prog W 0 (fun _ => true) true Try.f10.params.toList args.toList ds p := hA0
  rw [Try.params10] at hA hval hsz
  obtain ⟨v0, vs0, d0, ds0, p0, q0, hargs, rfl, rfl, h0, r0⟩ := trodAll_cons hA
  obtain ⟨rfl, rfl, rfl⟩ := trodAll_nil r0
  obtain rfl : args = #[v0] := by cases args; simp_all
  obtain ⟨rfl, rfl⟩ := trodVars_none hV
  obtain ⟨cs0, rfl, _⟩ := okWide_struct Try.underlying76 (hval 0 76 v0 rfl rfl)
  have k0 := h0
  have lt0 : ∀ x ∈ p0, x.block < W.heap.size := by obtain ⟨m, hm⟩ := k0; exact DataW.trod_lt m _ _ _ hm
  obtain ⟨n00, n01, n02, n03, n04, rfl, w00, w01, w02, w03, w04⟩ := open_i5 Try.underlying76 (by kernel_rfl) rfl rfl rfl rfl rfl (by kernel_rfl) (by kernel_rfl) (by kernel_rfl) (by kernel_rfl) (by kernel_rfl) Try.underlying22 Try.underlying22 Try.underlying48 Try.underlying48 Try.underlying48 h0
  clear hA0 hval0 hsz0 hsz
  have hp := Pure.ApproxNear n00 n01 n02 n03 n04 w00 w01 w02 w03 w04
  have ha : ArgsR W (fun _ => False) ((.agg (.pair (.int .u64) (.pair (.int .u64) (.pair (.int .u32) (.pair (.int .u32) (.int .u32))))))) ((n00, n01, n02, n03, n04)) [.agg #[.int .u64 n00, .int .u64 n01, .int .u32 n02, .int .u32 n03, .int .u32 n04]] := ⟨_, rfl, in_i5 n00 n01 n02 n03 n04⟩
  have hc := @law_calls Try.prog F.globs 10 ((.agg (.pair (.int .u64) (.pair (.int .u64) (.pair (.int .u32) (.pair (.int .u32) (.int .u32))))))) (fun x => F.numerarylaw22_ApproxNear.f x) F.numerarylaw22_ApproxNear.ok ((n00, n01, n02, n03, n04)) W [.agg #[.int .u64 n00, .int .u64 n01, .int .u32 n02, .int .u32 n03, .int .u32 n04]] (fun _ _ _ h => by cases h) ha hp.out
  refine hc.mono fun e W' ⟨he, bel⟩ => ?_
  subst he
  exact ⟨_, rfl, _, _, _, [], _, [], hW', trodAll_mk1 (shut_bool Try.underlying4 _), (trodAll_cons_mk (Below.trod laidOut (by kernel_rfl) (of_decide_eq_true (by kernel_rfl)) k0 bel lt0) trodAll_mk0), rfl, bel.frame _, fun h => by cases h⟩
theorem over : Rows.approxNearRow.holds Try.pinned (OpenSpec.ofChange Rows.approxNearSpec) :=
  OpenClaim.holds_of_wide 10 Try.f10 rfl rfl rfl rfl rfl rfl rfl ⟨rfl, rfl, rfl, rfl, rfl⟩ rfl rfl rfl rfl rfl (by kernel_rfl) Try.func10 (by kernel_rfl)
    (of_decide_eq_true (by kernel_rfl)) (by unfold Func.isWrapper; first | (rw [if_pos (by decide +kernel)]; kernel_rfl) | (rw [if_neg (by decide +kernel)]; exact ⟨rfl, rfl⟩))
    (fun os started H enc _ => lifted os started H enc)
theorem proved : Rows.ApproxNearSaid := over
#print axioms proved
end Go.Proofs.Ytjkhkmcmnnhmcaa.approxNear
namespace Go.Proofs.Ytjkhkmcmnnhmcaa
/-- The row, under a short name, for the claim. -/
theorem approxNear_holds : Rows.ApproxNearSaid := approxNear.proved
end Go.Proofs.Ytjkhkmcmnnhmcaa
