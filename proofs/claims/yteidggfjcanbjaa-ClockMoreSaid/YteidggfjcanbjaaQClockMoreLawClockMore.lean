/- A whole day more leaves the time as it is; with more places the units are told more finely, and, cut off, are near the coarser ones. -/
import Derived.Test.YteidggfjcanbjaaQClockMoreS27
import Derived.Test.YteidggfjcanbjaaQClockMoreS23
import Derived.Test.YteidggfjcanbjaaQClockMorePClockMore
import Derived.Test.YteidggfjcanbjaaRows
namespace Go.Proofs.Yteidggfjcanbjaa.clockMore
open Go.ChangeShapes Go.WideShapes Go.ChangeAt Go.RowKit Go.Proofs.Yteidggfjcanbjaa.E
open Go.ChangeMaps (open_string shut_string)
set_option linter.unusedVariables false
theorem own : ownKnob Try.prog.godebug = none := by kernel_rfl
theorem laidOut : laidOutB Try.prog = true := by kernel_rfl
set_option maxRecDepth 100000 in
theorem lifted (os : Os) (started : os.Started) (H : Type) (enc : TypeId × Value → H) :
    ReturnsInHanded {} Try.checked os 4 .any (Rows.clockMoreSpec.pre6 enc Try.prog Try.f4 Rows.clockMoreRow.domain false) (Rows.clockMoreSpec.post enc Try.prog Try.f4 false true false false) := by
  refine returnsInHanded_of_change_sized (C := Try.checked) own started (by kernel_rfl) Try.func4
    (ChangeSpec.witness6 (enc := enc) (C := Try.checked) false ⟨#[], #[.agg #[.int .u32 0, .int .u64 0, .int .u64 0, .int .u8 0]], []⟩ 8 (by kernel_rfl) (by kernel_rfl) (by kernel_rfl) (by kernel_rfl)) ?_
  intro W base args ds gs before hval0 hW hcnd hsz0 _
  have hsz : (DataW.weightsEach Try.prog (Try.f4.params.toList ++ Rows.clockMoreSpec.plain.varTypes Try.prog) (ds ++ gs)).all (· ≤ reachBytes) = true := hsz0
  have hval : ∀ (j : Nat) t v, Try.f4.params[j]? = some t → args[j]? = some v → Value.okWide Try.prog W .any base t v := hval0
  have hW' := hW
  obtain ⟨p, q, hA0, hV, rfl, hfz, hnd⟩ := hW
  have hA : DataW.TrodAll enc Try.prog W 0 (fun _ => true) true Try.f4.params.toList args.toList ds p := hA0
  rw [Try.params4] at hA hval hsz
  obtain ⟨v0, vs0, d0, ds0, p0, q0, hargs, rfl, rfl, h0, r0⟩ := trodAll_cons hA
  obtain ⟨rfl, rfl, rfl⟩ := trodAll_nil r0
  obtain rfl : args = #[v0] := by cases args; simp_all
  obtain ⟨rfl, rfl⟩ := trodVars_none hV
  obtain ⟨cs0, rfl, _⟩ := okWide_struct Try.underlying44 (hval 0 44 v0 rfl rfl)
  have k0 := h0
  have lt0 : ∀ x ∈ p0, x.block < W.heap.size := by obtain ⟨m, hm⟩ := k0; exact DataW.trod_lt m _ _ _ hm
  obtain ⟨n00, n01, n02, n03, rfl, w00, w01, w02, w03⟩ := open_i4 Try.underlying44 (by kernel_rfl) rfl rfl rfl rfl (by kernel_rfl) (by kernel_rfl) (by kernel_rfl) (by kernel_rfl) Try.underlying22 Try.underlying31 Try.underlying31 Try.underlying5 h0
  clear hA0 hval0 hsz0 hsz
  have hp := Pure.ClockMore n00 n01 n02 n03 w00 w01 w02 w03
  have ha : ArgsR W (fun _ => False) ((.agg (.pair (.int .u32) (.pair (.int .u64) (.pair (.int .u64) (.int .u8)))))) ((n00, n01, n02, n03)) [.agg #[.int .u32 n00, .int .u64 n01, .int .u64 n02, .int .u8 n03]] := ⟨_, rfl, in_i4 n00 n01 n02 n03⟩
  have hc := @law_calls Try.prog F.globs 4 ((.agg (.pair (.int .u32) (.pair (.int .u64) (.pair (.int .u64) (.int .u8)))))) (fun x => F.numerarylaw25_ClockMore.f x) F.numerarylaw25_ClockMore.ok ((n00, n01, n02, n03)) W [.agg #[.int .u32 n00, .int .u64 n01, .int .u64 n02, .int .u8 n03]] (fun _ _ _ h => by cases h) ha hp.out
  refine hc.mono fun e W' ⟨he, bel⟩ => ?_
  subst he
  exact ⟨_, rfl, _, _, _, [], _, [], hW', trodAll_mk1 (shut_bool Try.underlying4 _), (trodAll_cons_mk (Below.trod laidOut (by kernel_rfl) (of_decide_eq_true (by kernel_rfl)) k0 bel lt0) trodAll_mk0), rfl, bel.frame _, fun h => by cases h⟩
theorem over : Rows.clockMoreRow.holds Try.pinned (OpenSpec.ofChange Rows.clockMoreSpec) :=
  OpenClaim.holds_of_wide 4 Try.f4 rfl rfl rfl rfl rfl rfl rfl ⟨rfl, rfl, rfl, rfl, rfl⟩ rfl rfl rfl rfl rfl (by kernel_rfl) Try.func4 (by kernel_rfl)
    (of_decide_eq_true (by kernel_rfl)) (by unfold Func.isWrapper; first | (rw [if_pos (by decide +kernel)]; kernel_rfl) | (rw [if_neg (by decide +kernel)]; exact ⟨rfl, rfl⟩))
    (fun os started H enc _ => lifted os started H enc)
theorem proved : Rows.ClockMoreSaid := over
#print axioms proved
end Go.Proofs.Yteidggfjcanbjaa.clockMore
namespace Go.Proofs.Yteidggfjcanbjaa
/-- The row, under a short name, for the claim. -/
theorem clockMore_holds : Rows.ClockMoreSaid := clockMore.proved
end Go.Proofs.Yteidggfjcanbjaa
