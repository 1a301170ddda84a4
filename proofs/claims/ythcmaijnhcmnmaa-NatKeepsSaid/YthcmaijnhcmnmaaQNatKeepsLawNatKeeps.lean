/- No number is changed by what is done with it, or with what is told of it. -/
import Derived.Test.YthcmaijnhcmnmaaQNatKeepsZT1
import Derived.Test.YthcmaijnhcmnmaaQNatKeepsZP1
import Derived.Test.YthcmaijnhcmnmaaRows
namespace Go.Proofs.Ythcmaijnhcmnmaa.natKeeps
open Go.ChangeShapes Go.WideShapes Go.ChangeAt Go.RowKit Go.Proofs.Ythcmaijnhcmnmaa.E
open Go.ChangeMaps (open_string shut_string)
set_option linter.unusedVariables false
theorem own : ownKnob Try.prog.godebug = none := by kernel_rfl
theorem laidOut : laidOutB Try.prog = true := by kernel_rfl
set_option maxRecDepth 100000 in
theorem lifted (os : Os) (started : os.Started) (H : Type) (enc : TypeId × Value → H) :
    ReturnsInHanded {} Try.checked os 3 .any (Rows.natKeepsSpec.pre6 enc Try.prog Try.f3 Rows.natKeepsRow.domain false) (Rows.natKeepsSpec.post enc Try.prog Try.f3 false true false false) := by
  refine returnsInHanded_of_change_sized (C := Try.checked) own started (by kernel_rfl) Try.func3
    (ChangeSpec.witness6 (enc := enc) (C := Try.checked) false ⟨#[], #[.slice none 0 0, .slice none 0 0, .int .u32 0], []⟩ 8 (by kernel_rfl) (by kernel_rfl) (by kernel_rfl) (by kernel_rfl)) ?_
  intro W base args ds gs before hval0 hW hcnd hsz0 _
  have hsz : (DataW.weightsEach Try.prog (Try.f3.params.toList ++ Rows.natKeepsSpec.plain.varTypes Try.prog) (ds ++ gs)).all (· ≤ reachBytes) = true := hsz0
  have hval : ∀ (j : Nat) t v, Try.f3.params[j]? = some t → args[j]? = some v → Value.okWide Try.prog W .any base t v := hval0
  have hW' := hW
  obtain ⟨p, q, hA0, hV, rfl, hfz, hnd⟩ := hW
  have hA : DataW.TrodAll enc Try.prog W 0 (fun _ => true) true Try.f3.params.toList args.toList ds p := hA0
  rw [Try.params3] at hA hval hsz
  obtain ⟨v0, vs0, d0, ds0, p0, q0, hargs, rfl, rfl, h0, r0⟩ := trodAll_cons hA
  obtain ⟨v1, vs1, d1, ds1, p1, q1, rfl, rfl, rfl, h1, r1⟩ := trodAll_cons r0
  obtain ⟨v2, vs2, d2, ds2, p2, q2, rfl, rfl, rfl, h2, r2⟩ := trodAll_cons r1
  obtain ⟨rfl, rfl, rfl⟩ := trodAll_nil r2
  obtain rfl : args = #[v0, v1, v2] := by cases args; simp_all
  obtain ⟨rfl, rfl⟩ := trodVars_none hV
  obtain ⟨a0, len0, cap0, rfl⟩ := okWide_slice Try.underlying22 (hval 0 22 v0 rfl rfl)
  have k0 := h0
  have lt0 : ∀ x ∈ p0, x.block < W.heap.size := by obtain ⟨m, hm⟩ := k0; exact DataW.trod_lt m _ _ _ hm
  obtain ⟨z0, w0⟩ := isrow_of Try.underlying22 Try.underlying23 (by kernel_rfl) rfl h0
  have y0 : len0 * 4 ≤ 140737488351232 := sized_ints hsz (j := 0) (t := 22) rfl rfl Try.underlying22 Try.underlying23 (by kernel_rfl) (by kernel_rfl) h0
  obtain ⟨a1, len1, cap1, rfl⟩ := okWide_slice Try.underlying22 (hval 1 22 v1 rfl rfl)
  have k1 := h1
  have lt1 : ∀ x ∈ p1, x.block < W.heap.size := by obtain ⟨m, hm⟩ := k1; exact DataW.trod_lt m _ _ _ hm
  obtain ⟨z1, w1⟩ := isrow_of Try.underlying22 Try.underlying23 (by kernel_rfl) rfl h1
  have y1 : len1 * 4 ≤ 140737488351232 := sized_ints hsz (j := 1) (t := 22) rfl rfl Try.underlying22 Try.underlying23 (by kernel_rfl) (by kernel_rfl) h1
  obtain ⟨a2, rfl, rfl, rfl, w2⟩ := open_int Try.underlying23 (hval 2 23 v2 rfl rfl) h2
  clear hA0 hval0 hsz0 hsz
  have hp := Pure.NatKeeps (z0.take len0) (isrow_wf w0) (by rw [isrow_len w0]; exact y0) (z1.take len1) (isrow_wf w1) (by rw [isrow_len w1]; exact y1) a2 w2
  have ha : ArgsR W (fun _ => False) ((.pair (.lst (.int .u32)) (.pair (.lst (.int .u32)) (.int .u32)))) (z0.take len0, z1.take len1, a2) [.slice a0 len0 cap0, .slice a1 len1 cap1, .int .u32 a2] := ⟨_, _, rfl, VR_isrow w0, ⟨_, _, rfl, VR_isrow w1, ⟨_, rfl, in_int a2⟩⟩⟩
  have hc := @law_calls Try.prog F.globs 3 ((.pair (.lst (.int .u32)) (.pair (.lst (.int .u32)) (.int .u32)))) (fun x => F.numerarylaw02_NatKeeps.f x.1 x.2.1 x.2.2) F.numerarylaw02_NatKeeps.ok (z0.take len0, z1.take len1, a2) W [.slice a0 len0 cap0, .slice a1 len1 cap1, .int .u32 a2] (fun _ _ _ h => by cases h) ha hp.out
  refine hc.mono fun e W' ⟨he, bel⟩ => ?_
  subst he
  exact ⟨_, rfl, _, _, _, [], _, [], hW', trodAll_mk1 (shut_bool Try.underlying4 _), (trodAll_cons_mk (Below.trod laidOut (by kernel_rfl) (of_decide_eq_true (by kernel_rfl)) k0 bel lt0) (trodAll_cons_mk (Below.trod laidOut (by kernel_rfl) (of_decide_eq_true (by kernel_rfl)) k1 bel lt1) (trodAll_cons_mk (shut_int Try.underlying23 w2) trodAll_mk0))), rfl, bel.frame _, fun h => by cases h⟩
theorem over : Rows.natKeepsRow.holds Try.pinned (OpenSpec.ofChange Rows.natKeepsSpec) :=
  OpenClaim.holds_of_wide 3 Try.f3 rfl rfl rfl rfl rfl rfl rfl ⟨rfl, rfl, rfl, rfl, rfl⟩ rfl rfl rfl rfl rfl (by kernel_rfl) Try.func3 (by kernel_rfl)
    (of_decide_eq_true (by kernel_rfl)) (by unfold Func.isWrapper; first | (rw [if_pos (by decide +kernel)]; kernel_rfl) | (rw [if_neg (by decide +kernel)]; exact ⟨rfl, rfl⟩))
    (fun os started H enc _ => lifted os started H enc)
theorem proved : Rows.NatKeepsSaid := over
#print axioms proved
end Go.Proofs.Ythcmaijnhcmnmaa.natKeeps
namespace Go.Proofs.Ythcmaijnhcmnmaa
/-- The row, under a short name, for the claim. -/
theorem natKeeps_holds : Rows.NatKeepsSaid := natKeeps.proved
end Go.Proofs.Ythcmaijnhcmnmaa
