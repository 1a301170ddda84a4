/- The time of every value of 64 bits (its sign doesn't count), by every count of places, by both systems, is the document's, or there is none. -/
import Derived.Test.YteidggfjcanbjaaDoorQClockTimesZT1
import Derived.Test.YteidggfjcanbjaaDoorQClockTimesZP2
import Derived.Test.YteidggfjcanbjaaDoorRows
import Derived.Test.YteidggfjcanbjaaDoorCards
import Derived.Test.YteidggfjcanbjaaDoorTie
namespace Go.Proofs.YteidggfjcanbjaaDoor.clockTimes
open Go.ChangeShapes Go.WideShapes Go.ChangeAt Go.RowKit Go.Proofs.YteidggfjcanbjaaDoor.E
open Go.ChangeMaps (open_string shut_string)
set_option linter.unusedVariables false
theorem own : ownKnob Tryd.prog.godebug = none := by kernel_rfl
theorem laidOut : laidOutB Tryd.prog = true := by kernel_rfl
theorem table {W : World} (h : laidMetH Tryd.prog [("math/bits.deBruijn32tab", Rows.laid_math_bits_deBruijn32tab)] W) : LaidG F.globs W := by
  rw [MakeChecks.laidMetH_plain _ _ _ (by kernel_rfl)] at h
  have ht := laid_table (P := Tryd.prog) (k := .u8) (l := F.tab0) (t := 90) (e := 5) (g := 0) h (by kernel_rfl) (by kernel_rfl) Tryd.underlying90 Tryd.underlying5 (by kernel_rfl) (by kernel_rfl)
  intro g k l hh
  match g, hh with
  | 0, hh =>
    obtain ⟨rfl, rfl⟩ := Prod.mk.inj (Option.some.inj hh)
    exact ht
  | g + 1, hh => cases hh
set_option maxRecDepth 100000 in
theorem lifted (os : Os) (started : os.Started) (H : Type) (enc : TypeId × Value → H) :
    ReturnsInHanded {} Tryd.checked os 3 .any (fun w args => (Rows.clockTimesSpec.pre enc Tryd.prog Tryd.f3 Rows.clockTimesRow.domain false w args ∧ laidMetH Tryd.prog [("math/bits.deBruijn32tab", Rows.laid_math_bits_deBruijn32tab)] w) ∧ sizedMet enc Tryd.prog Tryd.f3 (OpenSpec.ofChange Rows.clockTimesSpec) false w args) (Rows.clockTimesSpec.post enc Tryd.prog Tryd.f3 false true false false) := by
  refine returnsInHanded_of_change_and (C := Tryd.checked) (X := fun w _ => laidMetH Tryd.prog [("math/bits.deBruijn32tab", Rows.laid_math_bits_deBruijn32tab)] w) (fun _ _ _ hh h => h.of_heap hh) own started (by kernel_rfl) Tryd.func3
    (ChangeSpec.witness_shaped (enc := enc) (C := Tryd.checked) (os := os) (X := fun w _ => laidMetH Tryd.prog [("math/bits.deBruijn32tab", Rows.laid_math_bits_deBruijn32tab)] w) false (World.laidAll Tryd.prog os [("math/bits.deBruijn32tab", (Rows.laid_math_bits_deBruijn32tab : DataW Unit))]) #[.int .u64 0, .int .i64 0, .int .i64 0] 8 (World.laidAll_os _ _ _)
      (World.shaped_of_ZipB (by kernel_rfl) (by kernel_rfl)) (by kernel_rfl) (by kernel_rfl) (by kernel_rfl)
      (by rw [MakeChecks.laidMetH_plain _ _ _ (by kernel_rfl)]; exact laidMet_laidAll _ (by kernel_rfl) (by kernel_rfl))) ?_
  intro W base args ds gs before hval0 hW hcnd hsz0 hL _
  have hsz : (DataW.weightsEach Tryd.prog (Tryd.f3.params.toList ++ Rows.clockTimesSpec.plain.varTypes Tryd.prog) (ds ++ gs)).all (· ≤ reachBytes) = true := hsz0
  have hval : ∀ (j : Nat) t v, Tryd.f3.params[j]? = some t → args[j]? = some v → Value.okWide Tryd.prog W .any base t v := hval0
  have hW' := hW
  obtain ⟨p, q, hA0, hV, rfl, hfz, hnd⟩ := hW
  have hA : DataW.TrodAll enc Tryd.prog W 0 (fun _ => true) true Tryd.f3.params.toList args.toList ds p := hA0
  rw [Tryd.params3] at hA hval hsz
  obtain ⟨v0, vs0, d0, ds0, p0, q0, hargs, rfl, rfl, h0, r0⟩ := trodAll_cons hA
  obtain ⟨v1, vs1, d1, ds1, p1, q1, rfl, rfl, rfl, h1, r1⟩ := trodAll_cons r0
  obtain ⟨v2, vs2, d2, ds2, p2, q2, rfl, rfl, rfl, h2, r2⟩ := trodAll_cons r1
  obtain ⟨rfl, rfl, rfl⟩ := trodAll_nil r2
  obtain rfl : args = #[v0, v1, v2] := by cases args; simp_all
  obtain ⟨rfl, rfl⟩ := trodVars_none hV
  obtain ⟨a0, rfl, rfl, rfl, w0⟩ := open_int Tryd.underlying22 (hval 0 22 v0 rfl rfl) h0
  obtain ⟨a1, rfl, rfl, rfl, w1⟩ := open_int Tryd.underlying3 (hval 1 3 v1 rfl rfl) h1
  obtain ⟨a2, rfl, rfl, rfl, w2⟩ := open_int Tryd.underlying3 (hval 2 3 v2 rfl rfl) h2
  clear hA0 hval0 hsz0 hsz
  have hp := Pure.ClockTimes a0 w0 a1 w1 a2 w2
  have ha : ArgsR W (fun _ => False) ((.pair (.int .u64) (.pair (.int .i64) (.int .i64)))) (a0, a1, a2) [.int .u64 a0, .int .i64 a1, .int .i64 a2] := ⟨_, _, rfl, in_int a0, ⟨_, _, rfl, in_int a1, ⟨_, rfl, in_int a2⟩⟩⟩
  have hc := @law_calls Tryd.prog F.globs 3 ((.pair (.int .u64) (.pair (.int .i64) (.int .i64)))) (fun x => F.numerarylaw25_ClockTimes.f x.1 x.2.1 x.2.2) F.numerarylaw25_ClockTimes.ok (a0, a1, a2) W [.int .u64 a0, .int .i64 a1, .int .i64 a2] (table hL) ha hp.out
  refine hc.mono fun e W' ⟨he, bel⟩ => ?_
  subst he
  exact ⟨_, rfl, _, _, _, [], _, [], hW', trodAll_mk1 (shut_bool Tryd.underlying4 _), (trodAll_cons_mk (shut_int Tryd.underlying22 w0) (trodAll_cons_mk (shut_int Tryd.underlying3 w1) (trodAll_cons_mk (shut_int Tryd.underlying3 w2) trodAll_mk0))), rfl, bel.frame _, fun h => by cases h⟩
theorem over : Rows.clockTimesRow.holds Tryd.pinned (OpenSpec.ofChange Rows.clockTimesSpec) :=
  OpenClaim.holds_of_wide 3 Tryd.f3 rfl rfl rfl rfl rfl rfl rfl ⟨rfl, rfl, rfl, rfl, rfl⟩ rfl rfl rfl rfl rfl (by kernel_rfl) Tryd.func3 (by kernel_rfl)
    (of_decide_eq_true (by kernel_rfl)) (by unfold Func.isWrapper; first | (rw [if_pos (by decide +kernel)]; kernel_rfl) | (rw [if_neg (by decide +kernel)]; exact ⟨rfl, rfl⟩))
    (fun os started H enc _ => lifted os started H enc)
theorem said : Rows.ClockTimesSaid := over
theorem card : Rows.ClockTimesCardSaid :=
  Claim7.holds_tied_plain_at .later [] [.data] true (true, "586988532e10446c090a26eb8746527ca35223f547a03fe1e0c1f8ed30f25cec") false
    said (fun _ h => by cases h) (by kernel_rfl) (fun _ h => by cases h) clockTimes_row_tie rfl ⟨rfl, rfl⟩ (by kernel_rfl) rfl
    (fun f fn hf hfn => by
      obtain rfl : f = 3 := Option.some.inj ((show Tryd.prog.funcNamed "numerary/numerarylaw25.ClockTimes" = some 3 by kernel_rfl).symm.trans hf) |>.symm
      obtain rfl : fn = Tryd.f3 := (Option.some.inj (Tryd.func3.symm.trans hfn)).symm
      exact ⟨by kernel_rfl, fun j t ht => by
        rw [Tryd.params3] at ht
        have hm : t ∈ [22, 3, 3] := by simpa using Array.mem_of_getElem? ht
        have hall : ([22, 3, 3].all fun u => !Tryd.prog.wantsStandIn u) = true := by kernel_rfl
        exact (show Tryd.prog.wantsStandIn t = false by simpa using List.all_eq_true.1 hall t hm)⟩)
    (by kernel_rfl)
#print axioms card
end Go.Proofs.YteidggfjcanbjaaDoor.clockTimes
namespace Go.Proofs.YteidggfjcanbjaaDoor
/-- The row, under a short name, for the claim. -/
theorem clockTimes_holds : Rows.ClockTimesCardSaid := clockTimes.card
end Go.Proofs.YteidggfjcanbjaaDoor
