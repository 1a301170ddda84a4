/- The general text of decimals is the document's. -/
import Derived.Test.YtbapeilokmphdaaGreatDoorQGeneralDecimalsZT1
import Derived.Test.YtbapeilokmphdaaGreatDoorQGeneralDecimalsZP2
import Derived.Test.YtbapeilokmphdaaGreatDoorRows
import Derived.Test.YtbapeilokmphdaaGreatDoorCards
import Derived.Test.YtbapeilokmphdaaGreatDoorTie
import Derived.Stop.LaidErr
namespace Go.Proofs.YtbapeilokmphdaaGreatDoor.generalDecimals
open Go.ChangeShapes Go.WideShapes Go.ChangeAt Go.RowKit Go.Proofs.YtbapeilokmphdaaGreatDoor.E
open Go.ChangeMaps (open_string shut_string)
set_option linter.unusedVariables false
theorem own : ownKnob Tryz.prog.godebug = none := by kernel_rfl
theorem laidOut : laidOutB Tryz.prog = true := by kernel_rfl
theorem table {W : World} (h : laidMetH Tryz.prog [("math/bits.deBruijn32tab", Rows.laid_math_bits_deBruijn32tab), ("math/bits.deBruijn64tab", Rows.laid_math_bits_deBruijn64tab), ("internal/strconv.uint64pow10", Rows.laid_internal_strconv_uint64pow10), ("unicode/utf8.acceptRanges", Rows.laid_unicode_utf8_acceptRanges), ("strconv.ErrRange", Rows.laid_strconv_ErrRange), ("strconv.ErrSyntax", Rows.laid_strconv_ErrSyntax), ("unicode/utf8.first", Rows.laid_unicode_utf8_first)] W) : LaidG F.globs W := by
  rw [MakeChecks.laidMetH_plain _ _ _ (by kernel_rfl)] at h
  have t0 := laid_table (P := Tryz.prog) (k := .u8) (l := F.tab0) (t := 161) (e := 5) (g := 0) h (by kernel_rfl) (by kernel_rfl) Tryz.underlying161 Tryz.underlying5 (by kernel_rfl) (by kernel_rfl)
  have t8 := laid_table (P := Tryz.prog) (k := .u8) (l := F.tab8) (t := 208) (e := 5) (g := 8) h.tail (by kernel_rfl) (by kernel_rfl) Tryz.underlying208 Tryz.underlying5 (by kernel_rfl) (by kernel_rfl)
  have t7 := laid_table (P := Tryz.prog) (k := .u64) (l := F.tab7) (t := 205) (e := 22) (g := 7) h.tail.tail (by kernel_rfl) (by kernel_rfl) Tryz.underlying205 Tryz.underlying22 (by kernel_rfl) (by kernel_rfl)
  intro g k l hh
  rcases glob_cons hh with ⟨rfl, e⟩ | hh
  · obtain ⟨rfl, rfl⟩ := Prod.mk.inj e
    exact t0
  rcases glob_cons hh with ⟨rfl, e⟩ | hh
  · obtain ⟨rfl, rfl⟩ := Prod.mk.inj e
    exact t8
  rcases glob_cons hh with ⟨rfl, e⟩ | hh
  · obtain ⟨rfl, rfl⟩ := Prod.mk.inj e
    exact t7
  cases hh
set_option maxRecDepth 100000 in
theorem lifted (os : Os) (started : os.Started) (H : Type) (enc : TypeId × Value → H) :
    ReturnsInHanded {} Tryz.checked os 13 .any (fun w args => (Rows.generalDecimalsSpec.pre enc Tryz.prog Tryz.f13 Rows.generalDecimalsRow.domain false w args ∧ laidMetH Tryz.prog [("math/bits.deBruijn32tab", Rows.laid_math_bits_deBruijn32tab), ("math/bits.deBruijn64tab", Rows.laid_math_bits_deBruijn64tab), ("internal/strconv.uint64pow10", Rows.laid_internal_strconv_uint64pow10), ("unicode/utf8.acceptRanges", Rows.laid_unicode_utf8_acceptRanges), ("strconv.ErrRange", Rows.laid_strconv_ErrRange), ("strconv.ErrSyntax", Rows.laid_strconv_ErrSyntax), ("unicode/utf8.first", Rows.laid_unicode_utf8_first)] w) ∧ sizedMet enc Tryz.prog Tryz.f13 (OpenSpec.ofChange Rows.generalDecimalsSpec) false w args) (Rows.generalDecimalsSpec.post enc Tryz.prog Tryz.f13 false true false false) := by
  refine returnsInHanded_of_change_and (C := Tryz.checked) (X := fun w _ => laidMetH Tryz.prog [("math/bits.deBruijn32tab", Rows.laid_math_bits_deBruijn32tab), ("math/bits.deBruijn64tab", Rows.laid_math_bits_deBruijn64tab), ("internal/strconv.uint64pow10", Rows.laid_internal_strconv_uint64pow10), ("unicode/utf8.acceptRanges", Rows.laid_unicode_utf8_acceptRanges), ("strconv.ErrRange", Rows.laid_strconv_ErrRange), ("strconv.ErrSyntax", Rows.laid_strconv_ErrSyntax), ("unicode/utf8.first", Rows.laid_unicode_utf8_first)] w) (fun _ _ _ hh h => h.of_heap hh) own started (by kernel_rfl) Tryz.func13
    (ChangeSpec.witness_shaped (enc := enc) (C := Tryz.checked) (os := os) (X := fun w _ => laidMetH Tryz.prog [("math/bits.deBruijn32tab", Rows.laid_math_bits_deBruijn32tab), ("math/bits.deBruijn64tab", Rows.laid_math_bits_deBruijn64tab), ("internal/strconv.uint64pow10", Rows.laid_internal_strconv_uint64pow10), ("unicode/utf8.acceptRanges", Rows.laid_unicode_utf8_acceptRanges), ("strconv.ErrRange", Rows.laid_strconv_ErrRange), ("strconv.ErrSyntax", Rows.laid_strconv_ErrSyntax), ("unicode/utf8.first", Rows.laid_unicode_utf8_first)] w) false (World.laidAll Tryz.prog os [("math/bits.deBruijn32tab", (Rows.laid_math_bits_deBruijn32tab : DataW Unit)), ("math/bits.deBruijn64tab", (Rows.laid_math_bits_deBruijn64tab : DataW Unit)), ("internal/strconv.uint64pow10", (Rows.laid_internal_strconv_uint64pow10 : DataW Unit)), ("unicode/utf8.acceptRanges", (Rows.laid_unicode_utf8_acceptRanges : DataW Unit)), ("strconv.ErrRange", (Rows.laid_strconv_ErrRange : DataW Unit)), ("strconv.ErrSyntax", (Rows.laid_strconv_ErrSyntax : DataW Unit)), ("unicode/utf8.first", (Rows.laid_unicode_utf8_first : DataW Unit))]) #[.slice none 0 0, .int .i64 0] 8 (World.laidAll_os _ _ _)
      (World.shaped_of_ZipB (by kernel_rfl) (by kernel_rfl)) (by kernel_rfl) (by kernel_rfl) (by kernel_rfl)
      (by rw [MakeChecks.laidMetH_plain _ _ _ (by kernel_rfl)]; exact laidMet_laidAll _ (by kernel_rfl) (by kernel_rfl))) ?_
  intro W base args ds gs before hval0 hW hcnd hsz0 hL _
  have hsz : (DataW.weightsEach Tryz.prog (Tryz.f13.params.toList ++ Rows.generalDecimalsSpec.plain.varTypes Tryz.prog) (ds ++ gs)).all (· ≤ reachBytes) = true := hsz0
  have hval : ∀ (j : Nat) t v, Tryz.f13.params[j]? = some t → args[j]? = some v → Value.okWide Tryz.prog W .any base t v := hval0
  have hW' := hW
  obtain ⟨p, q, hA0, hV, rfl, hfz, hnd⟩ := hW
  have hA : DataW.TrodAll enc Tryz.prog W 0 (fun _ => true) true Tryz.f13.params.toList args.toList ds p := hA0
  rw [Tryz.params13] at hA hval hsz
  obtain ⟨v0, vs0, d0, ds0, p0, q0, hargs, rfl, rfl, h0, r0⟩ := trodAll_cons hA
  obtain ⟨v1, vs1, d1, ds1, p1, q1, rfl, rfl, rfl, h1, r1⟩ := trodAll_cons r0
  obtain ⟨rfl, rfl, rfl⟩ := trodAll_nil r1
  obtain rfl : args = #[v0, v1] := by cases args; simp_all
  obtain ⟨rfl, rfl⟩ := trodVars_none hV
  obtain ⟨a0, len0, cap0, rfl⟩ := okWide_slice Tryz.underlying66 (hval 0 66 v0 rfl rfl)
  have k0 := h0
  have lt0 : ∀ x ∈ p0, x.block < W.heap.size := by obtain ⟨m, hm⟩ := k0; exact DataW.trod_lt m _ _ _ hm
  obtain ⟨z0, w0⟩ := isrow_of Tryz.underlying66 Tryz.underlying5 (by kernel_rfl) rfl h0
  have y0 : len0 * 1 ≤ 140737488351232 := sized_ints hsz (j := 0) (t := 66) rfl rfl Tryz.underlying66 Tryz.underlying5 (by kernel_rfl) (by kernel_rfl) h0
  obtain ⟨a1, rfl, rfl, rfl, w1⟩ := open_int Tryz.underlying3 (hval 1 3 v1 rfl rfl) h1
  clear hA0 hval0 hsz0 hsz
  have hp := Pure.GeneralDecimals (z0.take len0) (isrow_wf w0) (by rw [isrow_len w0]; exact y0) a1 w1
  have ha : ArgsR W (fun _ => False) ((.pair (.lst (.int .u8)) (.int .i64))) (z0.take len0, a1) [.slice a0 len0 cap0, .int .i64 a1] := ⟨_, _, rfl, VR_isrow w0, ⟨_, rfl, in_int a1⟩⟩
  have hc := @law_calls Tryz.prog F.globs 13 ((.pair (.lst (.int .u8)) (.int .i64))) (fun x => F.numerarylaw21_GeneralDecimals.f x.1 x.2) F.numerarylaw21_GeneralDecimals.ok (z0.take len0, a1) W [.slice a0 len0 cap0, .int .i64 a1] (table hL) ha hp.out
  refine hc.mono fun e W' ⟨he, bel⟩ => ?_
  subst he
  exact ⟨_, rfl, _, _, _, [], _, [], hW', trodAll_mk1 (shut_bool Tryz.underlying4 _), (trodAll_cons_mk (Below.trod laidOut (by kernel_rfl) (of_decide_eq_true (by kernel_rfl)) k0 bel lt0) (trodAll_cons_mk (shut_int Tryz.underlying3 w1) trodAll_mk0)), rfl, bel.frame _, fun h => by cases h⟩
theorem over : Rows.generalDecimalsRow.holds Tryz.pinned (OpenSpec.ofChange Rows.generalDecimalsSpec) :=
  OpenClaim.holds_of_wide 13 Tryz.f13 rfl rfl rfl rfl rfl rfl rfl ⟨rfl, rfl, rfl, rfl, rfl⟩ rfl rfl rfl rfl rfl (by kernel_rfl) Tryz.func13 (by kernel_rfl)
    (of_decide_eq_true (by kernel_rfl)) (by unfold Func.isWrapper; first | (rw [if_pos (by decide +kernel)]; kernel_rfl) | (rw [if_neg (by decide +kernel)]; exact ⟨rfl, rfl⟩))
    (fun os started H enc _ => lifted os started H enc)
theorem said : Rows.GeneralDecimalsSaid := over
theorem card : Rows.GeneralDecimalsCardSaid :=
  Claim7.holds_tied_plain_at .later [] [.data, .data, .data, .data, .sentinel, .sentinel, .pinned] true (true, "dd43ff39a1842963160e31ccb223fef3ddea8ea525190e8b9ccc6b58fe9aaa14") true
    said (fun _ h => by cases h) (by kernel_rfl) (fun _ h => by cases h) generalDecimals_row_tie rfl ⟨rfl, rfl⟩ (by kernel_rfl) rfl
    (fun f fn hf hfn => by
      obtain rfl : f = 13 := Option.some.inj ((show Tryz.prog.funcNamed "numerary/numerarylaw21.GeneralDecimals" = some 13 by kernel_rfl).symm.trans hf) |>.symm
      obtain rfl : fn = Tryz.f13 := (Option.some.inj (Tryz.func13.symm.trans hfn)).symm
      exact ⟨by kernel_rfl, fun j t ht => by
        rw [Tryz.params13] at ht
        have hm : t ∈ [66, 3] := by simpa using Array.mem_of_getElem? ht
        have hall : ([66, 3].all fun u => !Tryz.prog.wantsStandIn u) = true := by kernel_rfl
        exact (show Tryz.prog.wantsStandIn t = false by simpa using List.all_eq_true.1 hall t hm)⟩)
    (by kernel_rfl)
#print axioms card
end Go.Proofs.YtbapeilokmphdaaGreatDoor.generalDecimals
namespace Go.Proofs.YtbapeilokmphdaaGreatDoor
/-- The row, under a short name, for the claim. -/
theorem generalDecimals_holds : Rows.GeneralDecimalsCardSaid := generalDecimals.card
end Go.Proofs.YtbapeilokmphdaaGreatDoor
