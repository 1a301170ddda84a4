/- Noughts are set ahead, as many as are wanting; those at the end are taken off, and no others. -/
import Derived.Test.YtbapeilokmphdaaDoorQDigitsPadsZT1
import Derived.Test.YtbapeilokmphdaaDoorQDigitsPadsZP1
import Derived.Test.YtbapeilokmphdaaDoorRows
import Derived.Test.YtbapeilokmphdaaDoorCards
import Derived.Test.YtbapeilokmphdaaDoorTie
import Derived.Stop.LaidErr
namespace Go.Proofs.YtbapeilokmphdaaDoor.digitsPads
open Go.ChangeShapes Go.WideShapes Go.ChangeAt Go.RowKit Go.Proofs.YtbapeilokmphdaaDoor.E
open Go.ChangeMaps (open_string shut_string)
set_option linter.unusedVariables false
theorem own : ownKnob Tryd.prog.godebug = none := by kernel_rfl
theorem laidOut : laidOutB Tryd.prog = true := by kernel_rfl
theorem table {W : World} (h : laidMetH Tryd.prog [("math/bits.deBruijn32tab", Rows.laid_math_bits_deBruijn32tab), ("math/bits.deBruijn64tab", Rows.laid_math_bits_deBruijn64tab), ("internal/strconv.uint64pow10", Rows.laid_internal_strconv_uint64pow10), ("unicode/utf8.acceptRanges", Rows.laid_unicode_utf8_acceptRanges), ("strconv.ErrRange", Rows.laid_strconv_ErrRange), ("strconv.ErrSyntax", Rows.laid_strconv_ErrSyntax), ("unicode/utf8.first", Rows.laid_unicode_utf8_first)] W) : LaidG F.globs W := by
  rw [MakeChecks.laidMetH_plain _ _ _ (by kernel_rfl)] at h
  have t7 := laid_table (P := Tryd.prog) (k := .u8) (l := F.tab7) (t := 167) (e := 5) (g := 7) h (by kernel_rfl) (by kernel_rfl) Tryd.underlying167 Tryd.underlying5 (by kernel_rfl) (by kernel_rfl)
  have t8 := laid_table (P := Tryd.prog) (k := .u8) (l := F.tab8) (t := 168) (e := 5) (g := 8) h.tail (by kernel_rfl) (by kernel_rfl) Tryd.underlying168 Tryd.underlying5 (by kernel_rfl) (by kernel_rfl)
  have t6 := laid_table (P := Tryd.prog) (k := .u64) (l := F.tab6) (t := 164) (e := 39) (g := 6) h.tail.tail (by kernel_rfl) (by kernel_rfl) Tryd.underlying164 Tryd.underlying39 (by kernel_rfl) (by kernel_rfl)
  intro g k l hh
  rcases glob_cons hh with ⟨rfl, e⟩ | hh
  · obtain ⟨rfl, rfl⟩ := Prod.mk.inj e
    exact t7
  rcases glob_cons hh with ⟨rfl, e⟩ | hh
  · obtain ⟨rfl, rfl⟩ := Prod.mk.inj e
    exact t8
  rcases glob_cons hh with ⟨rfl, e⟩ | hh
  · obtain ⟨rfl, rfl⟩ := Prod.mk.inj e
    exact t6
  cases hh
set_option maxRecDepth 100000 in
theorem lifted (os : Os) (started : os.Started) (H : Type) (enc : TypeId × Value → H) :
    ReturnsInHanded {} Tryd.checked os 5 .any (fun w args => (Rows.digitsPadsSpec.pre enc Tryd.prog Tryd.f5 Rows.digitsPadsRow.domain false w args ∧ laidMetH Tryd.prog [("math/bits.deBruijn32tab", Rows.laid_math_bits_deBruijn32tab), ("math/bits.deBruijn64tab", Rows.laid_math_bits_deBruijn64tab), ("internal/strconv.uint64pow10", Rows.laid_internal_strconv_uint64pow10), ("unicode/utf8.acceptRanges", Rows.laid_unicode_utf8_acceptRanges), ("strconv.ErrRange", Rows.laid_strconv_ErrRange), ("strconv.ErrSyntax", Rows.laid_strconv_ErrSyntax), ("unicode/utf8.first", Rows.laid_unicode_utf8_first)] w) ∧ sizedMet enc Tryd.prog Tryd.f5 (OpenSpec.ofChange Rows.digitsPadsSpec) false w args) (Rows.digitsPadsSpec.post enc Tryd.prog Tryd.f5 false true false false) := by
  refine returnsInHanded_of_change_and (C := Tryd.checked) (X := fun w _ => laidMetH Tryd.prog [("math/bits.deBruijn32tab", Rows.laid_math_bits_deBruijn32tab), ("math/bits.deBruijn64tab", Rows.laid_math_bits_deBruijn64tab), ("internal/strconv.uint64pow10", Rows.laid_internal_strconv_uint64pow10), ("unicode/utf8.acceptRanges", Rows.laid_unicode_utf8_acceptRanges), ("strconv.ErrRange", Rows.laid_strconv_ErrRange), ("strconv.ErrSyntax", Rows.laid_strconv_ErrSyntax), ("unicode/utf8.first", Rows.laid_unicode_utf8_first)] w) (fun _ _ _ hh h => h.of_heap hh) own started (by kernel_rfl) Tryd.func5
    (ChangeSpec.witness_shaped (enc := enc) (C := Tryd.checked) (os := os) (X := fun w _ => laidMetH Tryd.prog [("math/bits.deBruijn32tab", Rows.laid_math_bits_deBruijn32tab), ("math/bits.deBruijn64tab", Rows.laid_math_bits_deBruijn64tab), ("internal/strconv.uint64pow10", Rows.laid_internal_strconv_uint64pow10), ("unicode/utf8.acceptRanges", Rows.laid_unicode_utf8_acceptRanges), ("strconv.ErrRange", Rows.laid_strconv_ErrRange), ("strconv.ErrSyntax", Rows.laid_strconv_ErrSyntax), ("unicode/utf8.first", Rows.laid_unicode_utf8_first)] w) false (World.laidAll Tryd.prog os [("math/bits.deBruijn32tab", (Rows.laid_math_bits_deBruijn32tab : DataW Unit)), ("math/bits.deBruijn64tab", (Rows.laid_math_bits_deBruijn64tab : DataW Unit)), ("internal/strconv.uint64pow10", (Rows.laid_internal_strconv_uint64pow10 : DataW Unit)), ("unicode/utf8.acceptRanges", (Rows.laid_unicode_utf8_acceptRanges : DataW Unit)), ("strconv.ErrRange", (Rows.laid_strconv_ErrRange : DataW Unit)), ("strconv.ErrSyntax", (Rows.laid_strconv_ErrSyntax : DataW Unit)), ("unicode/utf8.first", (Rows.laid_unicode_utf8_first : DataW Unit))]) #[.string ByteArray.empty, .int .i64 0] 8 (World.laidAll_os _ _ _)
      (World.shaped_of_ZipB (by kernel_rfl) (by kernel_rfl)) (by kernel_rfl) (by kernel_rfl) (by kernel_rfl)
      (by rw [MakeChecks.laidMetH_plain _ _ _ (by kernel_rfl)]; exact laidMet_laidAll _ (by kernel_rfl) (by kernel_rfl))) ?_
  intro W base args ds gs before hval0 hW hcnd hsz0 hL _
  have hsz : (DataW.weightsEach Tryd.prog (Tryd.f5.params.toList ++ Rows.digitsPadsSpec.plain.varTypes Tryd.prog) (ds ++ gs)).all (· ≤ reachBytes) = true := hsz0
  have hval : ∀ (j : Nat) t v, Tryd.f5.params[j]? = some t → args[j]? = some v → Value.okWide Tryd.prog W .any base t v := hval0
  have hW' := hW
  obtain ⟨p, q, hA0, hV, rfl, hfz, hnd⟩ := hW
  have hA : DataW.TrodAll enc Tryd.prog W 0 (fun _ => true) true Tryd.f5.params.toList args.toList ds p := hA0
  rw [Tryd.params5] at hA hval hsz
  obtain ⟨v0, vs0, d0, ds0, p0, q0, hargs, rfl, rfl, h0, r0⟩ := trodAll_cons hA
  obtain ⟨v1, vs1, d1, ds1, p1, q1, rfl, rfl, rfl, h1, r1⟩ := trodAll_cons r0
  obtain ⟨rfl, rfl, rfl⟩ := trodAll_nil r1
  obtain rfl : args = #[v0, v1] := by cases args; simp_all
  obtain ⟨rfl, rfl⟩ := trodVars_none hV
  obtain ⟨a0, rfl, rfl, rfl, w0⟩ := open_string Tryd.underlying9 (hval 0 9 v0 rfl rfl) h0
  have y0 : a0.size ≤ 140737488351232 := by have h := sized_string hsz (j := 0) (t := 9) rfl rfl; have e : reachBytes = 140737488351232 := (by decide); rw [e] at h; simpa using h
  obtain ⟨a1, rfl, rfl, rfl, w1⟩ := open_int Tryd.underlying3 (hval 1 3 v1 rfl rfl) h1
  clear hA0 hval0 hsz0 hsz
  have hp := Pure.DigitsPads a0 y0 a1 w1
  have ha : ArgsR W (fun _ => False) ((.pair .str (.int .i64))) (a0, a1) [.string a0, .int .i64 a1] := ⟨_, _, rfl, in_str a0, ⟨_, rfl, in_int a1⟩⟩
  have hc := @law_calls Tryd.prog F.globs 5 ((.pair .str (.int .i64))) (fun x => F.numerarylaw06_DigitsPads.f x.1 x.2) F.numerarylaw06_DigitsPads.ok (a0, a1) W [.string a0, .int .i64 a1] (table hL) ha hp.out
  refine hc.mono fun e W' ⟨he, bel⟩ => ?_
  subst he
  exact ⟨_, rfl, _, _, _, [], _, [], hW', trodAll_mk1 (shut_bool Tryd.underlying4 _), (trodAll_cons_mk (shut_string Tryd.underlying9 w0) (trodAll_cons_mk (shut_int Tryd.underlying3 w1) trodAll_mk0)), rfl, bel.frame _, fun h => by cases h⟩
theorem over : Rows.digitsPadsRow.holds Tryd.pinned (OpenSpec.ofChange Rows.digitsPadsSpec) :=
  OpenClaim.holds_of_wide 5 Tryd.f5 rfl rfl rfl rfl rfl rfl rfl ⟨rfl, rfl, rfl, rfl, rfl⟩ rfl rfl rfl rfl rfl (by kernel_rfl) Tryd.func5 (by kernel_rfl)
    (of_decide_eq_true (by kernel_rfl)) (by unfold Func.isWrapper; first | (rw [if_pos (by decide +kernel)]; kernel_rfl) | (rw [if_neg (by decide +kernel)]; exact ⟨rfl, rfl⟩))
    (fun os started H enc _ => lifted os started H enc)
theorem said : Rows.DigitsPadsSaid := over
theorem card : Rows.DigitsPadsCardSaid :=
  Claim7.holds_tied_plain_at .later [] [.data, .data, .data, .data, .sentinel, .sentinel, .pinned] true (true, "db68b707bda1869da1570a73ef8846e6889281a9ec0aef722b2d60789e994ffb") true
    said (fun _ h => by cases h) (by kernel_rfl) (fun _ h => by cases h) digitsPads_row_tie rfl ⟨rfl, rfl⟩ (by kernel_rfl) rfl
    (fun f fn hf hfn => by
      obtain rfl : f = 5 := Option.some.inj ((show Tryd.prog.funcNamed "numerary/numerarylaw06.DigitsPads" = some 5 by kernel_rfl).symm.trans hf) |>.symm
      obtain rfl : fn = Tryd.f5 := (Option.some.inj (Tryd.func5.symm.trans hfn)).symm
      exact ⟨by kernel_rfl, fun j t ht => by
        rw [Tryd.params5] at ht
        have hm : t ∈ [9, 3] := by simpa using Array.mem_of_getElem? ht
        have hall : ([9, 3].all fun u => !Tryd.prog.wantsStandIn u) = true := by kernel_rfl
        exact (show Tryd.prog.wantsStandIn t = false by simpa using List.all_eq_true.1 hall t hm)⟩)
    (by kernel_rfl)
#print axioms card
end Go.Proofs.YtbapeilokmphdaaDoor.digitsPads
namespace Go.Proofs.YtbapeilokmphdaaDoor
/-- The row, under a short name, for the claim. -/
theorem digitsPads_holds : Rows.DigitsPadsCardSaid := digitsPads.card
end Go.Proofs.YtbapeilokmphdaaDoor
