/- Decimals one behind the other. -/
import Derived.Test.YtbapeilokmphdaaDoorQDigitsJoinZT1
import Derived.Test.YtbapeilokmphdaaDoorQDigitsJoinZP1
import Derived.Test.YtbapeilokmphdaaDoorRows
import Derived.Test.YtbapeilokmphdaaDoorCards
import Derived.Test.YtbapeilokmphdaaDoorTie
import Derived.Stop.LaidErr
namespace Go.Proofs.YtbapeilokmphdaaDoor.digitsJoin
open Go.ChangeShapes Go.WideShapes Go.ChangeAt Go.RowKit Go.Proofs.YtbapeilokmphdaaDoor.E
open Go.ChangeMaps (open_string shut_string)
set_option linter.unusedVariables false
theorem own : ownKnob Tryd.prog.godebug = none := by kernel_rfl
theorem laidOut : laidOutB Tryd.prog = true := by kernel_rfl
theorem table {W : World} (h : laidMetH Tryd.prog [("math/bits.deBruijn32tab", Rows.laid_math_bits_deBruijn32tab), ("math/bits.deBruijn64tab", Rows.laid_math_bits_deBruijn64tab), ("internal/strconv.uint64pow10", Rows.laid_internal_strconv_uint64pow10), ("unicode/utf8.acceptRanges", Rows.laid_unicode_utf8_acceptRanges), ("strconv.ErrRange", Rows.laid_strconv_ErrRange), ("strconv.ErrSyntax", Rows.laid_strconv_ErrSyntax), ("unicode/utf8.first", Rows.laid_unicode_utf8_first)] W) : LaidG F.globs W := by
  rw [MakeChecks.laidMetH_plain _ _ _ (by kernel_rfl)] at h
  have t7 := laid_table (P := Tryd.prog) (k := .u8) (l := F.tab7) (t := 167) (e := 5) (g := 7) h (by kernel_rfl) (by kernel_rfl) Tryd.underlying167 Tryd.underlying5 (by kernel_rfl) (by kernel_rfl)
  have t8 := laid_table (P := Tryd.prog) (k := .u8) (l := F.tab8) (t := 168) (e := 5) (g := 8) h.tail (by kernel_rfl) (by kernel_rfl) Tryd.underlying168 Tryd.underlying5 (by kernel_rfl) (by kernel_rfl)
  have t6 := laid_table (P := Tryd.prog) (k := .u64) (l := F.tab6) (t := 164) (e := 39) (g := 6) h.tail.tail (by kernel_rfl) (by kernel_rfl) Tryd.underlying164 Tryd.underlying39 (by kernel_rfl) (by kernel_rfl)
  intro g k l hh
  rcases glob_cons hh with ⟨rfl, e⟩ | hh
  · obtain ⟨rfl, rfl⟩ := Prod.mk.inj e
    exact t7
  rcases glob_cons hh with ⟨rfl, e⟩ | hh
  · obtain ⟨rfl, rfl⟩ := Prod.mk.inj e
    exact t8
  rcases glob_cons hh with ⟨rfl, e⟩ | hh
  · obtain ⟨rfl, rfl⟩ := Prod.mk.inj e
    exact t6
  cases hh
set_option maxRecDepth 100000 in
theorem lifted (os : Os) (started : os.Started) (H : Type) (enc : TypeId × Value → H) :
    ReturnsInHanded {} Tryd.checked os 6 .any (fun w args => (Rows.digitsJoinSpec.pre enc Tryd.prog Tryd.f6 Rows.digitsJoinRow.domain false w args ∧ laidMetH Tryd.prog [("math/bits.deBruijn32tab", Rows.laid_math_bits_deBruijn32tab), ("math/bits.deBruijn64tab", Rows.laid_math_bits_deBruijn64tab), ("internal/strconv.uint64pow10", Rows.laid_internal_strconv_uint64pow10), ("unicode/utf8.acceptRanges", Rows.laid_unicode_utf8_acceptRanges), ("strconv.ErrRange", Rows.laid_strconv_ErrRange), ("strconv.ErrSyntax", Rows.laid_strconv_ErrSyntax), ("unicode/utf8.first", Rows.laid_unicode_utf8_first)] w) ∧ sizedMet enc Tryd.prog Tryd.f6 (OpenSpec.ofChange Rows.digitsJoinSpec) false w args) (Rows.digitsJoinSpec.post enc Tryd.prog Tryd.f6 false true false false) := by
  refine returnsInHanded_of_change_and (C := Tryd.checked) (X := fun w _ => laidMetH Tryd.prog [("math/bits.deBruijn32tab", Rows.laid_math_bits_deBruijn32tab), ("math/bits.deBruijn64tab", Rows.laid_math_bits_deBruijn64tab), ("internal/strconv.uint64pow10", Rows.laid_internal_strconv_uint64pow10), ("unicode/utf8.acceptRanges", Rows.laid_unicode_utf8_acceptRanges), ("strconv.ErrRange", Rows.laid_strconv_ErrRange), ("strconv.ErrSyntax", Rows.laid_strconv_ErrSyntax), ("unicode/utf8.first", Rows.laid_unicode_utf8_first)] w) (fun _ _ _ hh h => h.of_heap hh) own started (by kernel_rfl) Tryd.func6
    (ChangeSpec.witness_shaped (enc := enc) (C := Tryd.checked) (os := os) (X := fun w _ => laidMetH Tryd.prog [("math/bits.deBruijn32tab", Rows.laid_math_bits_deBruijn32tab), ("math/bits.deBruijn64tab", Rows.laid_math_bits_deBruijn64tab), ("internal/strconv.uint64pow10", Rows.laid_internal_strconv_uint64pow10), ("unicode/utf8.acceptRanges", Rows.laid_unicode_utf8_acceptRanges), ("strconv.ErrRange", Rows.laid_strconv_ErrRange), ("strconv.ErrSyntax", Rows.laid_strconv_ErrSyntax), ("unicode/utf8.first", Rows.laid_unicode_utf8_first)] w) false (World.laidAll Tryd.prog os [("math/bits.deBruijn32tab", (Rows.laid_math_bits_deBruijn32tab : DataW Unit)), ("math/bits.deBruijn64tab", (Rows.laid_math_bits_deBruijn64tab : DataW Unit)), ("internal/strconv.uint64pow10", (Rows.laid_internal_strconv_uint64pow10 : DataW Unit)), ("unicode/utf8.acceptRanges", (Rows.laid_unicode_utf8_acceptRanges : DataW Unit)), ("strconv.ErrRange", (Rows.laid_strconv_ErrRange : DataW Unit)), ("strconv.ErrSyntax", (Rows.laid_strconv_ErrSyntax : DataW Unit)), ("unicode/utf8.first", (Rows.laid_unicode_utf8_first : DataW Unit))]) #[.slice none 0 0, .slice none 0 0] 8 (World.laidAll_os _ _ _)
      (World.shaped_of_ZipB (by kernel_rfl) (by kernel_rfl)) (by kernel_rfl) (by kernel_rfl) (by kernel_rfl)
      (by rw [MakeChecks.laidMetH_plain _ _ _ (by kernel_rfl)]; exact laidMet_laidAll _ (by kernel_rfl) (by kernel_rfl))) ?_
  intro W base args ds gs before hval0 hW hcnd hsz0 hL _
  have hsz : (DataW.weightsEach Tryd.prog (Tryd.f6.params.toList ++ Rows.digitsJoinSpec.plain.varTypes Tryd.prog) (ds ++ gs)).all (· ≤ reachBytes) = true := hsz0
  have hval : ∀ (j : Nat) t v, Tryd.f6.params[j]? = some t → args[j]? = some v → Value.okWide Tryd.prog W .any base t v := hval0
  have hW' := hW
  obtain ⟨p, q, hA0, hV, rfl, hfz, hnd⟩ := hW
  have hA : DataW.TrodAll enc Tryd.prog W 0 (fun _ => true) true Tryd.f6.params.toList args.toList ds p := hA0
  rw [Tryd.params6] at hA hval hsz
  obtain ⟨v0, vs0, d0, ds0, p0, q0, hargs, rfl, rfl, h0, r0⟩ := trodAll_cons hA
  obtain ⟨v1, vs1, d1, ds1, p1, q1, rfl, rfl, rfl, h1, r1⟩ := trodAll_cons r0
  obtain ⟨rfl, rfl, rfl⟩ := trodAll_nil r1
  obtain rfl : args = #[v0, v1] := by cases args; simp_all
  obtain ⟨rfl, rfl⟩ := trodVars_none hV
  obtain ⟨a0, len0, cap0, rfl⟩ := okWide_slice Tryd.underlying35 (hval 0 35 v0 rfl rfl)
  have k0 := h0
  have lt0 : ∀ x ∈ p0, x.block < W.heap.size := by obtain ⟨m, hm⟩ := k0; exact DataW.trod_lt m _ _ _ hm
  obtain ⟨z0, w0⟩ := isrow_of Tryd.underlying35 Tryd.underlying5 (by kernel_rfl) rfl h0
  have y0 : len0 * 1 ≤ 140737488351232 := sized_ints hsz (j := 0) (t := 35) rfl rfl Tryd.underlying35 Tryd.underlying5 (by kernel_rfl) (by kernel_rfl) h0
  obtain ⟨a1, len1, cap1, rfl⟩ := okWide_slice Tryd.underlying35 (hval 1 35 v1 rfl rfl)
  have k1 := h1
  have lt1 : ∀ x ∈ p1, x.block < W.heap.size := by obtain ⟨m, hm⟩ := k1; exact DataW.trod_lt m _ _ _ hm
  obtain ⟨z1, w1⟩ := isrow_of Tryd.underlying35 Tryd.underlying5 (by kernel_rfl) rfl h1
  have y1 : len1 * 1 ≤ 140737488351232 := sized_ints hsz (j := 1) (t := 35) rfl rfl Tryd.underlying35 Tryd.underlying5 (by kernel_rfl) (by kernel_rfl) h1
  clear hA0 hval0 hsz0 hsz
  have hp := Pure.DigitsJoin (z0.take len0) (isrow_wf w0) (by rw [isrow_len w0]; exact y0) (z1.take len1) (isrow_wf w1) (by rw [isrow_len w1]; exact y1)
  have ha : ArgsR W (fun _ => False) ((.pair (.lst (.int .u8)) (.lst (.int .u8)))) (z0.take len0, z1.take len1) [.slice a0 len0 cap0, .slice a1 len1 cap1] := ⟨_, _, rfl, VR_isrow w0, ⟨_, rfl, VR_isrow w1⟩⟩
  have hc := @law_calls Tryd.prog F.globs 6 ((.pair (.lst (.int .u8)) (.lst (.int .u8)))) (fun x => F.numerarylaw06_DigitsJoin.f x.1 x.2) F.numerarylaw06_DigitsJoin.ok (z0.take len0, z1.take len1) W [.slice a0 len0 cap0, .slice a1 len1 cap1] (table hL) ha hp.out
  refine hc.mono fun e W' ⟨he, bel⟩ => ?_
  subst he
  exact ⟨_, rfl, _, _, _, [], _, [], hW', trodAll_mk1 (shut_bool Tryd.underlying4 _), (trodAll_cons_mk (Below.trod laidOut (by kernel_rfl) (of_decide_eq_true (by kernel_rfl)) k0 bel lt0) (trodAll_cons_mk (Below.trod laidOut (by kernel_rfl) (of_decide_eq_true (by kernel_rfl)) k1 bel lt1) trodAll_mk0)), rfl, bel.frame _, fun h => by cases h⟩
theorem over : Rows.digitsJoinRow.holds Tryd.pinned (OpenSpec.ofChange Rows.digitsJoinSpec) :=
  OpenClaim.holds_of_wide 6 Tryd.f6 rfl rfl rfl rfl rfl rfl rfl ⟨rfl, rfl, rfl, rfl, rfl⟩ rfl rfl rfl rfl rfl (by kernel_rfl) Tryd.func6 (by kernel_rfl)
    (of_decide_eq_true (by kernel_rfl)) (by unfold Func.isWrapper; first | (rw [if_pos (by decide +kernel)]; kernel_rfl) | (rw [if_neg (by decide +kernel)]; exact ⟨rfl, rfl⟩))
    (fun os started H enc _ => lifted os started H enc)
theorem said : Rows.DigitsJoinSaid := over
theorem card : Rows.DigitsJoinCardSaid :=
  Claim7.holds_tied_plain_at .later [] [.data, .data, .data, .data, .sentinel, .sentinel, .pinned] true (true, "db68b707bda1869da1570a73ef8846e6889281a9ec0aef722b2d60789e994ffb") true
    said (fun _ h => by cases h) (by kernel_rfl) (fun _ h => by cases h) digitsJoin_row_tie rfl ⟨rfl, rfl⟩ (by kernel_rfl) rfl
    (fun f fn hf hfn => by
      obtain rfl : f = 6 := Option.some.inj ((show Tryd.prog.funcNamed "numerary/numerarylaw06.DigitsJoin" = some 6 by kernel_rfl).symm.trans hf) |>.symm
      obtain rfl : fn = Tryd.f6 := (Option.some.inj (Tryd.func6.symm.trans hfn)).symm
      exact ⟨by kernel_rfl, fun j t ht => by
        rw [Tryd.params6] at ht
        have hm : t ∈ [35, 35] := by simpa using Array.mem_of_getElem? ht
        have hall : ([35, 35].all fun u => !Tryd.prog.wantsStandIn u) = true := by kernel_rfl
        exact (show Tryd.prog.wantsStandIn t = false by simpa using List.all_eq_true.1 hall t hm)⟩)
    (by kernel_rfl)
#print axioms card
end Go.Proofs.YtbapeilokmphdaaDoor.digitsJoin
namespace Go.Proofs.YtbapeilokmphdaaDoor
/-- The row, under a short name, for the claim. -/
theorem digitsJoin_holds : Rows.DigitsJoinCardSaid := digitsJoin.card
end Go.Proofs.YtbapeilokmphdaaDoor
