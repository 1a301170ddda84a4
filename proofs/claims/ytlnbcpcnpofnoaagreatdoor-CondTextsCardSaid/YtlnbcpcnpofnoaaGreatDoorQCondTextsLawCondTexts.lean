/- A condition has a text just if it is told again of what it would be. -/
import Derived.Test.YtlnbcpcnpofnoaaGreatDoorQCondTextsZT1
import Derived.Test.YtlnbcpcnpofnoaaGreatDoorQCondTextsZP2
import Derived.Test.YtlnbcpcnpofnoaaGreatDoorRows
import Derived.Test.YtlnbcpcnpofnoaaGreatDoorCards
import Derived.Test.YtlnbcpcnpofnoaaGreatDoorTie
import Derived.Stop.LaidErr
namespace Go.Proofs.YtlnbcpcnpofnoaaGreatDoor.condTexts
open Go.ChangeShapes Go.WideShapes Go.ChangeAt Go.RowKit Go.Proofs.YtlnbcpcnpofnoaaGreatDoor.E
open Go.ChangeMaps (open_string shut_string)
set_option linter.unusedVariables false
theorem own : ownKnob Tryz.prog.godebug = none := by kernel_rfl
theorem laidOut : laidOutB Tryz.prog = true := by kernel_rfl
theorem table {W : World} (h : laidMetH Tryz.prog [("math/bits.deBruijn32tab", Rows.laid_math_bits_deBruijn32tab), ("math/bits.deBruijn64tab", Rows.laid_math_bits_deBruijn64tab), ("internal/strconv.uint64pow10", Rows.laid_internal_strconv_uint64pow10), ("unicode/utf8.acceptRanges", Rows.laid_unicode_utf8_acceptRanges), ("strconv.ErrRange", Rows.laid_strconv_ErrRange), ("strconv.ErrSyntax", Rows.laid_strconv_ErrSyntax), ("unicode/utf8.first", Rows.laid_unicode_utf8_first)] W) : LaidG F.globs W := by
  rw [MakeChecks.laidMetH_plain _ _ _ (by kernel_rfl)] at h
  have t1 := laid_table (P := Tryz.prog) (k := .u8) (l := F.tab1) (t := 133) (e := 5) (g := 1) h (by kernel_rfl) (by kernel_rfl) Tryz.underlying133 Tryz.underlying5 (by kernel_rfl) (by kernel_rfl)
  have t8 := laid_table (P := Tryz.prog) (k := .u8) (l := F.tab8) (t := 179) (e := 5) (g := 8) h.tail (by kernel_rfl) (by kernel_rfl) Tryz.underlying179 Tryz.underlying5 (by kernel_rfl) (by kernel_rfl)
  have t7 := laid_table (P := Tryz.prog) (k := .u64) (l := F.tab7) (t := 176) (e := 40) (g := 7) h.tail.tail (by kernel_rfl) (by kernel_rfl) Tryz.underlying176 Tryz.underlying40 (by kernel_rfl) (by kernel_rfl)
  intro g k l hh
  rcases glob_cons hh with ⟨rfl, e⟩ | hh
  · obtain ⟨rfl, rfl⟩ := Prod.mk.inj e
    exact t1
  rcases glob_cons hh with ⟨rfl, e⟩ | hh
  · obtain ⟨rfl, rfl⟩ := Prod.mk.inj e
    exact t8
  rcases glob_cons hh with ⟨rfl, e⟩ | hh
  · obtain ⟨rfl, rfl⟩ := Prod.mk.inj e
    exact t7
  cases hh
set_option maxRecDepth 100000 in
theorem lifted (os : Os) (started : os.Started) (H : Type) (enc : TypeId × Value → H) :
    ReturnsInHanded {} Tryz.checked os 4 .any (fun w args => (Rows.condTextsSpec.pre enc Tryz.prog Tryz.f4 Rows.condTextsRow.domain false w args ∧ laidMetH Tryz.prog [("math/bits.deBruijn32tab", Rows.laid_math_bits_deBruijn32tab), ("math/bits.deBruijn64tab", Rows.laid_math_bits_deBruijn64tab), ("internal/strconv.uint64pow10", Rows.laid_internal_strconv_uint64pow10), ("unicode/utf8.acceptRanges", Rows.laid_unicode_utf8_acceptRanges), ("strconv.ErrRange", Rows.laid_strconv_ErrRange), ("strconv.ErrSyntax", Rows.laid_strconv_ErrSyntax), ("unicode/utf8.first", Rows.laid_unicode_utf8_first)] w) ∧ sizedMet enc Tryz.prog Tryz.f4 (OpenSpec.ofChange Rows.condTextsSpec) false w args) (Rows.condTextsSpec.post enc Tryz.prog Tryz.f4 false true false false) := by
  refine returnsInHanded_of_change_and (C := Tryz.checked) (X := fun w _ => laidMetH Tryz.prog [("math/bits.deBruijn32tab", Rows.laid_math_bits_deBruijn32tab), ("math/bits.deBruijn64tab", Rows.laid_math_bits_deBruijn64tab), ("internal/strconv.uint64pow10", Rows.laid_internal_strconv_uint64pow10), ("unicode/utf8.acceptRanges", Rows.laid_unicode_utf8_acceptRanges), ("strconv.ErrRange", Rows.laid_strconv_ErrRange), ("strconv.ErrSyntax", Rows.laid_strconv_ErrSyntax), ("unicode/utf8.first", Rows.laid_unicode_utf8_first)] w) (fun _ _ _ hh h => h.of_heap hh) own started (by kernel_rfl) Tryz.func4
    (ChangeSpec.witness_shaped (enc := enc) (C := Tryz.checked) (os := os) (X := fun w _ => laidMetH Tryz.prog [("math/bits.deBruijn32tab", Rows.laid_math_bits_deBruijn32tab), ("math/bits.deBruijn64tab", Rows.laid_math_bits_deBruijn64tab), ("internal/strconv.uint64pow10", Rows.laid_internal_strconv_uint64pow10), ("unicode/utf8.acceptRanges", Rows.laid_unicode_utf8_acceptRanges), ("strconv.ErrRange", Rows.laid_strconv_ErrRange), ("strconv.ErrSyntax", Rows.laid_strconv_ErrSyntax), ("unicode/utf8.first", Rows.laid_unicode_utf8_first)] w) false (World.laidAll Tryz.prog os [("math/bits.deBruijn32tab", (Rows.laid_math_bits_deBruijn32tab : DataW Unit)), ("math/bits.deBruijn64tab", (Rows.laid_math_bits_deBruijn64tab : DataW Unit)), ("internal/strconv.uint64pow10", (Rows.laid_internal_strconv_uint64pow10 : DataW Unit)), ("unicode/utf8.acceptRanges", (Rows.laid_unicode_utf8_acceptRanges : DataW Unit)), ("strconv.ErrRange", (Rows.laid_strconv_ErrRange : DataW Unit)), ("strconv.ErrSyntax", (Rows.laid_strconv_ErrSyntax : DataW Unit)), ("unicode/utf8.first", (Rows.laid_unicode_utf8_first : DataW Unit))]) #[.int .i64 0, .bool false, .agg #[.string ByteArray.empty, .string ByteArray.empty]] 8 (World.laidAll_os _ _ _)
      (World.shaped_of_ZipB (by kernel_rfl) (by kernel_rfl)) (by kernel_rfl) (by kernel_rfl) (by kernel_rfl)
      (by rw [MakeChecks.laidMetH_plain _ _ _ (by kernel_rfl)]; exact laidMet_laidAll _ (by kernel_rfl) (by kernel_rfl))) ?_
  intro W base args ds gs before hval0 hW hcnd hsz0 hL _
  have hsz : (DataW.weightsEach Tryz.prog (Tryz.f4.params.toList ++ Rows.condTextsSpec.plain.varTypes Tryz.prog) (ds ++ gs)).all (· ≤ reachBytes) = true := hsz0
  have hval : ∀ (j : Nat) t v, Tryz.f4.params[j]? = some t → args[j]? = some v → Value.okWide Tryz.prog W .any base t v := hval0
  have hW' := hW
  obtain ⟨p, q, hA0, hV, rfl, hfz, hnd⟩ := hW
  have hA : DataW.TrodAll enc Tryz.prog W 0 (fun _ => true) true Tryz.f4.params.toList args.toList ds p := hA0
  rw [Tryz.params4] at hA hval hsz
  obtain ⟨v0, vs0, d0, ds0, p0, q0, hargs, rfl, rfl, h0, r0⟩ := trodAll_cons hA
  obtain ⟨v1, vs1, d1, ds1, p1, q1, rfl, rfl, rfl, h1, r1⟩ := trodAll_cons r0
  obtain ⟨v2, vs2, d2, ds2, p2, q2, rfl, rfl, rfl, h2, r2⟩ := trodAll_cons r1
  obtain ⟨rfl, rfl, rfl⟩ := trodAll_nil r2
  obtain rfl : args = #[v0, v1, v2] := by cases args; simp_all
  obtain ⟨rfl, rfl⟩ := trodVars_none hV
  obtain ⟨a0, rfl, rfl, rfl, w0⟩ := open_int Tryz.underlying3 (hval 0 3 v0 rfl rfl) h0
  obtain ⟨a1, rfl, rfl, rfl⟩ := open_bool Tryz.underlying4 (hval 1 4 v1 rfl rfl) h1
  obtain ⟨cs2, rfl, _⟩ := okWide_array Tryz.underlying37 (hval 2 37 v2 rfl rfl)
  have k2 := h2
  have lt2 : ∀ x ∈ p2, x.block < W.heap.size := by obtain ⟨m, hm⟩ := k2; exact DataW.trod_lt m _ _ _ hm
  obtain ⟨s20, s21, rfl⟩ := open_ss Tryz.underlying37 (by kernel_rfl) Tryz.underlying9 (by kernel_rfl) h2
  clear hA0 hval0 hsz0 hsz
  have hp := Pure.CondTexts a0 w0 a1 s20 s21
  have ha : ArgsR W (fun _ => False) ((.pair (.int .i64) (.pair .bool (.agg (.pair .str .str))))) (a0, a1, (s20, s21)) [.int .i64 a0, .bool a1, .agg #[.string s20, .string s21]] := ⟨_, _, rfl, in_int a0, ⟨_, _, rfl, in_bool a1, ⟨_, rfl, in_ss s20 s21⟩⟩⟩
  have hc := @law_calls Tryz.prog F.globs 4 ((.pair (.int .i64) (.pair .bool (.agg (.pair .str .str))))) (fun x => F.numerarylaw13_CondTexts.f x.1 x.2.1 x.2.2) F.numerarylaw13_CondTexts.ok (a0, a1, (s20, s21)) W [.int .i64 a0, .bool a1, .agg #[.string s20, .string s21]] (table hL) ha hp.out
  refine hc.mono fun e W' ⟨he, bel⟩ => ?_
  subst he
  exact ⟨_, rfl, _, _, _, [], _, [], hW', trodAll_mk1 (shut_bool Tryz.underlying4 _), (trodAll_cons_mk (shut_int Tryz.underlying3 w0) (trodAll_cons_mk (shut_bool Tryz.underlying4 a1) (trodAll_cons_mk (Below.trod laidOut (by kernel_rfl) (of_decide_eq_true (by kernel_rfl)) k2 bel lt2) trodAll_mk0))), rfl, bel.frame _, fun h => by cases h⟩
theorem over : Rows.condTextsRow.holds Tryz.pinned (OpenSpec.ofChange Rows.condTextsSpec) :=
  OpenClaim.holds_of_wide 4 Tryz.f4 rfl rfl rfl rfl rfl rfl rfl ⟨rfl, rfl, rfl, rfl, rfl⟩ rfl rfl rfl rfl rfl (by kernel_rfl) Tryz.func4 (by kernel_rfl)
    (of_decide_eq_true (by kernel_rfl)) (by unfold Func.isWrapper; first | (rw [if_pos (by decide +kernel)]; kernel_rfl) | (rw [if_neg (by decide +kernel)]; exact ⟨rfl, rfl⟩))
    (fun os started H enc _ => lifted os started H enc)
theorem said : Rows.CondTextsSaid := over
theorem card : Rows.CondTextsCardSaid :=
  Claim7.holds_tied_plain_at .later [] [.data, .data, .data, .data, .sentinel, .sentinel, .pinned] true (true, "3379b9865544a95fb94eba8d2515c3e79eb21d557e1f68f4da41aa1e0baf3e65") true
    said (fun _ h => by cases h) (by kernel_rfl) (fun _ h => by cases h) condTexts_row_tie rfl ⟨rfl, rfl⟩ (by kernel_rfl) rfl
    (fun f fn hf hfn => by
      obtain rfl : f = 4 := Option.some.inj ((show Tryz.prog.funcNamed "numerary/numerarylaw13.CondTexts" = some 4 by kernel_rfl).symm.trans hf) |>.symm
      obtain rfl : fn = Tryz.f4 := (Option.some.inj (Tryz.func4.symm.trans hfn)).symm
      exact ⟨by kernel_rfl, fun j t ht => by
        rw [Tryz.params4] at ht
        have hm : t ∈ [3, 4, 37] := by simpa using Array.mem_of_getElem? ht
        have hall : ([3, 4, 37].all fun u => !Tryz.prog.wantsStandIn u) = true := by kernel_rfl
        exact (show Tryz.prog.wantsStandIn t = false by simpa using List.all_eq_true.1 hall t hm)⟩)
    (by kernel_rfl)
#print axioms card
end Go.Proofs.YtlnbcpcnpofnoaaGreatDoor.condTexts
namespace Go.Proofs.YtlnbcpcnpofnoaaGreatDoor
/-- The row, under a short name, for the claim. -/
theorem condTexts_holds : Rows.CondTextsCardSaid := condTexts.card
end Go.Proofs.YtlnbcpcnpofnoaaGreatDoor
