/- A condition's text, with noughts ahead and behind, is the same condition; what is at most a number and at least it is that number alone. -/
import Derived.Test.YtlnbcpcnpofnoaaGreatDoorQCondMovesZT1
import Derived.Test.YtlnbcpcnpofnoaaGreatDoorQCondMovesZP2
import Derived.Test.YtlnbcpcnpofnoaaGreatDoorRows
import Derived.Test.YtlnbcpcnpofnoaaGreatDoorCards
import Derived.Test.YtlnbcpcnpofnoaaGreatDoorTie
import Derived.Stop.LaidErr
namespace Go.Proofs.YtlnbcpcnpofnoaaGreatDoor.condMoves
open Go.ChangeShapes Go.WideShapes Go.ChangeAt Go.RowKit Go.Proofs.YtlnbcpcnpofnoaaGreatDoor.E
open Go.ChangeMaps (open_string shut_string)
set_option linter.unusedVariables false
theorem own : ownKnob Tryz.prog.godebug = none := by kernel_rfl
theorem laidOut : laidOutB Tryz.prog = true := by kernel_rfl
theorem table {W : World} (h : laidMetH Tryz.prog [("math/bits.deBruijn32tab", Rows.laid_math_bits_deBruijn32tab), ("math/bits.deBruijn64tab", Rows.laid_math_bits_deBruijn64tab), ("internal/strconv.uint64pow10", Rows.laid_internal_strconv_uint64pow10), ("unicode/utf8.acceptRanges", Rows.laid_unicode_utf8_acceptRanges), ("strconv.ErrRange", Rows.laid_strconv_ErrRange), ("strconv.ErrSyntax", Rows.laid_strconv_ErrSyntax), ("unicode/utf8.first", Rows.laid_unicode_utf8_first)] W) : LaidG F.globs W := by
  rw [MakeChecks.laidMetH_plain _ _ _ (by kernel_rfl)] at h
  have t1 := laid_table (P := Tryz.prog) (k := .u8) (l := F.tab1) (t := 133) (e := 5) (g := 1) h (by kernel_rfl) (by kernel_rfl) Tryz.underlying133 Tryz.underlying5 (by kernel_rfl) (by kernel_rfl)
  have t8 := laid_table (P := Tryz.prog) (k := .u8) (l := F.tab8) (t := 179) (e := 5) (g := 8) h.tail (by kernel_rfl) (by kernel_rfl) Tryz.underlying179 Tryz.underlying5 (by kernel_rfl) (by kernel_rfl)
  have t7 := laid_table (P := Tryz.prog) (k := .u64) (l := F.tab7) (t := 176) (e := 40) (g := 7) h.tail.tail (by kernel_rfl) (by kernel_rfl) Tryz.underlying176 Tryz.underlying40 (by kernel_rfl) (by kernel_rfl)
  intro g k l hh
  rcases glob_cons hh with ⟨rfl, e⟩ | hh
  · obtain ⟨rfl, rfl⟩ := Prod.mk.inj e
    exact t1
  rcases glob_cons hh with ⟨rfl, e⟩ | hh
  · obtain ⟨rfl, rfl⟩ := Prod.mk.inj e
    exact t8
  rcases glob_cons hh with ⟨rfl, e⟩ | hh
  · obtain ⟨rfl, rfl⟩ := Prod.mk.inj e
    exact t7
  cases hh
set_option maxRecDepth 100000 in
theorem lifted (os : Os) (started : os.Started) (H : Type) (enc : TypeId × Value → H) :
    ReturnsInHanded {} Tryz.checked os 7 .any (fun w args => (Rows.condMovesSpec.pre enc Tryz.prog Tryz.f7 Rows.condMovesRow.domain false w args ∧ laidMetH Tryz.prog [("math/bits.deBruijn32tab", Rows.laid_math_bits_deBruijn32tab), ("math/bits.deBruijn64tab", Rows.laid_math_bits_deBruijn64tab), ("internal/strconv.uint64pow10", Rows.laid_internal_strconv_uint64pow10), ("unicode/utf8.acceptRanges", Rows.laid_unicode_utf8_acceptRanges), ("strconv.ErrRange", Rows.laid_strconv_ErrRange), ("strconv.ErrSyntax", Rows.laid_strconv_ErrSyntax), ("unicode/utf8.first", Rows.laid_unicode_utf8_first)] w) ∧ sizedMet enc Tryz.prog Tryz.f7 (OpenSpec.ofChange Rows.condMovesSpec) false w args) (Rows.condMovesSpec.post enc Tryz.prog Tryz.f7 false true false false) := by
  refine returnsInHanded_of_change_and (C := Tryz.checked) (X := fun w _ => laidMetH Tryz.prog [("math/bits.deBruijn32tab", Rows.laid_math_bits_deBruijn32tab), ("math/bits.deBruijn64tab", Rows.laid_math_bits_deBruijn64tab), ("internal/strconv.uint64pow10", Rows.laid_internal_strconv_uint64pow10), ("unicode/utf8.acceptRanges", Rows.laid_unicode_utf8_acceptRanges), ("strconv.ErrRange", Rows.laid_strconv_ErrRange), ("strconv.ErrSyntax", Rows.laid_strconv_ErrSyntax), ("unicode/utf8.first", Rows.laid_unicode_utf8_first)] w) (fun _ _ _ hh h => h.of_heap hh) own started (by kernel_rfl) Tryz.func7
    (ChangeSpec.witness_shaped (enc := enc) (C := Tryz.checked) (os := os) (X := fun w _ => laidMetH Tryz.prog [("math/bits.deBruijn32tab", Rows.laid_math_bits_deBruijn32tab), ("math/bits.deBruijn64tab", Rows.laid_math_bits_deBruijn64tab), ("internal/strconv.uint64pow10", Rows.laid_internal_strconv_uint64pow10), ("unicode/utf8.acceptRanges", Rows.laid_unicode_utf8_acceptRanges), ("strconv.ErrRange", Rows.laid_strconv_ErrRange), ("strconv.ErrSyntax", Rows.laid_strconv_ErrSyntax), ("unicode/utf8.first", Rows.laid_unicode_utf8_first)] w) false (World.laidAll Tryz.prog os [("math/bits.deBruijn32tab", (Rows.laid_math_bits_deBruijn32tab : DataW Unit)), ("math/bits.deBruijn64tab", (Rows.laid_math_bits_deBruijn64tab : DataW Unit)), ("internal/strconv.uint64pow10", (Rows.laid_internal_strconv_uint64pow10 : DataW Unit)), ("unicode/utf8.acceptRanges", (Rows.laid_unicode_utf8_acceptRanges : DataW Unit)), ("strconv.ErrRange", (Rows.laid_strconv_ErrRange : DataW Unit)), ("strconv.ErrSyntax", (Rows.laid_strconv_ErrSyntax : DataW Unit)), ("unicode/utf8.first", (Rows.laid_unicode_utf8_first : DataW Unit))]) #[.int .u32 0, .int .u8 0, .int .u64 0] 8 (World.laidAll_os _ _ _)
      (World.shaped_of_ZipB (by kernel_rfl) (by kernel_rfl)) (by kernel_rfl) (by kernel_rfl) (by kernel_rfl)
      (by rw [MakeChecks.laidMetH_plain _ _ _ (by kernel_rfl)]; exact laidMet_laidAll _ (by kernel_rfl) (by kernel_rfl))) ?_
  intro W base args ds gs before hval0 hW hcnd hsz0 hL _
  have hsz : (DataW.weightsEach Tryz.prog (Tryz.f7.params.toList ++ Rows.condMovesSpec.plain.varTypes Tryz.prog) (ds ++ gs)).all (· ≤ reachBytes) = true := hsz0
  have hval : ∀ (j : Nat) t v, Tryz.f7.params[j]? = some t → args[j]? = some v → Value.okWide Tryz.prog W .any base t v := hval0
  have hW' := hW
  obtain ⟨p, q, hA0, hV, rfl, hfz, hnd⟩ := hW
  have hA : DataW.TrodAll enc Tryz.prog W 0 (fun _ => true) true Tryz.f7.params.toList args.toList ds p := hA0
  rw [Tryz.params7] at hA hval hsz
  obtain ⟨v0, vs0, d0, ds0, p0, q0, hargs, rfl, rfl, h0, r0⟩ := trodAll_cons hA
  obtain ⟨v1, vs1, d1, ds1, p1, q1, rfl, rfl, rfl, h1, r1⟩ := trodAll_cons r0
  obtain ⟨v2, vs2, d2, ds2, p2, q2, rfl, rfl, rfl, h2, r2⟩ := trodAll_cons r1
  obtain ⟨rfl, rfl, rfl⟩ := trodAll_nil r2
  obtain rfl : args = #[v0, v1, v2] := by cases args; simp_all
  obtain ⟨rfl, rfl⟩ := trodVars_none hV
  obtain ⟨a0, rfl, rfl, rfl, w0⟩ := open_int Tryz.underlying47 (hval 0 47 v0 rfl rfl) h0
  obtain ⟨a1, rfl, rfl, rfl, w1⟩ := open_int Tryz.underlying5 (hval 1 5 v1 rfl rfl) h1
  obtain ⟨a2, rfl, rfl, rfl, w2⟩ := open_int Tryz.underlying40 (hval 2 40 v2 rfl rfl) h2
  clear hA0 hval0 hsz0 hsz
  have hp := Pure.CondMoves a0 w0 a1 w1 a2 w2
  have ha : ArgsR W (fun _ => False) ((.pair (.int .u32) (.pair (.int .u8) (.int .u64)))) (a0, a1, a2) [.int .u32 a0, .int .u8 a1, .int .u64 a2] := ⟨_, _, rfl, in_int a0, ⟨_, _, rfl, in_int a1, ⟨_, rfl, in_int a2⟩⟩⟩
  have hc := @law_calls Tryz.prog F.globs 7 ((.pair (.int .u32) (.pair (.int .u8) (.int .u64)))) (fun x => F.numerarylaw13_CondMoves.f x.1 x.2.1 x.2.2) F.numerarylaw13_CondMoves.ok (a0, a1, a2) W [.int .u32 a0, .int .u8 a1, .int .u64 a2] (table hL) ha hp.out
  refine hc.mono fun e W' ⟨he, bel⟩ => ?_
  subst he
  exact ⟨_, rfl, _, _, _, [], _, [], hW', trodAll_mk1 (shut_bool Tryz.underlying4 _), (trodAll_cons_mk (shut_int Tryz.underlying47 w0) (trodAll_cons_mk (shut_int Tryz.underlying5 w1) (trodAll_cons_mk (shut_int Tryz.underlying40 w2) trodAll_mk0))), rfl, bel.frame _, fun h => by cases h⟩
theorem over : Rows.condMovesRow.holds Tryz.pinned (OpenSpec.ofChange Rows.condMovesSpec) :=
  OpenClaim.holds_of_wide 7 Tryz.f7 rfl rfl rfl rfl rfl rfl rfl ⟨rfl, rfl, rfl, rfl, rfl⟩ rfl rfl rfl rfl rfl (by kernel_rfl) Tryz.func7 (by kernel_rfl)
    (of_decide_eq_true (by kernel_rfl)) (by unfold Func.isWrapper; first | (rw [if_pos (by decide +kernel)]; kernel_rfl) | (rw [if_neg (by decide +kernel)]; exact ⟨rfl, rfl⟩))
    (fun os started H enc _ => lifted os started H enc)
theorem said : Rows.CondMovesSaid := over
theorem card : Rows.CondMovesCardSaid :=
  Claim7.holds_tied_plain_at .later [] [.data, .data, .data, .data, .sentinel, .sentinel, .pinned] true (true, "3379b9865544a95fb94eba8d2515c3e79eb21d557e1f68f4da41aa1e0baf3e65") true
    said (fun _ h => by cases h) (by kernel_rfl) (fun _ h => by cases h) condMoves_row_tie rfl ⟨rfl, rfl⟩ (by kernel_rfl) rfl
    (fun f fn hf hfn => by
      obtain rfl : f = 7 := Option.some.inj ((show Tryz.prog.funcNamed "numerary/numerarylaw13.CondMoves" = some 7 by kernel_rfl).symm.trans hf) |>.symm
      obtain rfl : fn = Tryz.f7 := (Option.some.inj (Tryz.func7.symm.trans hfn)).symm
      exact ⟨by kernel_rfl, fun j t ht => by
        rw [Tryz.params7] at ht
        have hm : t ∈ [47, 5, 40] := by simpa using Array.mem_of_getElem? ht
        have hall : ([47, 5, 40].all fun u => !Tryz.prog.wantsStandIn u) = true := by kernel_rfl
        exact (show Tryz.prog.wantsStandIn t = false by simpa using List.all_eq_true.1 hall t hm)⟩)
    (by kernel_rfl)
#print axioms card
end Go.Proofs.YtlnbcpcnpofnoaaGreatDoor.condMoves
namespace Go.Proofs.YtlnbcpcnpofnoaaGreatDoor
/-- The row, under a short name, for the claim. -/
theorem condMoves_holds : Rows.CondMovesCardSaid := condMoves.card
end Go.Proofs.YtlnbcpcnpofnoaaGreatDoor
