/- Texts that the proof of NatMakes stands on, part 2. -/
import Derived.Test.YtcepdndhkidehaaCNatMakes0
import Derived.Test.YtcepdndhkidehaaCNatMakes1
section
namespace Go.Proofs.Ytcepdndhkidehaa.PA
open Go.RowKit Go.Proofs.YtcepdndhkidehaaW.PrintWords Go.Proofs.YtcepdndhkidehaaW.PrintLast Go.Proofs.YtcepdndhkidehaaW.PrintMore
attribute [local go_sem] max2_int min2_int max_two min_two max_three min_three max_four min_four   -- for this text's walks alone
set_option linter.unusedVariables false
set_option linter.unusedSimpArgs false

/-! ### numerarylaw02_NatMakes: function 5 -/
mutual
def numerarylaw02_NatMakes.l0 : Nat → List Int → Int → Int → List Int → Option (Bool)
  | 0, _, _, _, _ => none
  | k + 1, x0, x1, x6, x433000 => if x6 > 0 then (if 0 ≤ (wrap64 (x6 - 1)) then (if (wrap64 (x6 - 1)) < (x0.length : Int) then (if (rd x0 (wrap64 (x6 - 1))) = 0 then (numerarylaw02_NatMakes.l0 k x0 x1 (wrap64 (x6 - 1)) x433000) else ((nat_Nat_Limbs.f x433000).bind fun t434 => (if (t434.length : Int) = x6 then (numerarylaw02_NatMakes.l1 k x0 x1 x6 t434 0 0 (t434.length : Int) 0 x433000) else (some false)))) else (none)) else (none)) else ((nat_Nat_Limbs.f x433000).bind fun t479 => (if (t479.length : Int) = x6 then (numerarylaw02_NatMakes.l1 k x0 x1 x6 t479 0 0 (t479.length : Int) 0 x433000) else (some false)))
def numerarylaw02_NatMakes.l1 : Nat → List Int → Int → Int → List Int → Int → Int → Int → Int → List Int → Option (Bool)
  | 0, _, _, _, _, _, _, _, _, _ => none
  | k + 1, x0, x1, x6, x7, x8, x9, x41, x42, x433000 => if x42 < x41 then (if 0 ≤ x42 then (if x42 < (x7.length : Int) then (if x42 < (x0.length : Int) then (if (rd x7 x42) = (rd x0 x42) then (numerarylaw02_NatMakes.l2 k x0 x1 x6 x7 x8 x9 x42 x41 x42 0 x433000) else (some false)) else (none)) else (none)) else (none)) else (if x6 > 2 then ((nat_Nat_Small.f k x433000).bind fun bt441 => ((nat_Of.f k x1).bind fun t443 => ((nat_Nat_Small.f k t443).bind fun bt446 => ((numerarylaw02_wakes.f k).bind fun t448 => (if t448 = true then ((nat_Nat_Bits.f x433000).bind fun t449 => (if t449 = x8 then (if (bt441.2 == (decide (x6 ≤ 2))) = true then (if bt441.1 = 0 then (if bt446.2 = true then (if bt446.1 = x1 then ((nat_Of.f k x1).bind fun t450 => ((numerarylaw02_of.f k t450).bind fun t453 => ((numeraryref02_Of.f k x1).bind fun t456 => ((numerarylaw02_same.f k t453 t456).bind fun t459 => (some t459))))) else (some false)) else (some false)) else (some false)) else (some false)) else (some false))) else (some false)))))) else ((nat_Nat_Small.f k x433000).bind fun bt460 => ((nat_Of.f k x1).bind fun t462 => ((nat_Nat_Small.f k t462).bind fun bt465 => ((numerarylaw02_wakes.f k).bind fun t467 => (if t467 = true then ((nat_Nat_Bits.f x433000).bind fun t468 => (if t468 = x8 then (if (bt460.2 == (decide (x6 ≤ 2))) = true then (if bt460.1 = x9 then (if bt465.2 = true then (if bt465.1 = x1 then ((nat_Of.f k x1).bind fun t469 => ((numerarylaw02_of.f k t469).bind fun t472 => ((numeraryref02_Of.f k x1).bind fun t475 => ((numerarylaw02_same.f k t472 t475).bind fun t478 => (some t478))))) else (some false)) else (some false)) else (some false)) else (some false)) else (some false))) else (some false)))))))
def numerarylaw02_NatMakes.l2 : Nat → List Int → Int → Int → List Int → Int → Int → Int → Int → Int → Int → List Int → Option (Bool)
  | 0, _, _, _, _, _, _, _, _, _, _, _ => none
  | k + 1, x0, x1, x6, x7, x8, x9, x10, x41, x42, x54, x433000 => if x54 < 32 then (if 0 ≤ x10 then (if x10 < (x0.length : Int) then (if 0 ≤ x54 then (if (Go.bits .and .u32 (shr .u32 (rd x0 x10) x54) 1) = 1 then (numerarylaw02_NatMakes.l2 k x0 x1 x6 x7 (wrap64 ((wrap64 ((wrap64 (32 * x10)) + x54)) + 1)) x9 x10 x41 x42 (wrap64 (x54 + 1)) x433000) else (numerarylaw02_NatMakes.l2 k x0 x1 x6 x7 x8 x9 x10 x41 x42 (wrap64 (x54 + 1)) x433000)) else (none)) else (none)) else (none)) else (if x10 < 2 then (if 0 ≤ x10 then (if x10 < (x0.length : Int) then (if 0 ≤ (wrap64 (32 * x10)) then (numerarylaw02_NatMakes.l1 k x0 x1 x6 x7 x8 (Go.bits .or .u64 x9 (shl .u64 (IntKind.u64.wrap (rd x0 x10)) (wrap64 (32 * x10)))) x41 (wrap64 (x42 + 1)) x433000) else (none)) else (none)) else (none)) else (numerarylaw02_NatMakes.l1 k x0 x1 x6 x7 x8 x9 x41 (wrap64 (x42 + 1)) x433000))
end
def numerarylaw02_NatMakes.f (k : Nat) (l0 : List Int) (a1 : Int) : Option (Bool) := (numerarylaw02_few.f l0).bind fun t426 => ((nat_Made.f k t426).bind fun t429 => (numerarylaw02_NatMakes.l0 k t426 a1 (t426.length : Int) t429))
theorem numerarylaw02_NatMakes.mono_l : ∀ k, (∀ y0 y1 y2 y3, LeO (numerarylaw02_NatMakes.l0 k y0 y1 y2 y3) (numerarylaw02_NatMakes.l0 (k + 1) y0 y1 y2 y3)) ∧ (∀ y0 y1 y2 y3 y4 y5 y6 y7 y8, LeO (numerarylaw02_NatMakes.l1 k y0 y1 y2 y3 y4 y5 y6 y7 y8) (numerarylaw02_NatMakes.l1 (k + 1) y0 y1 y2 y3 y4 y5 y6 y7 y8)) ∧ (∀ y0 y1 y2 y3 y4 y5 y6 y7 y8 y9 y10, LeO (numerarylaw02_NatMakes.l2 k y0 y1 y2 y3 y4 y5 y6 y7 y8 y9 y10) (numerarylaw02_NatMakes.l2 (k + 1) y0 y1 y2 y3 y4 y5 y6 y7 y8 y9 y10))
  | 0 => ⟨fun _ _ _ _ r h => by simp [numerarylaw02_NatMakes.l0] at h, fun _ _ _ _ _ _ _ _ _ r h => by simp [numerarylaw02_NatMakes.l1] at h, fun _ _ _ _ _ _ _ _ _ _ _ r h => by simp [numerarylaw02_NatMakes.l2] at h⟩
  | k + 1 => by
    obtain ⟨ih0, ih1, ih2⟩ := numerarylaw02_NatMakes.mono_l k
    refine ⟨?_, ?_, ?_⟩
    · intro y0 y1 y2 y3
      unfold numerarylaw02_NatMakes.l0
      repeat' first
      | (with_reducible exact ih0 _ _ _ _)
      | (with_reducible exact ih1 _ _ _ _ _ _ _ _ _)
      | (with_reducible exact ih2 _ _ _ _ _ _ _ _ _ _ _)
      | (with_reducible exact nat_Made.mono _ _)
      | (with_reducible exact nat_Nat_Small.mono _ _)
      | (with_reducible exact nat_Of.mono _ _)
      | (with_reducible exact numerarylaw02_of.mono _ _)
      | (with_reducible exact numerarylaw02_same.mono _ _ _)
      | (with_reducible exact numerarylaw02_wakes.mono _)
      | (with_reducible exact numeraryref02_Of.mono _ _)
      | (with_reducible exact LeO.refl _)
      | (with_reducible exact LeO.none _)
      | (with_reducible refine LeO.ite ?_ ?_)
      | (with_reducible refine LeO.bind ?_ (fun _ => ?_))
    · intro y0 y1 y2 y3 y4 y5 y6 y7 y8
      unfold numerarylaw02_NatMakes.l1
      repeat' first
      | (with_reducible exact ih0 _ _ _ _)
      | (with_reducible exact ih1 _ _ _ _ _ _ _ _ _)
      | (with_reducible exact ih2 _ _ _ _ _ _ _ _ _ _ _)
      | (with_reducible exact nat_Made.mono _ _)
      | (with_reducible exact nat_Nat_Small.mono _ _)
      | (with_reducible exact nat_Of.mono _ _)
      | (with_reducible exact numerarylaw02_of.mono _ _)
      | (with_reducible exact numerarylaw02_same.mono _ _ _)
      | (with_reducible exact numerarylaw02_wakes.mono _)
      | (with_reducible exact numeraryref02_Of.mono _ _)
      | (with_reducible exact LeO.refl _)
      | (with_reducible exact LeO.none _)
      | (with_reducible refine LeO.ite ?_ ?_)
      | (with_reducible refine LeO.bind ?_ (fun _ => ?_))
    intro y0 y1 y2 y3 y4 y5 y6 y7 y8 y9 y10
    unfold numerarylaw02_NatMakes.l2
    repeat' first
    | (with_reducible exact ih0 _ _ _ _)
    | (with_reducible exact ih1 _ _ _ _ _ _ _ _ _)
    | (with_reducible exact ih2 _ _ _ _ _ _ _ _ _ _ _)
    | (with_reducible exact nat_Made.mono _ _)
    | (with_reducible exact nat_Nat_Small.mono _ _)
    | (with_reducible exact nat_Of.mono _ _)
    | (with_reducible exact numerarylaw02_of.mono _ _)
    | (with_reducible exact numerarylaw02_same.mono _ _ _)
    | (with_reducible exact numerarylaw02_wakes.mono _)
    | (with_reducible exact numeraryref02_Of.mono _ _)
    | (with_reducible exact LeO.refl _)
    | (with_reducible exact LeO.none _)
    | (with_reducible refine LeO.ite ?_ ?_)
    | (with_reducible refine LeO.bind ?_ (fun _ => ?_))
    | exact ih0 _ _ _ _
    | exact ih1 _ _ _ _ _ _ _ _ _
    | exact ih2 _ _ _ _ _ _ _ _ _ _ _
    | exact nat_Made.mono _ _
    | exact nat_Nat_Small.mono _ _
    | exact nat_Of.mono _ _
    | exact numerarylaw02_of.mono _ _
    | exact numerarylaw02_same.mono _ _ _
    | exact numerarylaw02_wakes.mono _
    | exact numeraryref02_Of.mono _ _
    | exact LeO.none _
    | refine LeO.ite ?_ ?_
    | refine LeO.bind ?_ (fun _ => ?_)
theorem numerarylaw02_NatMakes.mono : ∀ a0 a1 k, LeO (numerarylaw02_NatMakes.f k a0 a1) (numerarylaw02_NatMakes.f (k + 1) a0 a1) := by
  intro a0 a1 k
  obtain ⟨ih0, ih1, ih2⟩ := numerarylaw02_NatMakes.mono_l k
  unfold numerarylaw02_NatMakes.f
  repeat' first
      | (with_reducible exact ih0 _ _ _ _)
      | (with_reducible exact ih1 _ _ _ _ _ _ _ _ _)
      | (with_reducible exact ih2 _ _ _ _ _ _ _ _ _ _ _)
      | (with_reducible exact nat_Made.mono _ _)
      | (with_reducible exact nat_Nat_Small.mono _ _)
      | (with_reducible exact nat_Of.mono _ _)
      | (with_reducible exact numerarylaw02_of.mono _ _)
      | (with_reducible exact numerarylaw02_same.mono _ _ _)
      | (with_reducible exact numerarylaw02_wakes.mono _)
      | (with_reducible exact numeraryref02_Of.mono _ _)
      | (with_reducible exact LeO.refl _)
      | (with_reducible exact LeO.none _)
      | (with_reducible refine LeO.ite ?_ ?_)
      | (with_reducible refine LeO.bind ?_ (fun _ => ?_))
set_option maxHeartbeats 8000000 in
set_option maxRecDepth 100000 in
theorem numerarylaw02_NatMakes.calls (k : Nat) (A0 : Option Addr) (c0 : Nat) (l0 : List Int) (a1 : Int) (r : Bool) (w : World) (hr0 : Kd.C (Kd.int .u32) w A0 l0.length l0) (hc0 : l0.length ≤ c0) (h : numerarylaw02_NatMakes.f k l0 a1 = some r) (hr_ : r = true) :
    Calls Try.prog 5 #[.slice A0 l0.length c0, .int .u64 a1] w fun e w' => e = .returned (.bool r) ∧ Below w.heap.size w w' := by
  have HR_ := Aside0.mk hr_
  clear hr_
  have hu25 := Try.underlying25
  have HR0 := Aside0.mk hr0
  have HC0 := Aside0.mk hc0
  clear hr0 hc0
  have HB := Aside0.mk (Below.refl w.heap.size w)
  have H : ((numerarylaw02_few.f l0).bind fun t426 => ((nat_Made.f k t426).bind fun t429 => (numerarylaw02_NatMakes.l0 k t426 a1 (t426.length : Int) t429))) = some r := h
  clear h
  replace H := Option.bind_eq_some_iff.mp H
  obtain ⟨t426, A30, H⟩ := H
  have A3 := Aside0.mk A30
  clear A30
  replace H := Option.bind_eq_some_iff.mp H
  obtain ⟨t429, A40, H⟩ := H
  have A4 := Aside0.mk A40
  clear A40
  have H' := Aside0.mk H
  clear H
  go_enter Try.func5, Try.ntmps5
  go_wp2_with (first | (go_at_call 30; (with_reducible refine (numerarylaw02_few.calls (fun k_ => k_ < w.heap.size) _ _ l0 t426 _ ?side1 A3.out).mono ?_); (case side1 => exact Kd.V_mk HC0.out (Kd.F_below (Kd.C_F (Kd.heap_int .u32) HR0.out) (by repeat (first | (with_reducible first | exact HB.out | apply below_alloc | apply pw_below_drewN | apply below_drew1) | exact HB.out)))); rintro e w5 ⟨v427, rfl, ho0, hb⟩; have HO428 := Aside0.mk (Kd.V_lower (Kd.V_mono (ok' := fun k_ => True) ho0 (fun k_ hk_ => trivial)) (below_size (by repeat (first | (with_reducible first | exact HB.out | apply below_alloc | apply pw_below_drewN | apply below_drew1) | exact HB.out)))); replace HB := Aside0.mk (below_step (by repeat (first | (with_reducible first | exact HB.out | apply below_alloc | apply pw_below_drewN | apply below_drew1) | exact HB.out)) hb); obtain ⟨Ao6, co6, eo6⟩ := Kd.V_slice HO428.out; subst eo6) | (go_at_call 16; (with_reducible refine (nat_Made.calls k _ _ t426 t429 _ ?side1 ?side2 A4.out).mono ?_); (case side1 => repeat (first | exact (Kd.V_reads' HO428.out).2.2 | (with_reducible refine Kd.C_alloc ?_ _) | (with_reducible refine Kd.C_drewN ?_ _) | (with_reducible refine Kd.C_drew ?_))); (case side2 => exact (Kd.V_reads' HO428.out).2.1); rintro e w7 ⟨v430, rfl, ho0, hb⟩; replace HO428 := Aside0.mk (Kd.V_elder' (by (with_reducible repeat (first | apply Kd.V_alloc | apply Kd.V_drewN | apply Kd.V_drew)); exact HO428.out) (Kd.R_base ho0) hb); have HO431 := Aside0.mk (Kd.R_lower ho0 (below_size (by repeat (first | (with_reducible first | exact HB.out | apply below_alloc | apply pw_below_drewN | apply below_drew1) | exact HB.out)))); replace HB := Aside0.mk (below_step (by repeat (first | (with_reducible first | exact HB.out | apply below_alloc | apply pw_below_drewN | apply below_drew1) | exact HB.out)) hb)) | ((with_reducible refine gate_dst (N := 5) rfl ?_); refine box_event ?hg (N := 5) ?hd (cs := #[.slice none 0 0]) (t := 25) ?hr ?_; (case hd => rfl); (case hg => rfl); (case hr => first | (go_simp; done) | (go_simp; rfl)); intro gb432 hg w8 hbox hb; replace HO428 := Aside0.mk (Kd.V_below (Kd.V_elderB (by (with_reducible repeat (first | apply Kd.V_alloc | apply Kd.V_drewN | apply Kd.V_drew)); exact HO428.out) gb432 (Nat.le_of_eq hg.symm)) hb); replace HO431 := Aside0.mk (Kd.R_below (by (with_reducible repeat (first | apply Kd.R_alloc | apply Kd.R_drewN | apply Kd.R_drew)); exact HO431.out) hb); have BK432 := Aside0.mk (hbox); have GW432 := Aside0.mk ((by rw [hg]; exact (below_size (by repeat (first | (with_reducible first | exact HB.out | apply below_alloc | apply pw_below_drewN | apply below_drew1) | exact HB.out))) : w.heap.size ≤ gb432)); have GE432 := Aside0.mk ((by rw [hg]; exact (below_size (by repeat (first | (with_reducible first | exact HB.out | apply below_alloc | apply pw_below_drewN | apply below_drew1) | exact HB.out))) : w.heap.size ≤ gb432)); replace HB := Aside0.mk (below_step (by repeat (first | (with_reducible first | exact HB.out | apply below_alloc | apply pw_below_drewN | apply below_drew1) | exact HB.out)) hb); clear hb hbox hg; obtain ⟨Ao9, co9, eo9⟩ := Kd.R_slice HO431.out; subst eo9; have hcz10_0 : w8.cell? ⟨gb432, 0, none⟩ = some (.slice none 0 0) := (blk_cell BK432.out 0).trans rfl; have hfz10_0 := blk_frozen BK432.out 0))
  repeat (go_quiet (first | (go_at_call 30; (fail_if_success have z_ := w5); (with_reducible refine (numerarylaw02_few.calls (fun k_ => k_ < w.heap.size) _ _ l0 t426 _ ?side1 A3.out).mono ?_); (case side1 => exact Kd.V_mk HC0.out (Kd.F_below (Kd.C_F (Kd.heap_int .u32) HR0.out) (by repeat (first | (with_reducible first | exact HB.out | apply below_alloc | apply pw_below_drewN | apply below_drew1) | exact HB.out)))); rintro e w5 ⟨v427, rfl, ho0, hb⟩; have HO428 := Aside0.mk (Kd.V_lower (Kd.V_mono (ok' := fun k_ => True) ho0 (fun k_ hk_ => trivial)) (below_size (by repeat (first | (with_reducible first | exact HB.out | apply below_alloc | apply pw_below_drewN | apply below_drew1) | exact HB.out)))); replace HB := Aside0.mk (below_step (by repeat (first | (with_reducible first | exact HB.out | apply below_alloc | apply pw_below_drewN | apply below_drew1) | exact HB.out)) hb); obtain ⟨Ao6, co6, eo6⟩ := Kd.V_slice HO428.out; subst eo6) | (go_at_call 16; (fail_if_success have z_ := w7); (with_reducible refine (nat_Made.calls k _ _ t426 t429 _ ?side1 ?side2 A4.out).mono ?_); (case side1 => repeat (first | exact (Kd.V_reads' HO428.out).2.2 | (with_reducible refine Kd.C_alloc ?_ _) | (with_reducible refine Kd.C_drewN ?_ _) | (with_reducible refine Kd.C_drew ?_))); (case side2 => exact (Kd.V_reads' HO428.out).2.1); rintro e w7 ⟨v430, rfl, ho0, hb⟩; replace HO428 := Aside0.mk (Kd.V_elder' (by (with_reducible repeat (first | apply Kd.V_alloc | apply Kd.V_drewN | apply Kd.V_drew)); exact HO428.out) (Kd.R_base ho0) hb); have HO431 := Aside0.mk (Kd.R_lower ho0 (below_size (by repeat (first | (with_reducible first | exact HB.out | apply below_alloc | apply pw_below_drewN | apply below_drew1) | exact HB.out)))); replace HB := Aside0.mk (below_step (by repeat (first | (with_reducible first | exact HB.out | apply below_alloc | apply pw_below_drewN | apply below_drew1) | exact HB.out)) hb)) | ((with_reducible refine gate_dst (N := 5) rfl ?_); refine box_event ?hg (N := 5) ?hd (cs := #[.slice none 0 0]) (t := 25) ?hr ?_; (case hd => rfl); (case hg => rfl); (case hr => first | (go_simp; done) | (go_simp; rfl)); intro gb432 hg w8 hbox hb; replace HO428 := Aside0.mk (Kd.V_below (Kd.V_elderB (by (with_reducible repeat (first | apply Kd.V_alloc | apply Kd.V_drewN | apply Kd.V_drew)); exact HO428.out) gb432 (Nat.le_of_eq hg.symm)) hb); replace HO431 := Aside0.mk (Kd.R_below (by (with_reducible repeat (first | apply Kd.R_alloc | apply Kd.R_drewN | apply Kd.R_drew)); exact HO431.out) hb); have BK432 := Aside0.mk (hbox); have GW432 := Aside0.mk ((by rw [hg]; exact (below_size (by repeat (first | (with_reducible first | exact HB.out | apply below_alloc | apply pw_below_drewN | apply below_drew1) | exact HB.out))) : w.heap.size ≤ gb432)); have GE432 := Aside0.mk ((by rw [hg]; exact (below_size (by repeat (first | (with_reducible first | exact HB.out | apply below_alloc | apply pw_below_drewN | apply below_drew1) | exact HB.out))) : w.heap.size ≤ gb432)); replace HB := Aside0.mk (below_step (by repeat (first | (with_reducible first | exact HB.out | apply below_alloc | apply pw_below_drewN | apply below_drew1) | exact HB.out)) hb); clear hb hbox hg; obtain ⟨Ao9, co9, eo9⟩ := Kd.R_slice HO431.out; subst eo9; have hcz10_0 : w8.cell? ⟨gb432, 0, none⟩ = some (.slice none 0 0) := (blk_cell BK432.out 0).trans rfl; have hfz10_0 := blk_frozen BK432.out 0)); try go_wp2_with (first | (go_at_call 30; (with_reducible refine (numerarylaw02_few.calls (fun k_ => k_ < w.heap.size) _ _ l0 t426 _ ?side1 A3.out).mono ?_); (case side1 => exact Kd.V_mk HC0.out (Kd.F_below (Kd.C_F (Kd.heap_int .u32) HR0.out) (by repeat (first | (with_reducible first | exact HB.out | apply below_alloc | apply pw_below_drewN | apply below_drew1) | exact HB.out)))); rintro e w5 ⟨v427, rfl, ho0, hb⟩; have HO428 := Aside0.mk (Kd.V_lower (Kd.V_mono (ok' := fun k_ => True) ho0 (fun k_ hk_ => trivial)) (below_size (by repeat (first | (with_reducible first | exact HB.out | apply below_alloc | apply pw_below_drewN | apply below_drew1) | exact HB.out)))); replace HB := Aside0.mk (below_step (by repeat (first | (with_reducible first | exact HB.out | apply below_alloc | apply pw_below_drewN | apply below_drew1) | exact HB.out)) hb); obtain ⟨Ao6, co6, eo6⟩ := Kd.V_slice HO428.out; subst eo6) | (go_at_call 16; (with_reducible refine (nat_Made.calls k _ _ t426 t429 _ ?side1 ?side2 A4.out).mono ?_); (case side1 => repeat (first | exact (Kd.V_reads' HO428.out).2.2 | (with_reducible refine Kd.C_alloc ?_ _) | (with_reducible refine Kd.C_drewN ?_ _) | (with_reducible refine Kd.C_drew ?_))); (case side2 => exact (Kd.V_reads' HO428.out).2.1); rintro e w7 ⟨v430, rfl, ho0, hb⟩; replace HO428 := Aside0.mk (Kd.V_elder' (by (with_reducible repeat (first | apply Kd.V_alloc | apply Kd.V_drewN | apply Kd.V_drew)); exact HO428.out) (Kd.R_base ho0) hb); have HO431 := Aside0.mk (Kd.R_lower ho0 (below_size (by repeat (first | (with_reducible first | exact HB.out | apply below_alloc | apply pw_below_drewN | apply below_drew1) | exact HB.out)))); replace HB := Aside0.mk (below_step (by repeat (first | (with_reducible first | exact HB.out | apply below_alloc | apply pw_below_drewN | apply below_drew1) | exact HB.out)) hb)) | ((with_reducible refine gate_dst (N := 5) rfl ?_); refine box_event ?hg (N := 5) ?hd (cs := #[.slice none 0 0]) (t := 25) ?hr ?_; (case hd => rfl); (case hg => rfl); (case hr => first | (go_simp; done) | (go_simp; rfl)); intro gb432 hg w8 hbox hb; replace HO428 := Aside0.mk (Kd.V_below (Kd.V_elderB (by (with_reducible repeat (first | apply Kd.V_alloc | apply Kd.V_drewN | apply Kd.V_drew)); exact HO428.out) gb432 (Nat.le_of_eq hg.symm)) hb); replace HO431 := Aside0.mk (Kd.R_below (by (with_reducible repeat (first | apply Kd.R_alloc | apply Kd.R_drewN | apply Kd.R_drew)); exact HO431.out) hb); have BK432 := Aside0.mk (hbox); have GW432 := Aside0.mk ((by rw [hg]; exact (below_size (by repeat (first | (with_reducible first | exact HB.out | apply below_alloc | apply pw_below_drewN | apply below_drew1) | exact HB.out))) : w.heap.size ≤ gb432)); have GE432 := Aside0.mk ((by rw [hg]; exact (below_size (by repeat (first | (with_reducible first | exact HB.out | apply below_alloc | apply pw_below_drewN | apply below_drew1) | exact HB.out))) : w.heap.size ≤ gb432)); replace HB := Aside0.mk (below_step (by repeat (first | (with_reducible first | exact HB.out | apply below_alloc | apply pw_below_drewN | apply below_drew1) | exact HB.out)) hb); clear hb hbox hg; obtain ⟨Ao9, co9, eo9⟩ := Kd.R_slice HO431.out; subst eo9; have hcz10_0 : w8.cell? ⟨gb432, 0, none⟩ = some (.slice none 0 0) := (blk_cell BK432.out 0).trans rfl; have hfz10_0 := blk_frozen BK432.out 0)))
  (try simp only [Act.put, List.setIfInBounds_toArray, List.set_cons_zero, List.set_cons_succ])
  go_loopg [6] k (fun kq v6 w' => ∃ (x6_1 : Int), v6 = .int .i64 x6_1 ∧ Aside0 (numerarylaw02_NatMakes.l0 kq t426 a1 x6_1 t429 = some r) ∧ Aside0 (kq ≤ k) ∧ Aside0 (Kd.V (Kd.int .u32) 23 w' w.heap.size (fun k_ => some k_ ≠ ((.slice Ao9 t429.length co9) : Value).ownBlock ∧ k_ ≠ gb432) (.slice Ao6 t426.length co6) t426) ∧ Aside0 (Kd.R (Kd.int .u32) 23 w' w.heap.size (fun _ => True) (.slice Ao9 t429.length co9) t429) ∧ Aside0 (w'.heap[gb432]? = some (.cells #[(.slice Ao9 t429.length co9)] 25 (0, 0))) ∧ Aside0 (Below w.heap.size w w'))
  case atStart => exact ⟨((t426.length : Int)), rfl, H', ⟨Nat.le_refl _⟩, ⟨by (with_reducible repeat (first | apply Kd.V_alloc | apply Kd.V_drewN | apply Kd.V_drew)); exact Kd.V_mono (Kd.V_far (p := ⟨gb432, 0, none⟩) (Kd.V_mono HO428.out (fun k_ hk => (⟨hk, hk.2⟩ : _ ∧ k_ ≠ gb432))) (fun _ hk => hk.2) (.slice Ao9 t429.length co9)) (fun _ hk => ⟨hk.1.1.2, hk.1.2⟩)⟩, ⟨by (with_reducible repeat (first | apply Kd.R_alloc | apply Kd.R_drewN | apply Kd.R_drew)); exact Kd.R_mono (Kd.R_far (p := ⟨gb432, 0, none⟩) (Kd.R_types HO431.out BK432.out (by decide)) (fun _ hk => hk.2) (.slice Ao9 t429.length co9)) (fun _ hk => trivial)⟩, ⟨by (with_reducible repeat (first | refine blk_drewN ?_ _ | refine blk_drew ?_ | refine blk_alloc ?_ _)); refine blk_put (cs := #[.slice none 0 0]) ?_ 0 _ rfl; (with_reducible repeat (first | refine blk_drewN ?_ _ | refine blk_drew ?_ | refine blk_alloc ?_ _)); exact BK432.out⟩, ⟨by repeat (first | (with_reducible first | exact HB.out | apply below_alloc | apply pw_below_drewN | apply below_drew1 | refine below_set ?_ GE432.out) | exact HB.out)⟩⟩
  case round =>
    clear H'
    try clear p2
    try clear c5
    try clear hcz10_0
    try clear hfz10_0
    obtain ⟨x6_1, rfl, HA, HK1, HO_0, HO_433000, BK432, HB⟩ := hrel
    cases gk with
    | zero => exact absurd HA.out (by simp [numerarylaw02_NatMakes.l0])
    | succ k1 =>
      have H := HA.out
      clear HA
      simp only [numerarylaw02_NatMakes.l0] at H
      by_cases c11 : x6_1 > 0
      · rw [if_pos c11] at H
        have c11b0 : decide (0 < x6_1) = true := decide_eq_true c11
        clear c11
        obtain ⟨ji12, hji12⟩ : ∃ j_ : Int, (wrap64 (x6_1 - 1)) = j_ := ⟨_, rfl⟩
        replace H : (if 0 ≤ (ji12) then (if (ji12) < (t426.length : Int) then (if (rd t426 (ji12)) = 0 then (numerarylaw02_NatMakes.l0 k1 t426 a1 ji12 t429) else ((nat_Nat_Limbs.f t429).bind fun t434 => (if (t434.length : Int) = x6_1 then (numerarylaw02_NatMakes.l1 k1 t426 a1 x6_1 t434 0 0 (t434.length : Int) 0 t429) else (some false)))) else (none)) else (none)) = some r := by first | (rw [hji12] at H; exact H) | (simp only [hji12] at H ⊢; exact H)
        have hji12w : (IntKind.i64.wrap (x6_1 - 1)) = ji12 := (i64_w _).trans hji12
        by_cases c13 : 0 ≤ (ji12)
        rotate_left
        · rw [if_neg c13] at H
          exact absurd H (by simp)
        rw [if_pos c13] at H
        have c13b0 : decide (0 ≤ (ji12)) = true := decide_eq_true c13
        clear c13
        by_cases c14 : (ji12) < (t426.length : Int)
        rotate_left
        · rw [if_neg c14] at H
          exact absurd H (by simp)
        rw [if_pos c14] at H
        have c14b0 : decide ((ji12) < (t426.length : Int)) = true := decide_eq_true c14
        clear c14
        by_cases c15 : (rd t426 (ji12)) = 0
        · rw [if_pos c15] at H
          have c15b0 : ((rd t426 (ji12)) == 0) = true := beq_iff_eq.mpr c15
          have c15b1 : ((rd t426 (ji12)) != 0) = false := bne_eq_false_iff_eq.mpr c15
          clear c15
          have H' := Aside0.mk H
          clear H
          have p433 : 0 ≤ ((ji12) : Int) := of_decide_eq_true (by assumption)
          have q433 : (ji12) < (t426.length : Int) := of_decide_eq_true (by assumption)
          obtain ⟨ad433, e433, hx433_0⟩ := Kd.at_int (Kd.V_reads' HO_0.out).2.2 (ji12) p433 q433
          cases e433
          replace p433 := eq_true p433
          replace q433 := eq_true q433
          go_wp2
          repeat (go_quiet (fail); try go_wp2)
          go_roundg k1
          case measure => have := HK1.out; omega
          case rel => exact ⟨(ji12), (by first | rfl | (simp; done) | (simp only [← hji12] <;> (first | rfl | simp)) | (simp [*]; done)), H', ⟨by have := HK1.out; omega⟩, ⟨by (with_reducible repeat (first | apply Kd.V_alloc | apply Kd.V_drewN | apply Kd.V_drew)); exact HO_0.out⟩, ⟨by (with_reducible repeat (first | apply Kd.R_alloc | apply Kd.R_drewN | apply Kd.R_drew)); exact HO_433000.out⟩, ⟨by (with_reducible repeat (first | refine blk_drewN ?_ _ | refine blk_drew ?_ | refine blk_alloc ?_ _)); exact BK432.out⟩, ⟨by repeat (first | (with_reducible first | exact HB.out | apply below_alloc | apply pw_below_drewN | apply below_drew1 | refine below_set ?_ GE432.out) | exact HB.out)⟩⟩
        rw [if_neg c15] at H
        have c15b0 : ((rd t426 (ji12)) == 0) = false := beq_eq_false_iff_ne.mpr c15
        have c15b1 : ((rd t426 (ji12)) != 0) = true := bne_iff_ne.mpr c15
        replace H := Option.bind_eq_some_iff.mp H
        obtain ⟨t434, A160, H⟩ := H
        have A16 := Aside0.mk A160
        clear A160
        by_cases c17 : (t434.length : Int) = x6_1
        rotate_left
        · rw [if_neg c17] at H
          exact absurd (H.trans (congrArg some HR_.out)) (by simp)
        rw [if_pos c17] at H
        have c17b0 : ((t434.length : Int) == x6_1) = true := beq_iff_eq.mpr c17
        have c17b1 : ((t434.length : Int) != x6_1) = false := bne_eq_false_iff_eq.mpr c17
        clear c17
        have H' := Aside0.mk H
        clear H
        have p433 : 0 ≤ ((ji12) : Int) := of_decide_eq_true (by assumption)
        have q433 : (ji12) < (t426.length : Int) := of_decide_eq_true (by assumption)
        obtain ⟨ad433, e433, hx433_0⟩ := Kd.at_int (Kd.V_reads' HO_0.out).2.2 (ji12) p433 q433
        cases e433
        replace p433 := eq_true p433
        replace q433 := eq_true q433
        have hcz18_0 : wr.cell? ⟨gb432, 0, none⟩ = some (.slice Ao9 t429.length co9) := (blk_cell BK432.out 0).trans rfl
        have hfz18_0 := blk_frozen BK432.out 0
        go_wp2_with (first | (go_at_call 31; (with_reducible refine (nat_Nat_Limbs.calls _ _ t429 t434 _ ?side1 ?side2 A16.out).mono ?_); (case side1 => repeat (first | exact (Kd.R_reads' HO_433000.out).2.2 | (with_reducible refine Kd.C_alloc ?_ _) | (with_reducible refine Kd.C_drewN ?_ _) | (with_reducible refine Kd.C_drew ?_))); (case side2 => exact (Kd.R_reads' HO_433000.out).2.1); rintro e w19 ⟨v435, rfl, ho0, hb⟩; replace HO_0 := Aside0.mk (Kd.V_elder' (by (with_reducible repeat (first | apply Kd.V_alloc | apply Kd.V_drewN | apply Kd.V_drew)); exact HO_0.out) (Kd.R_base ho0) hb); have HO436 := Aside0.mk (Kd.R_lower (Kd.R_new' ho0 (Kd.R_lt (by (with_reducible repeat (first | apply Kd.R_alloc | apply Kd.R_drewN | apply Kd.R_drew)); exact HO_433000.out))) (below_size (by repeat (first | (with_reducible first | exact HB.out | apply below_alloc | apply pw_below_drewN | apply below_drew1 | refine below_set ?_ GE432.out) | exact HB.out)))); replace HO_433000 := Aside0.mk (Kd.R_elder' (by (with_reducible repeat (first | apply Kd.R_alloc | apply Kd.R_drewN | apply Kd.R_drew)); exact HO_433000.out) (Kd.R_base ho0) hb); replace BK432 := Aside0.mk (blk_below (g := gb432) (o := .cells #[.slice Ao9 t429.length co9] 25 (0, 0)) (by (with_reducible repeat (first | refine blk_drewN ?_ _ | refine blk_drew ?_ | refine blk_alloc ?_ _)); exact BK432.out) hb); replace HB := Aside0.mk (below_step (by repeat (first | (with_reducible first | exact HB.out | apply below_alloc | apply pw_below_drewN | apply below_drew1 | refine below_set ?_ GE432.out) | exact HB.out)) hb); obtain ⟨Ao20, co20, eo20⟩ := Kd.R_slice HO436.out; subst eo20))
        repeat (go_quiet (first | (go_at_call 31; (fail_if_success have z_ := w19); (with_reducible refine (nat_Nat_Limbs.calls _ _ t429 t434 _ ?side1 ?side2 A16.out).mono ?_); (case side1 => repeat (first | exact (Kd.R_reads' HO_433000.out).2.2 | (with_reducible refine Kd.C_alloc ?_ _) | (with_reducible refine Kd.C_drewN ?_ _) | (with_reducible refine Kd.C_drew ?_))); (case side2 => exact (Kd.R_reads' HO_433000.out).2.1); rintro e w19 ⟨v435, rfl, ho0, hb⟩; replace HO_0 := Aside0.mk (Kd.V_elder' (by (with_reducible repeat (first | apply Kd.V_alloc | apply Kd.V_drewN | apply Kd.V_drew)); exact HO_0.out) (Kd.R_base ho0) hb); have HO436 := Aside0.mk (Kd.R_lower (Kd.R_new' ho0 (Kd.R_lt (by (with_reducible repeat (first | apply Kd.R_alloc | apply Kd.R_drewN | apply Kd.R_drew)); exact HO_433000.out))) (below_size (by repeat (first | (with_reducible first | exact HB.out | apply below_alloc | apply pw_below_drewN | apply below_drew1 | refine below_set ?_ GE432.out) | exact HB.out)))); replace HO_433000 := Aside0.mk (Kd.R_elder' (by (with_reducible repeat (first | apply Kd.R_alloc | apply Kd.R_drewN | apply Kd.R_drew)); exact HO_433000.out) (Kd.R_base ho0) hb); replace BK432 := Aside0.mk (blk_below (g := gb432) (o := .cells #[.slice Ao9 t429.length co9] 25 (0, 0)) (by (with_reducible repeat (first | refine blk_drewN ?_ _ | refine blk_drew ?_ | refine blk_alloc ?_ _)); exact BK432.out) hb); replace HB := Aside0.mk (below_step (by repeat (first | (with_reducible first | exact HB.out | apply below_alloc | apply pw_below_drewN | apply below_drew1 | refine below_set ?_ GE432.out) | exact HB.out)) hb); obtain ⟨Ao20, co20, eo20⟩ := Kd.R_slice HO436.out; subst eo20)); try go_wp2_with (first | (go_at_call 31; (with_reducible refine (nat_Nat_Limbs.calls _ _ t429 t434 _ ?side1 ?side2 A16.out).mono ?_); (case side1 => repeat (first | exact (Kd.R_reads' HO_433000.out).2.2 | (with_reducible refine Kd.C_alloc ?_ _) | (with_reducible refine Kd.C_drewN ?_ _) | (with_reducible refine Kd.C_drew ?_))); (case side2 => exact (Kd.R_reads' HO_433000.out).2.1); rintro e w19 ⟨v435, rfl, ho0, hb⟩; replace HO_0 := Aside0.mk (Kd.V_elder' (by (with_reducible repeat (first | apply Kd.V_alloc | apply Kd.V_drewN | apply Kd.V_drew)); exact HO_0.out) (Kd.R_base ho0) hb); have HO436 := Aside0.mk (Kd.R_lower (Kd.R_new' ho0 (Kd.R_lt (by (with_reducible repeat (first | apply Kd.R_alloc | apply Kd.R_drewN | apply Kd.R_drew)); exact HO_433000.out))) (below_size (by repeat (first | (with_reducible first | exact HB.out | apply below_alloc | apply pw_below_drewN | apply below_drew1 | refine below_set ?_ GE432.out) | exact HB.out)))); replace HO_433000 := Aside0.mk (Kd.R_elder' (by (with_reducible repeat (first | apply Kd.R_alloc | apply Kd.R_drewN | apply Kd.R_drew)); exact HO_433000.out) (Kd.R_base ho0) hb); replace BK432 := Aside0.mk (blk_below (g := gb432) (o := .cells #[.slice Ao9 t429.length co9] 25 (0, 0)) (by (with_reducible repeat (first | refine blk_drewN ?_ _ | refine blk_drew ?_ | refine blk_alloc ?_ _)); exact BK432.out) hb); replace HB := Aside0.mk (below_step (by repeat (first | (with_reducible first | exact HB.out | apply below_alloc | apply pw_below_drewN | apply below_drew1 | refine below_set ?_ GE432.out) | exact HB.out)) hb); obtain ⟨Ao20, co20, eo20⟩ := Kd.R_slice HO436.out; subst eo20)))
        (try simp only [Act.put, List.setIfInBounds_toArray, List.set_cons_zero, List.set_cons_succ])
        go_loopg [8, 9, 42] k1 (fun kq v8 v9 v42 w' => ∃ (x8_2 : Int) (x9_2 : Int) (x42_2 : Int), v8 = .int .i64 x8_2 ∧ v9 = .int .u64 x9_2 ∧ v42 = .int .i64 x42_2 ∧ Aside0 (numerarylaw02_NatMakes.l1 kq t426 a1 x6_1 t434 x8_2 x9_2 (t434.length : Int) x42_2 t429 = some r) ∧ Aside0 (kq ≤ k1) ∧ Aside0 (Kd.V (Kd.int .u32) 23 w' w.heap.size (fun k_ => some k_ ≠ ((.slice Ao20 t434.length co20) : Value).ownBlock ∧ some k_ ≠ ((.slice Ao9 t429.length co9) : Value).ownBlock ∧ k_ ≠ gb432) (.slice (some ad433) t426.length co6) t426) ∧ Aside0 (Kd.R (Kd.int .u32) 23 w' w.heap.size (fun k_ => some k_ ≠ ((.slice Ao9 t429.length co9) : Value).ownBlock) (.slice Ao20 t434.length co20) t434) ∧ Aside0 (Kd.R (Kd.int .u32) 23 w' w.heap.size (fun k_ => some k_ ≠ ((.slice Ao20 t434.length co20) : Value).ownBlock) (.slice Ao9 t429.length co9) t429) ∧ Aside0 (w'.heap[gb432]? = some (.cells #[(.slice Ao9 t429.length co9)] 25 (0, 0))) ∧ Aside0 (Below w.heap.size w w'))
        case atStart => exact ⟨(0), (0), (0), rfl, rfl, rfl, H', ⟨Nat.le_refl _⟩, ⟨by (with_reducible repeat (first | apply Kd.V_alloc | apply Kd.V_drewN | apply Kd.V_drew)); exact Kd.V_mono HO_0.out (fun _ hk => ⟨hk.2, ⟨hk.1.1, hk.1.2⟩⟩)⟩, ⟨by (with_reducible repeat (first | apply Kd.R_alloc | apply Kd.R_drewN | apply Kd.R_drew)); exact Kd.R_mono HO436.out (fun _ hk => hk.2)⟩, ⟨by (with_reducible repeat (first | apply Kd.R_alloc | apply Kd.R_drewN | apply Kd.R_drew)); exact Kd.R_mono HO_433000.out (fun _ hk => hk.2)⟩, ⟨by (with_reducible repeat (first | refine blk_drewN ?_ _ | refine blk_drew ?_ | refine blk_alloc ?_ _)); exact BK432.out⟩, ⟨by repeat (first | (with_reducible first | exact HB.out | apply below_alloc | apply pw_below_drewN | apply below_drew1 | refine below_set ?_ GE432.out) | exact HB.out)⟩⟩
        case round =>
          clear H'
          try clear c1
          try clear p2
          try clear p4
          try clear q4
          try clear hx4
          try clear c5
          try clear p6
          try clear c11
          try clear c11b0
          try clear c13
          try clear c13b0
          try clear c14
          try clear c14b0
          try clear c15
          try clear c15b0
          try clear c15b1
          try clear c17
          try clear c17b0
          try clear c17b1
          try clear hcz10_0
          try clear hcz18_0
          try clear hfz10_0
          try clear hfz18_0
          try clear hx433_0
          try clear p2
          try clear p433
          try clear q433
          obtain ⟨x8_2, x9_2, x42_2, rfl, rfl, rfl, HA, HK2, HO_0, HO_7, HO_433000, BK432, HB⟩ := hrel
          cases gk with
          | zero => exact absurd HA.out (by simp [numerarylaw02_NatMakes.l1])
          | succ k2 =>
            have H := HA.out
            clear HA
            simp only [numerarylaw02_NatMakes.l1] at H
            by_cases c21 : x42_2 < (t434.length : Int)
            · rw [if_pos c21] at H
              have c21b0 : decide (x42_2 < (t434.length : Int)) = true := decide_eq_true c21
              clear c21
              by_cases c22 : 0 ≤ x42_2
              rotate_left
              · rw [if_neg c22] at H
                exact absurd H (by simp)
              rw [if_pos c22] at H
              have c22b0 : decide (0 ≤ x42_2) = true := decide_eq_true c22
              clear c22
              by_cases c23 : x42_2 < (t434.length : Int)
              rotate_left
              · rw [if_neg c23] at H
                exact absurd H (by simp)
              rw [if_pos c23] at H
              have c23b0 : decide (x42_2 < (t434.length : Int)) = true := decide_eq_true c23
              clear c23
              by_cases c24 : x42_2 < (t426.length : Int)
              rotate_left
              · rw [if_neg c24] at H
                exact absurd H (by simp)
              rw [if_pos c24] at H
              have c24b0 : decide (x42_2 < (t426.length : Int)) = true := decide_eq_true c24
              clear c24
              by_cases c25 : (rd t434 x42_2) = (rd t426 x42_2)
              rotate_left
              · rw [if_neg c25] at H
                exact absurd (H.trans (congrArg some HR_.out)) (by simp)
              rw [if_pos c25] at H
              have c25b0 : ((rd t434 x42_2) == (rd t426 x42_2)) = true := beq_iff_eq.mpr c25
              have c25b1 : ((rd t434 x42_2) != (rd t426 x42_2)) = false := bne_eq_false_iff_eq.mpr c25
              clear c25
              have H' := Aside0.mk H
              clear H
              have p437 : 0 ≤ (x42_2 : Int) := of_decide_eq_true (by assumption)
              have q437 : x42_2 < (t434.length : Int) := of_decide_eq_true (by assumption)
              obtain ⟨ad437, e437, hx437_0⟩ := Kd.at_int (Kd.R_reads' HO_7.out).2.2 x42_2 p437 q437
              cases e437
              replace p437 := eq_true p437
              replace q437 := eq_true q437
              have p438 : 0 ≤ (x42_2 : Int) := of_decide_eq_true (by assumption)
              have q438 : x42_2 < (t426.length : Int) := of_decide_eq_true (by assumption)
              obtain ⟨ad438, e438, hx438_0⟩ := Kd.at_int (Kd.V_reads' HO_0.out).2.2 x42_2 p438 q438
              obtain rfl : ad433 = ad438 := (by injection e438)
              replace p438 := eq_true p438
              replace q438 := eq_true q438
              go_wp2
              repeat (go_quiet (fail); try go_wp2)
              (try simp only [Act.put, List.setIfInBounds_toArray, List.set_cons_zero, List.set_cons_succ])
              go_loopg [8, 54] k2 (fun kq v8 v54 w' => ∃ (x8_3 : Int) (x54_3 : Int), v8 = .int .i64 x8_3 ∧ v54 = .int .i64 x54_3 ∧ Aside0 (numerarylaw02_NatMakes.l2 kq t426 a1 x6_1 t434 x8_3 x9_2 x42_2 (t434.length : Int) x42_2 x54_3 t429 = some r) ∧ Aside0 (kq ≤ k2) ∧ Aside0 (Kd.V (Kd.int .u32) 23 w' w.heap.size (fun k_ => some k_ ≠ ((.slice (some ad437) t434.length co20) : Value).ownBlock ∧ some k_ ≠ ((.slice Ao9 t429.length co9) : Value).ownBlock ∧ k_ ≠ gb432) (.slice (some ad433) t426.length co6) t426) ∧ Aside0 (Kd.R (Kd.int .u32) 23 w' w.heap.size (fun k_ => some k_ ≠ ((.slice Ao9 t429.length co9) : Value).ownBlock) (.slice (some ad437) t434.length co20) t434) ∧ Aside0 (Kd.R (Kd.int .u32) 23 w' w.heap.size (fun k_ => some k_ ≠ ((.slice (some ad437) t434.length co20) : Value).ownBlock) (.slice Ao9 t429.length co9) t429) ∧ Aside0 (w'.heap[gb432]? = some (.cells #[(.slice Ao9 t429.length co9)] 25 (0, 0))) ∧ Aside0 (Below w.heap.size w w'))
              case atStart => exact ⟨(x8_2), (0), rfl, rfl, H', ⟨Nat.le_refl _⟩, ⟨by (with_reducible repeat (first | apply Kd.V_alloc | apply Kd.V_drewN | apply Kd.V_drew)); exact HO_0.out⟩, ⟨by (with_reducible repeat (first | apply Kd.R_alloc | apply Kd.R_drewN | apply Kd.R_drew)); exact HO_7.out⟩, ⟨by (with_reducible repeat (first | apply Kd.R_alloc | apply Kd.R_drewN | apply Kd.R_drew)); exact HO_433000.out⟩, ⟨by (with_reducible repeat (first | refine blk_drewN ?_ _ | refine blk_drew ?_ | refine blk_alloc ?_ _)); exact BK432.out⟩, ⟨by repeat (first | (with_reducible first | exact HB.out | apply below_alloc | apply pw_below_drewN | apply below_drew1 | refine below_set ?_ GE432.out) | exact HB.out)⟩⟩
              case round =>
                clear H'
                try clear c1
                try clear c2
                try clear p2
                try clear p4
                try clear q4
                try clear hx4
                try clear c5
                try clear p6
                try clear c11
                try clear c11b0
                try clear c13
                try clear c13b0
                try clear c14
                try clear c14b0
                try clear c15
                try clear c15b0
                try clear c15b1
                try clear c17
                try clear c17b0
                try clear c17b1
                try clear c21
                try clear c21b0
                try clear c22
                try clear c22b0
                try clear c23
                try clear c23b0
                try clear c24
                try clear c24b0
                try clear c25
                try clear c25b0
                try clear c25b1
                try clear hcz10_0
                try clear hcz18_0
                try clear hfz10_0
                try clear hfz18_0
                try clear hx433_0
                try clear hx437_0
                try clear hx438_0
                try clear p2
                try clear p4
                try clear p433
                try clear p437
                try clear p438
                try clear p6
                try clear q4
                try clear q433
                try clear q437
                try clear q438
                obtain ⟨x8_3, x54_3, rfl, rfl, HA, HK3, HO_0, HO_7, HO_433000, BK432, HB⟩ := hrel
                cases gk with
                | zero => exact absurd HA.out (by simp [numerarylaw02_NatMakes.l2])
                | succ k3 =>
                  have H := HA.out
                  clear HA
                  simp only [numerarylaw02_NatMakes.l2] at H
                  by_cases c26 : x54_3 < 32
                  rotate_left
                  · rw [if_neg c26] at H
                    have c26b0 : decide (x54_3 < 32) = false := decide_eq_false c26
                    clear c26
                    by_cases c32 : x42_2 < 2
                    rotate_left
                    · rw [if_neg c32] at H
                      have c32b0 : decide (x42_2 < 2) = false := decide_eq_false c32
                      clear c32
                      have H' := Aside0.mk H
                      clear H
                      go_wp2
                      repeat (go_quiet (fail); try go_wp2)
                      go_roundg k3
                      case measure => have := HK1.out; have := HK2.out; have := HK3.out; omega
                      case rel => exact ⟨(x8_3), (x9_2), (wrap64 (x42_2 + 1)), rfl, rfl, rfl, H', ⟨by have := HK1.out; have := HK2.out; have := HK3.out; omega⟩, ⟨by (with_reducible repeat (first | apply Kd.V_alloc | apply Kd.V_drewN | apply Kd.V_drew)); exact HO_0.out⟩, ⟨by (with_reducible repeat (first | apply Kd.R_alloc | apply Kd.R_drewN | apply Kd.R_drew)); exact HO_7.out⟩, ⟨by (with_reducible repeat (first | apply Kd.R_alloc | apply Kd.R_drewN | apply Kd.R_drew)); exact HO_433000.out⟩, ⟨by (with_reducible repeat (first | refine blk_drewN ?_ _ | refine blk_drew ?_ | refine blk_alloc ?_ _)); exact BK432.out⟩, ⟨by repeat (first | (with_reducible first | exact HB.out | apply below_alloc | apply pw_below_drewN | apply below_drew1 | refine below_set ?_ GE432.out) | exact HB.out)⟩⟩
                    rw [if_pos c32] at H
                    have c32b0 : decide (x42_2 < 2) = true := decide_eq_true c32
                    clear c32
                    by_cases c33 : 0 ≤ x42_2
                    rotate_left
                    · rw [if_neg c33] at H
                      exact absurd H (by simp)
                    rw [if_pos c33] at H
                    have c33b0 : decide (0 ≤ x42_2) = true := decide_eq_true c33
                    clear c33
                    by_cases c34 : x42_2 < (t426.length : Int)
                    rotate_left
                    · rw [if_neg c34] at H
                      exact absurd H (by simp)
                    rw [if_pos c34] at H
                    have c34b0 : decide (x42_2 < (t426.length : Int)) = true := decide_eq_true c34
                    clear c34
                    obtain ⟨ji35, hji35⟩ : ∃ j_ : Int, (wrap64 (32 * x42_2)) = j_ := ⟨_, rfl⟩
                    replace H : (if 0 ≤ (ji35) then (numerarylaw02_NatMakes.l1 k3 t426 a1 x6_1 t434 x8_3 (Go.bits .or .u64 x9_2 (shl .u64 (IntKind.u64.wrap (rd t426 x42_2)) (ji35))) (t434.length : Int) (wrap64 (x42_2 + 1)) t429) else (none)) = some r := by first | (rw [hji35] at H; exact H) | (simp only [hji35] at H ⊢; exact H)
                    have hji35w : (IntKind.i64.wrap (32 * x42_2)) = ji35 := (i64_w _).trans hji35
                    by_cases c36 : 0 ≤ (ji35)
                    rotate_left
                    · rw [if_neg c36] at H
                      exact absurd H (by simp)
                    rw [if_pos c36] at H
                    have c36b0 := eq_true c36
                    have c36b1 : decide (0 ≤ (ji35)) = true := decide_eq_true c36
                    clear c36
                    obtain ⟨ji37, hji37⟩ : ∃ j_ : Int, (shl .u64 (IntKind.u64.wrap (rd t426 x42_2)) (ji35)) = j_ := ⟨_, rfl⟩
                    replace H : (numerarylaw02_NatMakes.l1 k3 t426 a1 x6_1 t434 x8_3 (Go.bits .or .u64 x9_2 (ji37)) (t434.length : Int) (wrap64 (x42_2 + 1)) t429) = some r := by first | (rw [hji37] at H; exact H) | (simp only [hji37] at H ⊢; exact H)
                    have hji37_ : (IntKind.u64.wrap ((IntKind.u64.wrap (rd t426 x42_2)) * 2 ^ min (ji35).toNat 64)) = ji37 := hji37
                    have hji37z : (ji35) ≤ 64 → (IntKind.u64.wrap ((IntKind.u64.wrap (rd t426 x42_2)) * 2 ^ (ji35).toNat)) = ji37 := shl_small hji37
                    have H' := Aside0.mk H
                    clear H
                    have p440 : 0 ≤ (x42_2 : Int) := of_decide_eq_true (by assumption)
                    have q440 : x42_2 < (t426.length : Int) := of_decide_eq_true (by assumption)
                    obtain ⟨ad440, e440, hx440_0⟩ := Kd.at_int (Kd.V_reads' HO_0.out).2.2 x42_2 p440 q440
                    obtain rfl : ad433 = ad440 := (by injection e440)
                    replace p440 := eq_true p440
                    replace q440 := eq_true q440
                    go_wp2
                    repeat (go_quiet (fail); try go_wp2)
                    go_roundg k3
                    case measure => have := HK1.out; have := HK2.out; have := HK3.out; omega
                    case rel => exact ⟨(x8_3), (Go.bits .or .u64 x9_2 (ji37)), (wrap64 (x42_2 + 1)), rfl, (by first | rfl | (simp; done) | (simp only [← hji37] <;> (first | rfl | simp)) | (simp [*]; done)), rfl, H', ⟨by have := HK1.out; have := HK2.out; have := HK3.out; omega⟩, ⟨by (with_reducible repeat (first | apply Kd.V_alloc | apply Kd.V_drewN | apply Kd.V_drew)); exact HO_0.out⟩, ⟨by (with_reducible repeat (first | apply Kd.R_alloc | apply Kd.R_drewN | apply Kd.R_drew)); exact HO_7.out⟩, ⟨by (with_reducible repeat (first | apply Kd.R_alloc | apply Kd.R_drewN | apply Kd.R_drew)); exact HO_433000.out⟩, ⟨by (with_reducible repeat (first | refine blk_drewN ?_ _ | refine blk_drew ?_ | refine blk_alloc ?_ _)); exact BK432.out⟩, ⟨by repeat (first | (with_reducible first | exact HB.out | apply below_alloc | apply pw_below_drewN | apply below_drew1 | refine below_set ?_ GE432.out) | exact HB.out)⟩⟩
                  rw [if_pos c26] at H
                  have c26b0 : decide (x54_3 < 32) = true := decide_eq_true c26
                  clear c26
                  by_cases c27 : 0 ≤ x42_2
                  rotate_left
                  · rw [if_neg c27] at H
                    exact absurd H (by simp)
                  rw [if_pos c27] at H
                  have c27b0 : decide (0 ≤ x42_2) = true := decide_eq_true c27
                  clear c27
                  by_cases c28 : x42_2 < (t426.length : Int)
                  rotate_left
                  · rw [if_neg c28] at H
                    exact absurd H (by simp)
                  rw [if_pos c28] at H
                  have c28b0 : decide (x42_2 < (t426.length : Int)) = true := decide_eq_true c28
                  clear c28
                  by_cases c29 : 0 ≤ x54_3
                  rotate_left
                  · rw [if_neg c29] at H
                    exact absurd H (by simp)
                  rw [if_pos c29] at H
                  have c29b0 := eq_true c29
                  have c29b1 : decide (0 ≤ x54_3) = true := decide_eq_true c29
                  clear c29
                  obtain ⟨ji30, hji30⟩ : ∃ j_ : Int, (shr .u32 (rd t426 x42_2) x54_3) = j_ := ⟨_, rfl⟩
                  replace H : (if (Go.bits .and .u32 (ji30) 1) = 1 then (numerarylaw02_NatMakes.l2 k3 t426 a1 x6_1 t434 (wrap64 ((wrap64 ((wrap64 (32 * x42_2)) + x54_3)) + 1)) x9_2 x42_2 (t434.length : Int) x42_2 (wrap64 (x54_3 + 1)) t429) else (numerarylaw02_NatMakes.l2 k3 t426 a1 x6_1 t434 x8_3 x9_2 x42_2 (t434.length : Int) x42_2 (wrap64 (x54_3 + 1)) t429)) = some r := by first | (rw [hji30] at H; exact H) | (simp only [hji30] at H ⊢; exact H)
                  have hji30_ : ((rd t426 x42_2) / 2 ^ min x54_3.toNat 32) = ji30 := hji30
                  have hji30z : x54_3 ≤ 32 → ((rd t426 x42_2) / 2 ^ x54_3.toNat) = ji30 := shr_small hji30
                  by_cases c31 : (Go.bits .and .u32 (ji30) 1) = 1
                  rotate_left
                  · rw [if_neg c31] at H
                    have c31b0 : ((Go.bits .and .u32 (ji30) 1) == 1) = false := beq_eq_false_iff_ne.mpr c31
                    have c31b1 : ((Go.bits .and .u32 (ji30) 1) != 1) = true := bne_iff_ne.mpr c31
                    have H' := Aside0.mk H
                    clear H
                    have p439 : 0 ≤ (x42_2 : Int) := of_decide_eq_true (by assumption)
                    have q439 : x42_2 < (t426.length : Int) := of_decide_eq_true (by assumption)
                    obtain ⟨ad439, e439, hx439_0⟩ := Kd.at_int (Kd.V_reads' HO_0.out).2.2 x42_2 p439 q439
                    obtain rfl : ad433 = ad439 := (by injection e439)
                    replace p439 := eq_true p439
                    replace q439 := eq_true q439
                    go_wp2
                    repeat (go_quiet (fail); try go_wp2)
                    go_roundg k3
                    case measure => have := HK1.out; have := HK2.out; have := HK3.out; omega
                    case rel => exact ⟨(x8_3), (wrap64 (x54_3 + 1)), rfl, rfl, H', ⟨by have := HK1.out; have := HK2.out; have := HK3.out; omega⟩, ⟨by (with_reducible repeat (first | apply Kd.V_alloc | apply Kd.V_drewN | apply Kd.V_drew)); exact HO_0.out⟩, ⟨by (with_reducible repeat (first | apply Kd.R_alloc | apply Kd.R_drewN | apply Kd.R_drew)); exact HO_7.out⟩, ⟨by (with_reducible repeat (first | apply Kd.R_alloc | apply Kd.R_drewN | apply Kd.R_drew)); exact HO_433000.out⟩, ⟨by (with_reducible repeat (first | refine blk_drewN ?_ _ | refine blk_drew ?_ | refine blk_alloc ?_ _)); exact BK432.out⟩, ⟨by repeat (first | (with_reducible first | exact HB.out | apply below_alloc | apply pw_below_drewN | apply below_drew1 | refine below_set ?_ GE432.out) | exact HB.out)⟩⟩
                  rw [if_pos c31] at H
                  have c31b0 : ((Go.bits .and .u32 (ji30) 1) == 1) = true := beq_iff_eq.mpr c31
                  have c31b1 : ((Go.bits .and .u32 (ji30) 1) != 1) = false := bne_eq_false_iff_eq.mpr c31
                  clear c31
                  have H' := Aside0.mk H
                  clear H
                  have p439 : 0 ≤ (x42_2 : Int) := of_decide_eq_true (by assumption)
                  have q439 : x42_2 < (t426.length : Int) := of_decide_eq_true (by assumption)
                  obtain ⟨ad439, e439, hx439_0⟩ := Kd.at_int (Kd.V_reads' HO_0.out).2.2 x42_2 p439 q439
                  obtain rfl : ad433 = ad439 := (by injection e439)
                  replace p439 := eq_true p439
                  replace q439 := eq_true q439
                  go_wp2
                  repeat (go_quiet (fail); try go_wp2)
                  go_roundg k3
                  case measure => have := HK1.out; have := HK2.out; have := HK3.out; omega
                  case rel => exact ⟨(wrap64 ((wrap64 ((wrap64 (32 * x42_2)) + x54_3)) + 1)), (wrap64 (x54_3 + 1)), rfl, rfl, H', ⟨by have := HK1.out; have := HK2.out; have := HK3.out; omega⟩, ⟨by (with_reducible repeat (first | apply Kd.V_alloc | apply Kd.V_drewN | apply Kd.V_drew)); exact HO_0.out⟩, ⟨by (with_reducible repeat (first | apply Kd.R_alloc | apply Kd.R_drewN | apply Kd.R_drew)); exact HO_7.out⟩, ⟨by (with_reducible repeat (first | apply Kd.R_alloc | apply Kd.R_drewN | apply Kd.R_drew)); exact HO_433000.out⟩, ⟨by (with_reducible repeat (first | refine blk_drewN ?_ _ | refine blk_drew ?_ | refine blk_alloc ?_ _)); exact BK432.out⟩, ⟨by repeat (first | (with_reducible first | exact HB.out | apply below_alloc | apply pw_below_drewN | apply below_drew1 | refine below_set ?_ GE432.out) | exact HB.out)⟩⟩
            rw [if_neg c21] at H
            have c21b0 : decide (x42_2 < (t434.length : Int)) = false := decide_eq_false c21
            clear c21
            by_cases c38 : x6_1 > 2
            · rw [if_pos c38] at H
              have c38b0 : decide (2 < x6_1) = true := decide_eq_true c38
              clear c38
              replace H := Option.bind_eq_some_iff.mp H
              obtain ⟨⟨t441, t442⟩, A390, H⟩ := H
              have A39 := Aside0.mk A390
              clear A390
              replace H := Option.bind_eq_some_iff.mp H
              obtain ⟨t443, A400, H⟩ := H
              have A40 := Aside0.mk A400
              clear A400
              replace H := Option.bind_eq_some_iff.mp H
              obtain ⟨⟨t446, t447⟩, A410, H⟩ := H
              have A41 := Aside0.mk A410
              clear A410
              replace H := Option.bind_eq_some_iff.mp H
              obtain ⟨t448, A420, H⟩ := H
              have A42 := Aside0.mk A420
              clear A420
              by_cases c43 : t448 = true
              rotate_left
              · replace c43 := Bool.eq_false_iff.mpr c43
                subst c43
                have H1 : (some false) = some r := by rw [if_neg (show ¬ (false = true) by decide)] at H; exact H
                clear H
                have H := H1
                clear H1
                exact absurd (H.trans (congrArg some HR_.out)) (by simp)
              subst c43
              have H1 : ((nat_Nat_Bits.f t429).bind fun t449 => (if t449 = x8_2 then (if (t442 == (decide (x6_1 ≤ 2))) = true then (if t441 = 0 then (if t447 = true then (if t446 = a1 then ((nat_Of.f k2 a1).bind fun t450 => ((numerarylaw02_of.f k2 t450).bind fun t453 => ((numeraryref02_Of.f k2 a1).bind fun t456 => ((numerarylaw02_same.f k2 t453 t456).bind fun t459 => (some t459))))) else (some false)) else (some false)) else (some false)) else (some false)) else (some false))) = some r := by rw [if_pos rfl] at H; exact H
              clear H
              have H := H1
              clear H1
              replace H := Option.bind_eq_some_iff.mp H
              obtain ⟨t449, A440, H⟩ := H
              have A44 := Aside0.mk A440
              clear A440
              by_cases c45 : t449 = x8_2
              rotate_left
              · rw [if_neg c45] at H
                exact absurd (H.trans (congrArg some HR_.out)) (by simp)
              rw [if_pos c45] at H
              have c45b0 : (t449 == x8_2) = true := beq_iff_eq.mpr c45
              have c45b1 : (t449 != x8_2) = false := bne_eq_false_iff_eq.mpr c45
              clear c45
              by_cases c46 : (t442 == (decide (x6_1 ≤ 2))) = true
              rotate_left
              · rw [if_neg c46] at H
                exact absurd (H.trans (congrArg some HR_.out)) (by simp)
              rw [if_pos c46] at H
              have c46b0 : (t442 == (decide (x6_1 ≤ 2))) = true := c46
              (try (have c46b1 : decide (t442 = (decide (x6_1 ≤ 2))) = true := by simpa using c46))
              (try (have c46b2 : (t442 == (decide (x6_1 ≤ 2))) = true := by simpa using c46))
              clear c46
              by_cases c47 : t441 = 0
              rotate_left
              · rw [if_neg c47] at H
                exact absurd (H.trans (congrArg some HR_.out)) (by simp)
              rw [if_pos c47] at H
              have c47b0 : (t441 == 0) = true := beq_iff_eq.mpr c47
              have c47b1 : (t441 != 0) = false := bne_eq_false_iff_eq.mpr c47
              clear c47
              by_cases c48 : t447 = true
              rotate_left
              · replace c48 := Bool.eq_false_iff.mpr c48
                subst c48
                have H1 : (some false) = some r := by rw [if_neg (show ¬ (false = true) by decide)] at H; exact H
                clear H
                have H := H1
                clear H1
                exact absurd (H.trans (congrArg some HR_.out)) (by simp)
              subst c48
              have H1 : (if t446 = a1 then ((nat_Of.f k2 a1).bind fun t450 => ((numerarylaw02_of.f k2 t450).bind fun t453 => ((numeraryref02_Of.f k2 a1).bind fun t456 => ((numerarylaw02_same.f k2 t453 t456).bind fun t459 => (some t459))))) else (some false)) = some r := by rw [if_pos rfl] at H; exact H
              clear H
              have H := H1
              clear H1
              by_cases c49 : t446 = a1
              rotate_left
              · rw [if_neg c49] at H
                exact absurd (H.trans (congrArg some HR_.out)) (by simp)
              rw [if_pos c49] at H
              have c49b0 : (t446 == a1) = true := beq_iff_eq.mpr c49
              have c49b1 : (t446 != a1) = false := bne_eq_false_iff_eq.mpr c49
              clear c49
              replace H := Option.bind_eq_some_iff.mp H
              obtain ⟨t450, A500, H⟩ := H
              have A50 := Aside0.mk A500
              clear A500
              replace H := Option.bind_eq_some_iff.mp H
              obtain ⟨t453, A510, H⟩ := H
              have A51 := Aside0.mk A510
              clear A510
              replace H := Option.bind_eq_some_iff.mp H
              obtain ⟨t456, A520, H⟩ := H
              have A52 := Aside0.mk A520
              clear A520
              replace H := Option.bind_eq_some_iff.mp H
              obtain ⟨t459, A530, H⟩ := H
              have A53 := Aside0.mk A530
              clear A530
              obtain rfl := Option.some.inj H
              have hcz54_0 : wr.cell? ⟨gb432, 0, none⟩ = some (.slice Ao9 t429.length co9) := (blk_cell BK432.out 0).trans rfl
              have hfz54_0 := blk_frozen BK432.out 0
              go_wp2_with (first | (go_at_call 29; (fail_if_success have z_ := w55); (with_reducible refine (nat_Nat_Small.calls k2 _ _ t429 t441 t442 _ ?side1 ?side2 A39.out).mono ?_); (case side1 => repeat (first | exact (Kd.R_reads' HO_433000.out).2.2 | (with_reducible refine Kd.C_alloc ?_ _) | (with_reducible refine Kd.C_drewN ?_ _) | (with_reducible refine Kd.C_drew ?_))); (case side2 => exact (Kd.R_reads' HO_433000.out).2.1); rintro e w55 ⟨rfl, hb⟩; replace HO_0 := Aside0.mk (Kd.V_below (by (with_reducible repeat (first | apply Kd.V_alloc | apply Kd.V_drewN | apply Kd.V_drew)); exact HO_0.out) hb); replace HO_7 := Aside0.mk (Kd.R_below (by (with_reducible repeat (first | apply Kd.R_alloc | apply Kd.R_drewN | apply Kd.R_drew)); exact HO_7.out) hb); replace HO_433000 := Aside0.mk (Kd.R_below (by (with_reducible repeat (first | apply Kd.R_alloc | apply Kd.R_drewN | apply Kd.R_drew)); exact HO_433000.out) hb); replace BK432 := Aside0.mk (blk_below (g := gb432) (o := .cells #[.slice Ao9 t429.length co9] 25 (0, 0)) (by (with_reducible repeat (first | refine blk_drewN ?_ _ | refine blk_drew ?_ | refine blk_alloc ?_ _)); exact BK432.out) hb); replace HB := Aside0.mk (below_step (by repeat (first | (with_reducible first | exact HB.out | apply below_alloc | apply pw_below_drewN | apply below_drew1 | refine below_set ?_ GE432.out) | exact HB.out)) hb)) | (go_at_call 26; (fail_if_success have z_ := w56); (with_reducible refine (nat_Of.calls k2 a1 t443 _ A40.out).mono ?_); rintro e w56 ⟨v444, rfl, ho0, hb⟩; replace HO_0 := Aside0.mk (Kd.V_elder' (by (with_reducible repeat (first | apply Kd.V_alloc | apply Kd.V_drewN | apply Kd.V_drew)); exact HO_0.out) (Kd.R_base ho0) hb); have HO445 := Aside0.mk (Kd.R_lower (Kd.R_new' (Kd.R_new' ho0 (Kd.R_lt (by (with_reducible repeat (first | apply Kd.R_alloc | apply Kd.R_drewN | apply Kd.R_drew)); exact HO_7.out))) (Kd.R_lt (by (with_reducible repeat (first | apply Kd.R_alloc | apply Kd.R_drewN | apply Kd.R_drew)); exact HO_433000.out))) (below_size (by repeat (first | (with_reducible first | exact HB.out | apply below_alloc | apply pw_below_drewN | apply below_drew1 | refine below_set ?_ GE432.out) | exact HB.out)))); replace HO_7 := Aside0.mk (Kd.R_elder' (by (with_reducible repeat (first | apply Kd.R_alloc | apply Kd.R_drewN | apply Kd.R_drew)); exact HO_7.out) (Kd.R_base ho0) hb); replace HO_433000 := Aside0.mk (Kd.R_elder' (by (with_reducible repeat (first | apply Kd.R_alloc | apply Kd.R_drewN | apply Kd.R_drew)); exact HO_433000.out) (Kd.R_base ho0) hb); replace BK432 := Aside0.mk (blk_below (g := gb432) (o := .cells #[.slice Ao9 t429.length co9] 25 (0, 0)) (by (with_reducible repeat (first | refine blk_drewN ?_ _ | refine blk_drew ?_ | refine blk_alloc ?_ _)); exact BK432.out) hb); replace HB := Aside0.mk (below_step (by repeat (first | (with_reducible first | exact HB.out | apply below_alloc | apply pw_below_drewN | apply below_drew1 | refine below_set ?_ GE432.out) | exact HB.out)) hb); obtain ⟨Ao57, co57, eo57⟩ := Kd.R_slice HO445.out; subst eo57) | (go_at_call 29; (with_reducible refine (nat_Nat_Small.calls k2 _ _ t443 t446 true _ ?side1 ?side2 A41.out).mono ?_); (case side1 => repeat (first | exact (Kd.R_reads' HO445.out).2.2 | (with_reducible refine Kd.C_alloc ?_ _) | (with_reducible refine Kd.C_drewN ?_ _) | (with_reducible refine Kd.C_drew ?_))); (case side2 => exact (Kd.R_reads' HO445.out).2.1); rintro e w58 ⟨rfl, hb⟩; replace HO_0 := Aside0.mk (Kd.V_below (by (with_reducible repeat (first | apply Kd.V_alloc | apply Kd.V_drewN | apply Kd.V_drew)); exact HO_0.out) hb); replace HO_7 := Aside0.mk (Kd.R_below (by (with_reducible repeat (first | apply Kd.R_alloc | apply Kd.R_drewN | apply Kd.R_drew)); exact HO_7.out) hb); replace HO_433000 := Aside0.mk (Kd.R_below (by (with_reducible repeat (first | apply Kd.R_alloc | apply Kd.R_drewN | apply Kd.R_drew)); exact HO_433000.out) hb); replace HO445 := Aside0.mk (Kd.R_below (by (with_reducible repeat (first | apply Kd.R_alloc | apply Kd.R_drewN | apply Kd.R_drew)); exact HO445.out) hb); replace BK432 := Aside0.mk (blk_below (g := gb432) (o := .cells #[.slice Ao9 t429.length co9] 25 (0, 0)) (by (with_reducible repeat (first | refine blk_drewN ?_ _ | refine blk_drew ?_ | refine blk_alloc ?_ _)); exact BK432.out) hb); replace HB := Aside0.mk (below_step (by repeat (first | (with_reducible first | exact HB.out | apply below_alloc | apply pw_below_drewN | apply below_drew1 | refine below_set ?_ GE432.out) | exact HB.out)) hb)) | (go_at_call 32; (with_reducible refine (numerarylaw02_wakes.calls k2  true _ A42.out).mono ?_); rintro e w59 ⟨rfl, hb⟩; replace HO_0 := Aside0.mk (Kd.V_below (by (with_reducible repeat (first | apply Kd.V_alloc | apply Kd.V_drewN | apply Kd.V_drew)); exact HO_0.out) hb); replace HO_7 := Aside0.mk (Kd.R_below (by (with_reducible repeat (first | apply Kd.R_alloc | apply Kd.R_drewN | apply Kd.R_drew)); exact HO_7.out) hb); replace HO_433000 := Aside0.mk (Kd.R_below (by (with_reducible repeat (first | apply Kd.R_alloc | apply Kd.R_drewN | apply Kd.R_drew)); exact HO_433000.out) hb); replace HO445 := Aside0.mk (Kd.R_below (by (with_reducible repeat (first | apply Kd.R_alloc | apply Kd.R_drewN | apply Kd.R_drew)); exact HO445.out) hb); replace BK432 := Aside0.mk (blk_below (g := gb432) (o := .cells #[.slice Ao9 t429.length co9] 25 (0, 0)) (by (with_reducible repeat (first | refine blk_drewN ?_ _ | refine blk_drew ?_ | refine blk_alloc ?_ _)); exact BK432.out) hb); replace HB := Aside0.mk (below_step (by repeat (first | (with_reducible first | exact HB.out | apply below_alloc | apply pw_below_drewN | apply below_drew1 | refine below_set ?_ GE432.out) | exact HB.out)) hb); have hcz60_0 : w59.cell? ⟨gb432, 0, none⟩ = some (.slice Ao9 t429.length co9) := (blk_cell BK432.out 0).trans rfl; have hfz60_0 := blk_frozen BK432.out 0) | (go_at_call 33; (with_reducible refine (nat_Nat_Bits.calls _ _ t429 t449 _ ?side1 ?side2 A44.out).mono ?_); (case side1 => repeat (first | exact (Kd.R_reads' HO_433000.out).2.2 | (with_reducible refine Kd.C_alloc ?_ _) | (with_reducible refine Kd.C_drewN ?_ _) | (with_reducible refine Kd.C_drew ?_))); (case side2 => exact (Kd.R_reads' HO_433000.out).2.1); rintro e w61 ⟨rfl, hb⟩; replace HO_0 := Aside0.mk (Kd.V_below (by (with_reducible repeat (first | apply Kd.V_alloc | apply Kd.V_drewN | apply Kd.V_drew)); exact HO_0.out) hb); replace HO_7 := Aside0.mk (Kd.R_below (by (with_reducible repeat (first | apply Kd.R_alloc | apply Kd.R_drewN | apply Kd.R_drew)); exact HO_7.out) hb); replace HO_433000 := Aside0.mk (Kd.R_below (by (with_reducible repeat (first | apply Kd.R_alloc | apply Kd.R_drewN | apply Kd.R_drew)); exact HO_433000.out) hb); replace HO445 := Aside0.mk (Kd.R_below (by (with_reducible repeat (first | apply Kd.R_alloc | apply Kd.R_drewN | apply Kd.R_drew)); exact HO445.out) hb); replace BK432 := Aside0.mk (blk_below (g := gb432) (o := .cells #[.slice Ao9 t429.length co9] 25 (0, 0)) (by (with_reducible repeat (first | refine blk_drewN ?_ _ | refine blk_drew ?_ | refine blk_alloc ?_ _)); exact BK432.out) hb); replace HB := Aside0.mk (below_step (by repeat (first | (with_reducible first | exact HB.out | apply below_alloc | apply pw_below_drewN | apply below_drew1 | refine below_set ?_ GE432.out) | exact HB.out)) hb)) | (go_at_call 26; (with_reducible refine (nat_Of.calls k2 a1 t450 _ A50.out).mono ?_); rintro e w62 ⟨v451, rfl, ho0, hb⟩; replace HO_0 := Aside0.mk (Kd.V_elder' (by (with_reducible repeat (first | apply Kd.V_alloc | apply Kd.V_drewN | apply Kd.V_drew)); exact HO_0.out) (Kd.R_base ho0) hb); have HO452 := Aside0.mk (Kd.R_lower (Kd.R_new' (Kd.R_new' (Kd.R_new' ho0 (Kd.R_lt (by (with_reducible repeat (first | apply Kd.R_alloc | apply Kd.R_drewN | apply Kd.R_drew)); exact HO_7.out))) (Kd.R_lt (by (with_reducible repeat (first | apply Kd.R_alloc | apply Kd.R_drewN | apply Kd.R_drew)); exact HO_433000.out))) (Kd.R_lt (by (with_reducible repeat (first | apply Kd.R_alloc | apply Kd.R_drewN | apply Kd.R_drew)); exact HO445.out))) (below_size (by repeat (first | (with_reducible first | exact HB.out | apply below_alloc | apply pw_below_drewN | apply below_drew1 | refine below_set ?_ GE432.out) | exact HB.out)))); replace HO_7 := Aside0.mk (Kd.R_elder' (by (with_reducible repeat (first | apply Kd.R_alloc | apply Kd.R_drewN | apply Kd.R_drew)); exact HO_7.out) (Kd.R_base ho0) hb); replace HO_433000 := Aside0.mk (Kd.R_elder' (by (with_reducible repeat (first | apply Kd.R_alloc | apply Kd.R_drewN | apply Kd.R_drew)); exact HO_433000.out) (Kd.R_base ho0) hb); replace HO445 := Aside0.mk (Kd.R_elder' (by (with_reducible repeat (first | apply Kd.R_alloc | apply Kd.R_drewN | apply Kd.R_drew)); exact HO445.out) (Kd.R_base ho0) hb); replace BK432 := Aside0.mk (blk_below (g := gb432) (o := .cells #[.slice Ao9 t429.length co9] 25 (0, 0)) (by (with_reducible repeat (first | refine blk_drewN ?_ _ | refine blk_drew ?_ | refine blk_alloc ?_ _)); exact BK432.out) hb); replace HB := Aside0.mk (below_step (by repeat (first | (with_reducible first | exact HB.out | apply below_alloc | apply pw_below_drewN | apply below_drew1 | refine below_set ?_ GE432.out) | exact HB.out)) hb); obtain ⟨Ao63, co63, eo63⟩ := Kd.R_slice HO452.out; subst eo63) | (go_at_call 35; (with_reducible refine (numerarylaw02_of.calls k2 _ _ t450 t453 _ ?side1 ?side2 A51.out).mono ?_); (case side1 => repeat (first | exact (Kd.R_reads' HO452.out).2.2 | (with_reducible refine Kd.C_alloc ?_ _) | (with_reducible refine Kd.C_drewN ?_ _) | (with_reducible refine Kd.C_drew ?_))); (case side2 => exact (Kd.R_reads' HO452.out).2.1); rintro e w64 ⟨v454, rfl, ho0, hb⟩; replace HO_0 := Aside0.mk (Kd.V_elder' (by (with_reducible repeat (first | apply Kd.V_alloc | apply Kd.V_drewN | apply Kd.V_drew)); exact HO_0.out) (Kd.R_base ho0) hb); replace HO_7 := Aside0.mk (Kd.R_below (by (with_reducible repeat (first | apply Kd.R_alloc | apply Kd.R_drewN | apply Kd.R_drew)); exact HO_7.out) hb); replace HO_433000 := Aside0.mk (Kd.R_below (by (with_reducible repeat (first | apply Kd.R_alloc | apply Kd.R_drewN | apply Kd.R_drew)); exact HO_433000.out) hb); replace HO445 := Aside0.mk (Kd.R_below (by (with_reducible repeat (first | apply Kd.R_alloc | apply Kd.R_drewN | apply Kd.R_drew)); exact HO445.out) hb); replace HO452 := Aside0.mk (Kd.R_below (by (with_reducible repeat (first | apply Kd.R_alloc | apply Kd.R_drewN | apply Kd.R_drew)); exact HO452.out) hb); have HO455 := Aside0.mk (Kd.R_lower ho0 (below_size (by repeat (first | (with_reducible first | exact HB.out | apply below_alloc | apply pw_below_drewN | apply below_drew1 | refine below_set ?_ GE432.out) | exact HB.out)))); replace BK432 := Aside0.mk (blk_below (g := gb432) (o := .cells #[.slice Ao9 t429.length co9] 25 (0, 0)) (by (with_reducible repeat (first | refine blk_drewN ?_ _ | refine blk_drew ?_ | refine blk_alloc ?_ _)); exact BK432.out) hb); replace HB := Aside0.mk (below_step (by repeat (first | (with_reducible first | exact HB.out | apply below_alloc | apply pw_below_drewN | apply below_drew1 | refine below_set ?_ GE432.out) | exact HB.out)) hb)) | (go_at_call 27; (with_reducible refine (numeraryref02_Of.calls k2 a1 t456 _ A52.out).mono ?_); rintro e w65 ⟨v457, rfl, ho0, hb⟩; replace HO_0 := Aside0.mk (Kd.V_elder' (by (with_reducible repeat (first | apply Kd.V_alloc | apply Kd.V_drewN | apply Kd.V_drew)); exact HO_0.out) (Kd.R_base ho0) hb); replace HO_7 := Aside0.mk (Kd.R_below (by (with_reducible repeat (first | apply Kd.R_alloc | apply Kd.R_drewN | apply Kd.R_drew)); exact HO_7.out) hb); replace HO_433000 := Aside0.mk (Kd.R_below (by (with_reducible repeat (first | apply Kd.R_alloc | apply Kd.R_drewN | apply Kd.R_drew)); exact HO_433000.out) hb); replace HO445 := Aside0.mk (Kd.R_below (by (with_reducible repeat (first | apply Kd.R_alloc | apply Kd.R_drewN | apply Kd.R_drew)); exact HO445.out) hb); replace HO452 := Aside0.mk (Kd.R_below (by (with_reducible repeat (first | apply Kd.R_alloc | apply Kd.R_drewN | apply Kd.R_drew)); exact HO452.out) hb); have HO458 := Aside0.mk (Kd.R_lower (Kd.R_new' ho0 (Kd.R_lt (by (with_reducible repeat (first | apply Kd.R_alloc | apply Kd.R_drewN | apply Kd.R_drew)); exact HO455.out))) (below_size (by repeat (first | (with_reducible first | exact HB.out | apply below_alloc | apply pw_below_drewN | apply below_drew1 | refine below_set ?_ GE432.out) | exact HB.out)))); replace HO455 := Aside0.mk (Kd.R_elder' (by (with_reducible repeat (first | apply Kd.R_alloc | apply Kd.R_drewN | apply Kd.R_drew)); exact HO455.out) (Kd.R_base ho0) hb); replace BK432 := Aside0.mk (blk_below (g := gb432) (o := .cells #[.slice Ao9 t429.length co9] 25 (0, 0)) (by (with_reducible repeat (first | refine blk_drewN ?_ _ | refine blk_drew ?_ | refine blk_alloc ?_ _)); exact BK432.out) hb); replace HB := Aside0.mk (below_step (by repeat (first | (with_reducible first | exact HB.out | apply below_alloc | apply pw_below_drewN | apply below_drew1 | refine below_set ?_ GE432.out) | exact HB.out)) hb); obtain ⟨Ao66, co66, eo66⟩ := Kd.R_slice HO455.out; subst eo66; obtain ⟨Ao67, co67, eo67⟩ := Kd.R_slice HO458.out; subst eo67) | (go_at_call 34; (with_reducible refine (numerarylaw02_same.calls k2 _ _ t453 _ _ t456 t459 _ ?side1 ?side2 ?side3 ?side4 A53.out).mono ?_); (case side1 => repeat (first | exact (Kd.R_reads' HO455.out).2.2 | (with_reducible refine Kd.C_alloc ?_ _) | (with_reducible refine Kd.C_drewN ?_ _) | (with_reducible refine Kd.C_drew ?_))); (case side2 => exact (Kd.R_reads' HO455.out).2.1); (case side3 => repeat (first | exact (Kd.R_reads' HO458.out).2.2 | (with_reducible refine Kd.C_alloc ?_ _) | (with_reducible refine Kd.C_drewN ?_ _) | (with_reducible refine Kd.C_drew ?_))); (case side4 => exact (Kd.R_reads' HO458.out).2.1); rintro e w' ⟨rfl, ⟨nd, rfl⟩⟩; (try first | exact ⟨rfl, _, World.drewN_drewN _ _ _⟩ | exact ⟨rfl, _, Eq.trans (World.drewN_drewN _ _ _) (congrArg (World.drewN _) (Nat.add_assoc _ _ _))⟩)))
              repeat (go_quiet (first | (go_at_call 29; (fail_if_success have z_ := w55); (with_reducible refine (nat_Nat_Small.calls k2 _ _ t429 t441 t442 _ ?side1 ?side2 A39.out).mono ?_); (case side1 => repeat (first | exact (Kd.R_reads' HO_433000.out).2.2 | (with_reducible refine Kd.C_alloc ?_ _) | (with_reducible refine Kd.C_drewN ?_ _) | (with_reducible refine Kd.C_drew ?_))); (case side2 => exact (Kd.R_reads' HO_433000.out).2.1); rintro e w55 ⟨rfl, hb⟩; replace HO_0 := Aside0.mk (Kd.V_below (by (with_reducible repeat (first | apply Kd.V_alloc | apply Kd.V_drewN | apply Kd.V_drew)); exact HO_0.out) hb); replace HO_7 := Aside0.mk (Kd.R_below (by (with_reducible repeat (first | apply Kd.R_alloc | apply Kd.R_drewN | apply Kd.R_drew)); exact HO_7.out) hb); replace HO_433000 := Aside0.mk (Kd.R_below (by (with_reducible repeat (first | apply Kd.R_alloc | apply Kd.R_drewN | apply Kd.R_drew)); exact HO_433000.out) hb); replace BK432 := Aside0.mk (blk_below (g := gb432) (o := .cells #[.slice Ao9 t429.length co9] 25 (0, 0)) (by (with_reducible repeat (first | refine blk_drewN ?_ _ | refine blk_drew ?_ | refine blk_alloc ?_ _)); exact BK432.out) hb); replace HB := Aside0.mk (below_step (by repeat (first | (with_reducible first | exact HB.out | apply below_alloc | apply pw_below_drewN | apply below_drew1 | refine below_set ?_ GE432.out) | exact HB.out)) hb)) | (go_at_call 26; (fail_if_success have z_ := w56); (with_reducible refine (nat_Of.calls k2 a1 t443 _ A40.out).mono ?_); rintro e w56 ⟨v444, rfl, ho0, hb⟩; replace HO_0 := Aside0.mk (Kd.V_elder' (by (with_reducible repeat (first | apply Kd.V_alloc | apply Kd.V_drewN | apply Kd.V_drew)); exact HO_0.out) (Kd.R_base ho0) hb); have HO445 := Aside0.mk (Kd.R_lower (Kd.R_new' (Kd.R_new' ho0 (Kd.R_lt (by (with_reducible repeat (first | apply Kd.R_alloc | apply Kd.R_drewN | apply Kd.R_drew)); exact HO_7.out))) (Kd.R_lt (by (with_reducible repeat (first | apply Kd.R_alloc | apply Kd.R_drewN | apply Kd.R_drew)); exact HO_433000.out))) (below_size (by repeat (first | (with_reducible first | exact HB.out | apply below_alloc | apply pw_below_drewN | apply below_drew1 | refine below_set ?_ GE432.out) | exact HB.out)))); replace HO_7 := Aside0.mk (Kd.R_elder' (by (with_reducible repeat (first | apply Kd.R_alloc | apply Kd.R_drewN | apply Kd.R_drew)); exact HO_7.out) (Kd.R_base ho0) hb); replace HO_433000 := Aside0.mk (Kd.R_elder' (by (with_reducible repeat (first | apply Kd.R_alloc | apply Kd.R_drewN | apply Kd.R_drew)); exact HO_433000.out) (Kd.R_base ho0) hb); replace BK432 := Aside0.mk (blk_below (g := gb432) (o := .cells #[.slice Ao9 t429.length co9] 25 (0, 0)) (by (with_reducible repeat (first | refine blk_drewN ?_ _ | refine blk_drew ?_ | refine blk_alloc ?_ _)); exact BK432.out) hb); replace HB := Aside0.mk (below_step (by repeat (first | (with_reducible first | exact HB.out | apply below_alloc | apply pw_below_drewN | apply below_drew1 | refine below_set ?_ GE432.out) | exact HB.out)) hb); obtain ⟨Ao57, co57, eo57⟩ := Kd.R_slice HO445.out; subst eo57) | (go_at_call 29; (fail_if_success have z_ := w58); (with_reducible refine (nat_Nat_Small.calls k2 _ _ t443 t446 true _ ?side1 ?side2 A41.out).mono ?_); (case side1 => repeat (first | exact (Kd.R_reads' HO445.out).2.2 | (with_reducible refine Kd.C_alloc ?_ _) | (with_reducible refine Kd.C_drewN ?_ _) | (with_reducible refine Kd.C_drew ?_))); (case side2 => exact (Kd.R_reads' HO445.out).2.1); rintro e w58 ⟨rfl, hb⟩; replace HO_0 := Aside0.mk (Kd.V_below (by (with_reducible repeat (first | apply Kd.V_alloc | apply Kd.V_drewN | apply Kd.V_drew)); exact HO_0.out) hb); replace HO_7 := Aside0.mk (Kd.R_below (by (with_reducible repeat (first | apply Kd.R_alloc | apply Kd.R_drewN | apply Kd.R_drew)); exact HO_7.out) hb); replace HO_433000 := Aside0.mk (Kd.R_below (by (with_reducible repeat (first | apply Kd.R_alloc | apply Kd.R_drewN | apply Kd.R_drew)); exact HO_433000.out) hb); replace HO445 := Aside0.mk (Kd.R_below (by (with_reducible repeat (first | apply Kd.R_alloc | apply Kd.R_drewN | apply Kd.R_drew)); exact HO445.out) hb); replace BK432 := Aside0.mk (blk_below (g := gb432) (o := .cells #[.slice Ao9 t429.length co9] 25 (0, 0)) (by (with_reducible repeat (first | refine blk_drewN ?_ _ | refine blk_drew ?_ | refine blk_alloc ?_ _)); exact BK432.out) hb); replace HB := Aside0.mk (below_step (by repeat (first | (with_reducible first | exact HB.out | apply below_alloc | apply pw_below_drewN | apply below_drew1 | refine below_set ?_ GE432.out) | exact HB.out)) hb)) | (go_at_call 32; (fail_if_success have z_ := w59); (with_reducible refine (numerarylaw02_wakes.calls k2  true _ A42.out).mono ?_); rintro e w59 ⟨rfl, hb⟩; replace HO_0 := Aside0.mk (Kd.V_below (by (with_reducible repeat (first | apply Kd.V_alloc | apply Kd.V_drewN | apply Kd.V_drew)); exact HO_0.out) hb); replace HO_7 := Aside0.mk (Kd.R_below (by (with_reducible repeat (first | apply Kd.R_alloc | apply Kd.R_drewN | apply Kd.R_drew)); exact HO_7.out) hb); replace HO_433000 := Aside0.mk (Kd.R_below (by (with_reducible repeat (first | apply Kd.R_alloc | apply Kd.R_drewN | apply Kd.R_drew)); exact HO_433000.out) hb); replace HO445 := Aside0.mk (Kd.R_below (by (with_reducible repeat (first | apply Kd.R_alloc | apply Kd.R_drewN | apply Kd.R_drew)); exact HO445.out) hb); replace BK432 := Aside0.mk (blk_below (g := gb432) (o := .cells #[.slice Ao9 t429.length co9] 25 (0, 0)) (by (with_reducible repeat (first | refine blk_drewN ?_ _ | refine blk_drew ?_ | refine blk_alloc ?_ _)); exact BK432.out) hb); replace HB := Aside0.mk (below_step (by repeat (first | (with_reducible first | exact HB.out | apply below_alloc | apply pw_below_drewN | apply below_drew1 | refine below_set ?_ GE432.out) | exact HB.out)) hb); have hcz60_0 : w59.cell? ⟨gb432, 0, none⟩ = some (.slice Ao9 t429.length co9) := (blk_cell BK432.out 0).trans rfl; have hfz60_0 := blk_frozen BK432.out 0) | (go_at_call 33; (fail_if_success have z_ := w61); (with_reducible refine (nat_Nat_Bits.calls _ _ t429 t449 _ ?side1 ?side2 A44.out).mono ?_); (case side1 => repeat (first | exact (Kd.R_reads' HO_433000.out).2.2 | (with_reducible refine Kd.C_alloc ?_ _) | (with_reducible refine Kd.C_drewN ?_ _) | (with_reducible refine Kd.C_drew ?_))); (case side2 => exact (Kd.R_reads' HO_433000.out).2.1); rintro e w61 ⟨rfl, hb⟩; replace HO_0 := Aside0.mk (Kd.V_below (by (with_reducible repeat (first | apply Kd.V_alloc | apply Kd.V_drewN | apply Kd.V_drew)); exact HO_0.out) hb); replace HO_7 := Aside0.mk (Kd.R_below (by (with_reducible repeat (first | apply Kd.R_alloc | apply Kd.R_drewN | apply Kd.R_drew)); exact HO_7.out) hb); replace HO_433000 := Aside0.mk (Kd.R_below (by (with_reducible repeat (first | apply Kd.R_alloc | apply Kd.R_drewN | apply Kd.R_drew)); exact HO_433000.out) hb); replace HO445 := Aside0.mk (Kd.R_below (by (with_reducible repeat (first | apply Kd.R_alloc | apply Kd.R_drewN | apply Kd.R_drew)); exact HO445.out) hb); replace BK432 := Aside0.mk (blk_below (g := gb432) (o := .cells #[.slice Ao9 t429.length co9] 25 (0, 0)) (by (with_reducible repeat (first | refine blk_drewN ?_ _ | refine blk_drew ?_ | refine blk_alloc ?_ _)); exact BK432.out) hb); replace HB := Aside0.mk (below_step (by repeat (first | (with_reducible first | exact HB.out | apply below_alloc | apply pw_below_drewN | apply below_drew1 | refine below_set ?_ GE432.out) | exact HB.out)) hb)) | (go_at_call 26; (fail_if_success have z_ := w62); (with_reducible refine (nat_Of.calls k2 a1 t450 _ A50.out).mono ?_); rintro e w62 ⟨v451, rfl, ho0, hb⟩; replace HO_0 := Aside0.mk (Kd.V_elder' (by (with_reducible repeat (first | apply Kd.V_alloc | apply Kd.V_drewN | apply Kd.V_drew)); exact HO_0.out) (Kd.R_base ho0) hb); have HO452 := Aside0.mk (Kd.R_lower (Kd.R_new' (Kd.R_new' (Kd.R_new' ho0 (Kd.R_lt (by (with_reducible repeat (first | apply Kd.R_alloc | apply Kd.R_drewN | apply Kd.R_drew)); exact HO_7.out))) (Kd.R_lt (by (with_reducible repeat (first | apply Kd.R_alloc | apply Kd.R_drewN | apply Kd.R_drew)); exact HO_433000.out))) (Kd.R_lt (by (with_reducible repeat (first | apply Kd.R_alloc | apply Kd.R_drewN | apply Kd.R_drew)); exact HO445.out))) (below_size (by repeat (first | (with_reducible first | exact HB.out | apply below_alloc | apply pw_below_drewN | apply below_drew1 | refine below_set ?_ GE432.out) | exact HB.out)))); replace HO_7 := Aside0.mk (Kd.R_elder' (by (with_reducible repeat (first | apply Kd.R_alloc | apply Kd.R_drewN | apply Kd.R_drew)); exact HO_7.out) (Kd.R_base ho0) hb); replace HO_433000 := Aside0.mk (Kd.R_elder' (by (with_reducible repeat (first | apply Kd.R_alloc | apply Kd.R_drewN | apply Kd.R_drew)); exact HO_433000.out) (Kd.R_base ho0) hb); replace HO445 := Aside0.mk (Kd.R_elder' (by (with_reducible repeat (first | apply Kd.R_alloc | apply Kd.R_drewN | apply Kd.R_drew)); exact HO445.out) (Kd.R_base ho0) hb); replace BK432 := Aside0.mk (blk_below (g := gb432) (o := .cells #[.slice Ao9 t429.length co9] 25 (0, 0)) (by (with_reducible repeat (first | refine blk_drewN ?_ _ | refine blk_drew ?_ | refine blk_alloc ?_ _)); exact BK432.out) hb); replace HB := Aside0.mk (below_step (by repeat (first | (with_reducible first | exact HB.out | apply below_alloc | apply pw_below_drewN | apply below_drew1 | refine below_set ?_ GE432.out) | exact HB.out)) hb); obtain ⟨Ao63, co63, eo63⟩ := Kd.R_slice HO452.out; subst eo63) | (go_at_call 35; (fail_if_success have z_ := w64); (with_reducible refine (numerarylaw02_of.calls k2 _ _ t450 t453 _ ?side1 ?side2 A51.out).mono ?_); (case side1 => repeat (first | exact (Kd.R_reads' HO452.out).2.2 | (with_reducible refine Kd.C_alloc ?_ _) | (with_reducible refine Kd.C_drewN ?_ _) | (with_reducible refine Kd.C_drew ?_))); (case side2 => exact (Kd.R_reads' HO452.out).2.1); rintro e w64 ⟨v454, rfl, ho0, hb⟩; replace HO_0 := Aside0.mk (Kd.V_elder' (by (with_reducible repeat (first | apply Kd.V_alloc | apply Kd.V_drewN | apply Kd.V_drew)); exact HO_0.out) (Kd.R_base ho0) hb); replace HO_7 := Aside0.mk (Kd.R_below (by (with_reducible repeat (first | apply Kd.R_alloc | apply Kd.R_drewN | apply Kd.R_drew)); exact HO_7.out) hb); replace HO_433000 := Aside0.mk (Kd.R_below (by (with_reducible repeat (first | apply Kd.R_alloc | apply Kd.R_drewN | apply Kd.R_drew)); exact HO_433000.out) hb); replace HO445 := Aside0.mk (Kd.R_below (by (with_reducible repeat (first | apply Kd.R_alloc | apply Kd.R_drewN | apply Kd.R_drew)); exact HO445.out) hb); replace HO452 := Aside0.mk (Kd.R_below (by (with_reducible repeat (first | apply Kd.R_alloc | apply Kd.R_drewN | apply Kd.R_drew)); exact HO452.out) hb); have HO455 := Aside0.mk (Kd.R_lower ho0 (below_size (by repeat (first | (with_reducible first | exact HB.out | apply below_alloc | apply pw_below_drewN | apply below_drew1 | refine below_set ?_ GE432.out) | exact HB.out)))); replace BK432 := Aside0.mk (blk_below (g := gb432) (o := .cells #[.slice Ao9 t429.length co9] 25 (0, 0)) (by (with_reducible repeat (first | refine blk_drewN ?_ _ | refine blk_drew ?_ | refine blk_alloc ?_ _)); exact BK432.out) hb); replace HB := Aside0.mk (below_step (by repeat (first | (with_reducible first | exact HB.out | apply below_alloc | apply pw_below_drewN | apply below_drew1 | refine below_set ?_ GE432.out) | exact HB.out)) hb)) | (go_at_call 27; (fail_if_success have z_ := w65); (with_reducible refine (numeraryref02_Of.calls k2 a1 t456 _ A52.out).mono ?_); rintro e w65 ⟨v457, rfl, ho0, hb⟩; replace HO_0 := Aside0.mk (Kd.V_elder' (by (with_reducible repeat (first | apply Kd.V_alloc | apply Kd.V_drewN | apply Kd.V_drew)); exact HO_0.out) (Kd.R_base ho0) hb); replace HO_7 := Aside0.mk (Kd.R_below (by (with_reducible repeat (first | apply Kd.R_alloc | apply Kd.R_drewN | apply Kd.R_drew)); exact HO_7.out) hb); replace HO_433000 := Aside0.mk (Kd.R_below (by (with_reducible repeat (first | apply Kd.R_alloc | apply Kd.R_drewN | apply Kd.R_drew)); exact HO_433000.out) hb); replace HO445 := Aside0.mk (Kd.R_below (by (with_reducible repeat (first | apply Kd.R_alloc | apply Kd.R_drewN | apply Kd.R_drew)); exact HO445.out) hb); replace HO452 := Aside0.mk (Kd.R_below (by (with_reducible repeat (first | apply Kd.R_alloc | apply Kd.R_drewN | apply Kd.R_drew)); exact HO452.out) hb); have HO458 := Aside0.mk (Kd.R_lower (Kd.R_new' ho0 (Kd.R_lt (by (with_reducible repeat (first | apply Kd.R_alloc | apply Kd.R_drewN | apply Kd.R_drew)); exact HO455.out))) (below_size (by repeat (first | (with_reducible first | exact HB.out | apply below_alloc | apply pw_below_drewN | apply below_drew1 | refine below_set ?_ GE432.out) | exact HB.out)))); replace HO455 := Aside0.mk (Kd.R_elder' (by (with_reducible repeat (first | apply Kd.R_alloc | apply Kd.R_drewN | apply Kd.R_drew)); exact HO455.out) (Kd.R_base ho0) hb); replace BK432 := Aside0.mk (blk_below (g := gb432) (o := .cells #[.slice Ao9 t429.length co9] 25 (0, 0)) (by (with_reducible repeat (first | refine blk_drewN ?_ _ | refine blk_drew ?_ | refine blk_alloc ?_ _)); exact BK432.out) hb); replace HB := Aside0.mk (below_step (by repeat (first | (with_reducible first | exact HB.out | apply below_alloc | apply pw_below_drewN | apply below_drew1 | refine below_set ?_ GE432.out) | exact HB.out)) hb); obtain ⟨Ao66, co66, eo66⟩ := Kd.R_slice HO455.out; subst eo66; obtain ⟨Ao67, co67, eo67⟩ := Kd.R_slice HO458.out; subst eo67) | (go_at_call 34; (with_reducible refine (numerarylaw02_same.calls k2 _ _ t453 _ _ t456 t459 _ ?side1 ?side2 ?side3 ?side4 A53.out).mono ?_); (case side1 => repeat (first | exact (Kd.R_reads' HO455.out).2.2 | (with_reducible refine Kd.C_alloc ?_ _) | (with_reducible refine Kd.C_drewN ?_ _) | (with_reducible refine Kd.C_drew ?_))); (case side2 => exact (Kd.R_reads' HO455.out).2.1); (case side3 => repeat (first | exact (Kd.R_reads' HO458.out).2.2 | (with_reducible refine Kd.C_alloc ?_ _) | (with_reducible refine Kd.C_drewN ?_ _) | (with_reducible refine Kd.C_drew ?_))); (case side4 => exact (Kd.R_reads' HO458.out).2.1); rintro e w' ⟨rfl, ⟨nd, rfl⟩⟩; (try first | exact ⟨rfl, _, World.drewN_drewN _ _ _⟩ | exact ⟨rfl, _, Eq.trans (World.drewN_drewN _ _ _) (congrArg (World.drewN _) (Nat.add_assoc _ _ _))⟩))); try go_wp2_with (first | (go_at_call 29; (fail_if_success have z_ := w55); (with_reducible refine (nat_Nat_Small.calls k2 _ _ t429 t441 t442 _ ?side1 ?side2 A39.out).mono ?_); (case side1 => repeat (first | exact (Kd.R_reads' HO_433000.out).2.2 | (with_reducible refine Kd.C_alloc ?_ _) | (with_reducible refine Kd.C_drewN ?_ _) | (with_reducible refine Kd.C_drew ?_))); (case side2 => exact (Kd.R_reads' HO_433000.out).2.1); rintro e w55 ⟨rfl, hb⟩; replace HO_0 := Aside0.mk (Kd.V_below (by (with_reducible repeat (first | apply Kd.V_alloc | apply Kd.V_drewN | apply Kd.V_drew)); exact HO_0.out) hb); replace HO_7 := Aside0.mk (Kd.R_below (by (with_reducible repeat (first | apply Kd.R_alloc | apply Kd.R_drewN | apply Kd.R_drew)); exact HO_7.out) hb); replace HO_433000 := Aside0.mk (Kd.R_below (by (with_reducible repeat (first | apply Kd.R_alloc | apply Kd.R_drewN | apply Kd.R_drew)); exact HO_433000.out) hb); replace BK432 := Aside0.mk (blk_below (g := gb432) (o := .cells #[.slice Ao9 t429.length co9] 25 (0, 0)) (by (with_reducible repeat (first | refine blk_drewN ?_ _ | refine blk_drew ?_ | refine blk_alloc ?_ _)); exact BK432.out) hb); replace HB := Aside0.mk (below_step (by repeat (first | (with_reducible first | exact HB.out | apply below_alloc | apply pw_below_drewN | apply below_drew1 | refine below_set ?_ GE432.out) | exact HB.out)) hb)) | (go_at_call 26; (fail_if_success have z_ := w56); (with_reducible refine (nat_Of.calls k2 a1 t443 _ A40.out).mono ?_); rintro e w56 ⟨v444, rfl, ho0, hb⟩; replace HO_0 := Aside0.mk (Kd.V_elder' (by (with_reducible repeat (first | apply Kd.V_alloc | apply Kd.V_drewN | apply Kd.V_drew)); exact HO_0.out) (Kd.R_base ho0) hb); have HO445 := Aside0.mk (Kd.R_lower (Kd.R_new' (Kd.R_new' ho0 (Kd.R_lt (by (with_reducible repeat (first | apply Kd.R_alloc | apply Kd.R_drewN | apply Kd.R_drew)); exact HO_7.out))) (Kd.R_lt (by (with_reducible repeat (first | apply Kd.R_alloc | apply Kd.R_drewN | apply Kd.R_drew)); exact HO_433000.out))) (below_size (by repeat (first | (with_reducible first | exact HB.out | apply below_alloc | apply pw_below_drewN | apply below_drew1 | refine below_set ?_ GE432.out) | exact HB.out)))); replace HO_7 := Aside0.mk (Kd.R_elder' (by (with_reducible repeat (first | apply Kd.R_alloc | apply Kd.R_drewN | apply Kd.R_drew)); exact HO_7.out) (Kd.R_base ho0) hb); replace HO_433000 := Aside0.mk (Kd.R_elder' (by (with_reducible repeat (first | apply Kd.R_alloc | apply Kd.R_drewN | apply Kd.R_drew)); exact HO_433000.out) (Kd.R_base ho0) hb); replace BK432 := Aside0.mk (blk_below (g := gb432) (o := .cells #[.slice Ao9 t429.length co9] 25 (0, 0)) (by (with_reducible repeat (first | refine blk_drewN ?_ _ | refine blk_drew ?_ | refine blk_alloc ?_ _)); exact BK432.out) hb); replace HB := Aside0.mk (below_step (by repeat (first | (with_reducible first | exact HB.out | apply below_alloc | apply pw_below_drewN | apply below_drew1 | refine below_set ?_ GE432.out) | exact HB.out)) hb); obtain ⟨Ao57, co57, eo57⟩ := Kd.R_slice HO445.out; subst eo57) | (go_at_call 29; (with_reducible refine (nat_Nat_Small.calls k2 _ _ t443 t446 true _ ?side1 ?side2 A41.out).mono ?_); (case side1 => repeat (first | exact (Kd.R_reads' HO445.out).2.2 | (with_reducible refine Kd.C_alloc ?_ _) | (with_reducible refine Kd.C_drewN ?_ _) | (with_reducible refine Kd.C_drew ?_))); (case side2 => exact (Kd.R_reads' HO445.out).2.1); rintro e w58 ⟨rfl, hb⟩; replace HO_0 := Aside0.mk (Kd.V_below (by (with_reducible repeat (first | apply Kd.V_alloc | apply Kd.V_drewN | apply Kd.V_drew)); exact HO_0.out) hb); replace HO_7 := Aside0.mk (Kd.R_below (by (with_reducible repeat (first | apply Kd.R_alloc | apply Kd.R_drewN | apply Kd.R_drew)); exact HO_7.out) hb); replace HO_433000 := Aside0.mk (Kd.R_below (by (with_reducible repeat (first | apply Kd.R_alloc | apply Kd.R_drewN | apply Kd.R_drew)); exact HO_433000.out) hb); replace HO445 := Aside0.mk (Kd.R_below (by (with_reducible repeat (first | apply Kd.R_alloc | apply Kd.R_drewN | apply Kd.R_drew)); exact HO445.out) hb); replace BK432 := Aside0.mk (blk_below (g := gb432) (o := .cells #[.slice Ao9 t429.length co9] 25 (0, 0)) (by (with_reducible repeat (first | refine blk_drewN ?_ _ | refine blk_drew ?_ | refine blk_alloc ?_ _)); exact BK432.out) hb); replace HB := Aside0.mk (below_step (by repeat (first | (with_reducible first | exact HB.out | apply below_alloc | apply pw_below_drewN | apply below_drew1 | refine below_set ?_ GE432.out) | exact HB.out)) hb)) | (go_at_call 32; (with_reducible refine (numerarylaw02_wakes.calls k2  true _ A42.out).mono ?_); rintro e w59 ⟨rfl, hb⟩; replace HO_0 := Aside0.mk (Kd.V_below (by (with_reducible repeat (first | apply Kd.V_alloc | apply Kd.V_drewN | apply Kd.V_drew)); exact HO_0.out) hb); replace HO_7 := Aside0.mk (Kd.R_below (by (with_reducible repeat (first | apply Kd.R_alloc | apply Kd.R_drewN | apply Kd.R_drew)); exact HO_7.out) hb); replace HO_433000 := Aside0.mk (Kd.R_below (by (with_reducible repeat (first | apply Kd.R_alloc | apply Kd.R_drewN | apply Kd.R_drew)); exact HO_433000.out) hb); replace HO445 := Aside0.mk (Kd.R_below (by (with_reducible repeat (first | apply Kd.R_alloc | apply Kd.R_drewN | apply Kd.R_drew)); exact HO445.out) hb); replace BK432 := Aside0.mk (blk_below (g := gb432) (o := .cells #[.slice Ao9 t429.length co9] 25 (0, 0)) (by (with_reducible repeat (first | refine blk_drewN ?_ _ | refine blk_drew ?_ | refine blk_alloc ?_ _)); exact BK432.out) hb); replace HB := Aside0.mk (below_step (by repeat (first | (with_reducible first | exact HB.out | apply below_alloc | apply pw_below_drewN | apply below_drew1 | refine below_set ?_ GE432.out) | exact HB.out)) hb); have hcz60_0 : w59.cell? ⟨gb432, 0, none⟩ = some (.slice Ao9 t429.length co9) := (blk_cell BK432.out 0).trans rfl; have hfz60_0 := blk_frozen BK432.out 0) | (go_at_call 33; (with_reducible refine (nat_Nat_Bits.calls _ _ t429 t449 _ ?side1 ?side2 A44.out).mono ?_); (case side1 => repeat (first | exact (Kd.R_reads' HO_433000.out).2.2 | (with_reducible refine Kd.C_alloc ?_ _) | (with_reducible refine Kd.C_drewN ?_ _) | (with_reducible refine Kd.C_drew ?_))); (case side2 => exact (Kd.R_reads' HO_433000.out).2.1); rintro e w61 ⟨rfl, hb⟩; replace HO_0 := Aside0.mk (Kd.V_below (by (with_reducible repeat (first | apply Kd.V_alloc | apply Kd.V_drewN | apply Kd.V_drew)); exact HO_0.out) hb); replace HO_7 := Aside0.mk (Kd.R_below (by (with_reducible repeat (first | apply Kd.R_alloc | apply Kd.R_drewN | apply Kd.R_drew)); exact HO_7.out) hb); replace HO_433000 := Aside0.mk (Kd.R_below (by (with_reducible repeat (first | apply Kd.R_alloc | apply Kd.R_drewN | apply Kd.R_drew)); exact HO_433000.out) hb); replace HO445 := Aside0.mk (Kd.R_below (by (with_reducible repeat (first | apply Kd.R_alloc | apply Kd.R_drewN | apply Kd.R_drew)); exact HO445.out) hb); replace BK432 := Aside0.mk (blk_below (g := gb432) (o := .cells #[.slice Ao9 t429.length co9] 25 (0, 0)) (by (with_reducible repeat (first | refine blk_drewN ?_ _ | refine blk_drew ?_ | refine blk_alloc ?_ _)); exact BK432.out) hb); replace HB := Aside0.mk (below_step (by repeat (first | (with_reducible first | exact HB.out | apply below_alloc | apply pw_below_drewN | apply below_drew1 | refine below_set ?_ GE432.out) | exact HB.out)) hb)) | (go_at_call 26; (with_reducible refine (nat_Of.calls k2 a1 t450 _ A50.out).mono ?_); rintro e w62 ⟨v451, rfl, ho0, hb⟩; replace HO_0 := Aside0.mk (Kd.V_elder' (by (with_reducible repeat (first | apply Kd.V_alloc | apply Kd.V_drewN | apply Kd.V_drew)); exact HO_0.out) (Kd.R_base ho0) hb); have HO452 := Aside0.mk (Kd.R_lower (Kd.R_new' (Kd.R_new' (Kd.R_new' ho0 (Kd.R_lt (by (with_reducible repeat (first | apply Kd.R_alloc | apply Kd.R_drewN | apply Kd.R_drew)); exact HO_7.out))) (Kd.R_lt (by (with_reducible repeat (first | apply Kd.R_alloc | apply Kd.R_drewN | apply Kd.R_drew)); exact HO_433000.out))) (Kd.R_lt (by (with_reducible repeat (first | apply Kd.R_alloc | apply Kd.R_drewN | apply Kd.R_drew)); exact HO445.out))) (below_size (by repeat (first | (with_reducible first | exact HB.out | apply below_alloc | apply pw_below_drewN | apply below_drew1 | refine below_set ?_ GE432.out) | exact HB.out)))); replace HO_7 := Aside0.mk (Kd.R_elder' (by (with_reducible repeat (first | apply Kd.R_alloc | apply Kd.R_drewN | apply Kd.R_drew)); exact HO_7.out) (Kd.R_base ho0) hb); replace HO_433000 := Aside0.mk (Kd.R_elder' (by (with_reducible repeat (first | apply Kd.R_alloc | apply Kd.R_drewN | apply Kd.R_drew)); exact HO_433000.out) (Kd.R_base ho0) hb); replace HO445 := Aside0.mk (Kd.R_elder' (by (with_reducible repeat (first | apply Kd.R_alloc | apply Kd.R_drewN | apply Kd.R_drew)); exact HO445.out) (Kd.R_base ho0) hb); replace BK432 := Aside0.mk (blk_below (g := gb432) (o := .cells #[.slice Ao9 t429.length co9] 25 (0, 0)) (by (with_reducible repeat (first | refine blk_drewN ?_ _ | refine blk_drew ?_ | refine blk_alloc ?_ _)); exact BK432.out) hb); replace HB := Aside0.mk (below_step (by repeat (first | (with_reducible first | exact HB.out | apply below_alloc | apply pw_below_drewN | apply below_drew1 | refine below_set ?_ GE432.out) | exact HB.out)) hb); obtain ⟨Ao63, co63, eo63⟩ := Kd.R_slice HO452.out; subst eo63) | (go_at_call 35; (with_reducible refine (numerarylaw02_of.calls k2 _ _ t450 t453 _ ?side1 ?side2 A51.out).mono ?_); (case side1 => repeat (first | exact (Kd.R_reads' HO452.out).2.2 | (with_reducible refine Kd.C_alloc ?_ _) | (with_reducible refine Kd.C_drewN ?_ _) | (with_reducible refine Kd.C_drew ?_))); (case side2 => exact (Kd.R_reads' HO452.out).2.1); rintro e w64 ⟨v454, rfl, ho0, hb⟩; replace HO_0 := Aside0.mk (Kd.V_elder' (by (with_reducible repeat (first | apply Kd.V_alloc | apply Kd.V_drewN | apply Kd.V_drew)); exact HO_0.out) (Kd.R_base ho0) hb); replace HO_7 := Aside0.mk (Kd.R_below (by (with_reducible repeat (first | apply Kd.R_alloc | apply Kd.R_drewN | apply Kd.R_drew)); exact HO_7.out) hb); replace HO_433000 := Aside0.mk (Kd.R_below (by (with_reducible repeat (first | apply Kd.R_alloc | apply Kd.R_drewN | apply Kd.R_drew)); exact HO_433000.out) hb); replace HO445 := Aside0.mk (Kd.R_below (by (with_reducible repeat (first | apply Kd.R_alloc | apply Kd.R_drewN | apply Kd.R_drew)); exact HO445.out) hb); replace HO452 := Aside0.mk (Kd.R_below (by (with_reducible repeat (first | apply Kd.R_alloc | apply Kd.R_drewN | apply Kd.R_drew)); exact HO452.out) hb); have HO455 := Aside0.mk (Kd.R_lower ho0 (below_size (by repeat (first | (with_reducible first | exact HB.out | apply below_alloc | apply pw_below_drewN | apply below_drew1 | refine below_set ?_ GE432.out) | exact HB.out)))); replace BK432 := Aside0.mk (blk_below (g := gb432) (o := .cells #[.slice Ao9 t429.length co9] 25 (0, 0)) (by (with_reducible repeat (first | refine blk_drewN ?_ _ | refine blk_drew ?_ | refine blk_alloc ?_ _)); exact BK432.out) hb); replace HB := Aside0.mk (below_step (by repeat (first | (with_reducible first | exact HB.out | apply below_alloc | apply pw_below_drewN | apply below_drew1 | refine below_set ?_ GE432.out) | exact HB.out)) hb)) | (go_at_call 27; (with_reducible refine (numeraryref02_Of.calls k2 a1 t456 _ A52.out).mono ?_); rintro e w65 ⟨v457, rfl, ho0, hb⟩; replace HO_0 := Aside0.mk (Kd.V_elder' (by (with_reducible repeat (first | apply Kd.V_alloc | apply Kd.V_drewN | apply Kd.V_drew)); exact HO_0.out) (Kd.R_base ho0) hb); replace HO_7 := Aside0.mk (Kd.R_below (by (with_reducible repeat (first | apply Kd.R_alloc | apply Kd.R_drewN | apply Kd.R_drew)); exact HO_7.out) hb); replace HO_433000 := Aside0.mk (Kd.R_below (by (with_reducible repeat (first | apply Kd.R_alloc | apply Kd.R_drewN | apply Kd.R_drew)); exact HO_433000.out) hb); replace HO445 := Aside0.mk (Kd.R_below (by (with_reducible repeat (first | apply Kd.R_alloc | apply Kd.R_drewN | apply Kd.R_drew)); exact HO445.out) hb); replace HO452 := Aside0.mk (Kd.R_below (by (with_reducible repeat (first | apply Kd.R_alloc | apply Kd.R_drewN | apply Kd.R_drew)); exact HO452.out) hb); have HO458 := Aside0.mk (Kd.R_lower (Kd.R_new' ho0 (Kd.R_lt (by (with_reducible repeat (first | apply Kd.R_alloc | apply Kd.R_drewN | apply Kd.R_drew)); exact HO455.out))) (below_size (by repeat (first | (with_reducible first | exact HB.out | apply below_alloc | apply pw_below_drewN | apply below_drew1 | refine below_set ?_ GE432.out) | exact HB.out)))); replace HO455 := Aside0.mk (Kd.R_elder' (by (with_reducible repeat (first | apply Kd.R_alloc | apply Kd.R_drewN | apply Kd.R_drew)); exact HO455.out) (Kd.R_base ho0) hb); replace BK432 := Aside0.mk (blk_below (g := gb432) (o := .cells #[.slice Ao9 t429.length co9] 25 (0, 0)) (by (with_reducible repeat (first | refine blk_drewN ?_ _ | refine blk_drew ?_ | refine blk_alloc ?_ _)); exact BK432.out) hb); replace HB := Aside0.mk (below_step (by repeat (first | (with_reducible first | exact HB.out | apply below_alloc | apply pw_below_drewN | apply below_drew1 | refine below_set ?_ GE432.out) | exact HB.out)) hb); obtain ⟨Ao66, co66, eo66⟩ := Kd.R_slice HO455.out; subst eo66; obtain ⟨Ao67, co67, eo67⟩ := Kd.R_slice HO458.out; subst eo67) | (go_at_call 34; (with_reducible refine (numerarylaw02_same.calls k2 _ _ t453 _ _ t456 t459 _ ?side1 ?side2 ?side3 ?side4 A53.out).mono ?_); (case side1 => repeat (first | exact (Kd.R_reads' HO455.out).2.2 | (with_reducible refine Kd.C_alloc ?_ _) | (with_reducible refine Kd.C_drewN ?_ _) | (with_reducible refine Kd.C_drew ?_))); (case side2 => exact (Kd.R_reads' HO455.out).2.1); (case side3 => repeat (first | exact (Kd.R_reads' HO458.out).2.2 | (with_reducible refine Kd.C_alloc ?_ _) | (with_reducible refine Kd.C_drewN ?_ _) | (with_reducible refine Kd.C_drew ?_))); (case side4 => exact (Kd.R_reads' HO458.out).2.1); rintro e w' ⟨rfl, ⟨nd, rfl⟩⟩; (try first | exact ⟨rfl, _, World.drewN_drewN _ _ _⟩ | exact ⟨rfl, _, Eq.trans (World.drewN_drewN _ _ _) (congrArg (World.drewN _) (Nat.add_assoc _ _ _))⟩))))
              go_ret
              exact ⟨by first | rfl | (simp [errW_none, errW_some] <;> rfl) | (simp only [← hji12]; first | rfl | (simp [errW_none, errW_some] <;> rfl)) | (simp [*, errW_none, errW_some] <;> rfl), by repeat (first | (with_reducible first | exact HB.out | apply below_alloc | apply pw_below_drewN | apply below_drew1 | refine below_set ?_ GE432.out) | exact HB.out)⟩
            rw [if_neg c38] at H
            have c38b0 : decide (2 < x6_1) = false := decide_eq_false c38
            clear c38
            replace H := Option.bind_eq_some_iff.mp H
            obtain ⟨⟨t460, t461⟩, A680, H⟩ := H
            have A68 := Aside0.mk A680
            clear A680
            replace H := Option.bind_eq_some_iff.mp H
            obtain ⟨t462, A690, H⟩ := H
            have A69 := Aside0.mk A690
            clear A690
            replace H := Option.bind_eq_some_iff.mp H
            obtain ⟨⟨t465, t466⟩, A700, H⟩ := H
            have A70 := Aside0.mk A700
            clear A700
            replace H := Option.bind_eq_some_iff.mp H
            obtain ⟨t467, A710, H⟩ := H
            have A71 := Aside0.mk A710
            clear A710
            by_cases c72 : t467 = true
            rotate_left
            · replace c72 := Bool.eq_false_iff.mpr c72
              subst c72
              have H1 : (some false) = some r := by rw [if_neg (show ¬ (false = true) by decide)] at H; exact H
              clear H
              have H := H1
              clear H1
              exact absurd (H.trans (congrArg some HR_.out)) (by simp)
            subst c72
            have H1 : ((nat_Nat_Bits.f t429).bind fun t468 => (if t468 = x8_2 then (if (t461 == (decide (x6_1 ≤ 2))) = true then (if t460 = x9_2 then (if t466 = true then (if t465 = a1 then ((nat_Of.f k2 a1).bind fun t469 => ((numerarylaw02_of.f k2 t469).bind fun t472 => ((numeraryref02_Of.f k2 a1).bind fun t475 => ((numerarylaw02_same.f k2 t472 t475).bind fun t478 => (some t478))))) else (some false)) else (some false)) else (some false)) else (some false)) else (some false))) = some r := by rw [if_pos rfl] at H; exact H
            clear H
            have H := H1
            clear H1
            replace H := Option.bind_eq_some_iff.mp H
            obtain ⟨t468, A730, H⟩ := H
            have A73 := Aside0.mk A730
            clear A730
            by_cases c74 : t468 = x8_2
            rotate_left
            · rw [if_neg c74] at H
              exact absurd (H.trans (congrArg some HR_.out)) (by simp)
            rw [if_pos c74] at H
            have c74b0 : (t468 == x8_2) = true := beq_iff_eq.mpr c74
            have c74b1 : (t468 != x8_2) = false := bne_eq_false_iff_eq.mpr c74
            clear c74
            by_cases c75 : (t461 == (decide (x6_1 ≤ 2))) = true
            rotate_left
            · rw [if_neg c75] at H
              exact absurd (H.trans (congrArg some HR_.out)) (by simp)
            rw [if_pos c75] at H
            have c75b0 : (t461 == (decide (x6_1 ≤ 2))) = true := c75
            (try (have c75b1 : decide (t461 = (decide (x6_1 ≤ 2))) = true := by simpa using c75))
            (try (have c75b2 : (t461 == (decide (x6_1 ≤ 2))) = true := by simpa using c75))
            clear c75
            by_cases c76 : t460 = x9_2
            rotate_left
            · rw [if_neg c76] at H
              exact absurd (H.trans (congrArg some HR_.out)) (by simp)
            rw [if_pos c76] at H
            have c76b0 : (t460 == x9_2) = true := beq_iff_eq.mpr c76
            have c76b1 : (t460 != x9_2) = false := bne_eq_false_iff_eq.mpr c76
            clear c76
            by_cases c77 : t466 = true
            rotate_left
            · replace c77 := Bool.eq_false_iff.mpr c77
              subst c77
              have H1 : (some false) = some r := by rw [if_neg (show ¬ (false = true) by decide)] at H; exact H
              clear H
              have H := H1
              clear H1
              exact absurd (H.trans (congrArg some HR_.out)) (by simp)
            subst c77
            have H1 : (if t465 = a1 then ((nat_Of.f k2 a1).bind fun t469 => ((numerarylaw02_of.f k2 t469).bind fun t472 => ((numeraryref02_Of.f k2 a1).bind fun t475 => ((numerarylaw02_same.f k2 t472 t475).bind fun t478 => (some t478))))) else (some false)) = some r := by rw [if_pos rfl] at H; exact H
            clear H
            have H := H1
            clear H1
            by_cases c78 : t465 = a1
            rotate_left
            · rw [if_neg c78] at H
              exact absurd (H.trans (congrArg some HR_.out)) (by simp)
            rw [if_pos c78] at H
            have c78b0 : (t465 == a1) = true := beq_iff_eq.mpr c78
            have c78b1 : (t465 != a1) = false := bne_eq_false_iff_eq.mpr c78
            clear c78
            replace H := Option.bind_eq_some_iff.mp H
            obtain ⟨t469, A790, H⟩ := H
            have A79 := Aside0.mk A790
            clear A790
            replace H := Option.bind_eq_some_iff.mp H
            obtain ⟨t472, A800, H⟩ := H
            have A80 := Aside0.mk A800
            clear A800
            replace H := Option.bind_eq_some_iff.mp H
            obtain ⟨t475, A810, H⟩ := H
            have A81 := Aside0.mk A810
            clear A810
            replace H := Option.bind_eq_some_iff.mp H
            obtain ⟨t478, A820, H⟩ := H
            have A82 := Aside0.mk A820
            clear A820
            obtain rfl := Option.some.inj H
            have hcz83_0 : wr.cell? ⟨gb432, 0, none⟩ = some (.slice Ao9 t429.length co9) := (blk_cell BK432.out 0).trans rfl
            have hfz83_0 := blk_frozen BK432.out 0
            go_wp2_with (first | (go_at_call 29; (fail_if_success have z_ := w84); (with_reducible refine (nat_Nat_Small.calls k2 _ _ t429 t460 t461 _ ?side1 ?side2 A68.out).mono ?_); (case side1 => repeat (first | exact (Kd.R_reads' HO_433000.out).2.2 | (with_reducible refine Kd.C_alloc ?_ _) | (with_reducible refine Kd.C_drewN ?_ _) | (with_reducible refine Kd.C_drew ?_))); (case side2 => exact (Kd.R_reads' HO_433000.out).2.1); rintro e w84 ⟨rfl, hb⟩; replace HO_0 := Aside0.mk (Kd.V_below (by (with_reducible repeat (first | apply Kd.V_alloc | apply Kd.V_drewN | apply Kd.V_drew)); exact HO_0.out) hb); replace HO_7 := Aside0.mk (Kd.R_below (by (with_reducible repeat (first | apply Kd.R_alloc | apply Kd.R_drewN | apply Kd.R_drew)); exact HO_7.out) hb); replace HO_433000 := Aside0.mk (Kd.R_below (by (with_reducible repeat (first | apply Kd.R_alloc | apply Kd.R_drewN | apply Kd.R_drew)); exact HO_433000.out) hb); replace BK432 := Aside0.mk (blk_below (g := gb432) (o := .cells #[.slice Ao9 t429.length co9] 25 (0, 0)) (by (with_reducible repeat (first | refine blk_drewN ?_ _ | refine blk_drew ?_ | refine blk_alloc ?_ _)); exact BK432.out) hb); replace HB := Aside0.mk (below_step (by repeat (first | (with_reducible first | exact HB.out | apply below_alloc | apply pw_below_drewN | apply below_drew1 | refine below_set ?_ GE432.out) | exact HB.out)) hb)) | (go_at_call 26; (fail_if_success have z_ := w85); (with_reducible refine (nat_Of.calls k2 a1 t462 _ A69.out).mono ?_); rintro e w85 ⟨v463, rfl, ho0, hb⟩; replace HO_0 := Aside0.mk (Kd.V_elder' (by (with_reducible repeat (first | apply Kd.V_alloc | apply Kd.V_drewN | apply Kd.V_drew)); exact HO_0.out) (Kd.R_base ho0) hb); have HO464 := Aside0.mk (Kd.R_lower (Kd.R_new' (Kd.R_new' ho0 (Kd.R_lt (by (with_reducible repeat (first | apply Kd.R_alloc | apply Kd.R_drewN | apply Kd.R_drew)); exact HO_7.out))) (Kd.R_lt (by (with_reducible repeat (first | apply Kd.R_alloc | apply Kd.R_drewN | apply Kd.R_drew)); exact HO_433000.out))) (below_size (by repeat (first | (with_reducible first | exact HB.out | apply below_alloc | apply pw_below_drewN | apply below_drew1 | refine below_set ?_ GE432.out) | exact HB.out)))); replace HO_7 := Aside0.mk (Kd.R_elder' (by (with_reducible repeat (first | apply Kd.R_alloc | apply Kd.R_drewN | apply Kd.R_drew)); exact HO_7.out) (Kd.R_base ho0) hb); replace HO_433000 := Aside0.mk (Kd.R_elder' (by (with_reducible repeat (first | apply Kd.R_alloc | apply Kd.R_drewN | apply Kd.R_drew)); exact HO_433000.out) (Kd.R_base ho0) hb); replace BK432 := Aside0.mk (blk_below (g := gb432) (o := .cells #[.slice Ao9 t429.length co9] 25 (0, 0)) (by (with_reducible repeat (first | refine blk_drewN ?_ _ | refine blk_drew ?_ | refine blk_alloc ?_ _)); exact BK432.out) hb); replace HB := Aside0.mk (below_step (by repeat (first | (with_reducible first | exact HB.out | apply below_alloc | apply pw_below_drewN | apply below_drew1 | refine below_set ?_ GE432.out) | exact HB.out)) hb); obtain ⟨Ao86, co86, eo86⟩ := Kd.R_slice HO464.out; subst eo86) | (go_at_call 29; (with_reducible refine (nat_Nat_Small.calls k2 _ _ t462 t465 true _ ?side1 ?side2 A70.out).mono ?_); (case side1 => repeat (first | exact (Kd.R_reads' HO464.out).2.2 | (with_reducible refine Kd.C_alloc ?_ _) | (with_reducible refine Kd.C_drewN ?_ _) | (with_reducible refine Kd.C_drew ?_))); (case side2 => exact (Kd.R_reads' HO464.out).2.1); rintro e w87 ⟨rfl, hb⟩; replace HO_0 := Aside0.mk (Kd.V_below (by (with_reducible repeat (first | apply Kd.V_alloc | apply Kd.V_drewN | apply Kd.V_drew)); exact HO_0.out) hb); replace HO_7 := Aside0.mk (Kd.R_below (by (with_reducible repeat (first | apply Kd.R_alloc | apply Kd.R_drewN | apply Kd.R_drew)); exact HO_7.out) hb); replace HO_433000 := Aside0.mk (Kd.R_below (by (with_reducible repeat (first | apply Kd.R_alloc | apply Kd.R_drewN | apply Kd.R_drew)); exact HO_433000.out) hb); replace HO464 := Aside0.mk (Kd.R_below (by (with_reducible repeat (first | apply Kd.R_alloc | apply Kd.R_drewN | apply Kd.R_drew)); exact HO464.out) hb); replace BK432 := Aside0.mk (blk_below (g := gb432) (o := .cells #[.slice Ao9 t429.length co9] 25 (0, 0)) (by (with_reducible repeat (first | refine blk_drewN ?_ _ | refine blk_drew ?_ | refine blk_alloc ?_ _)); exact BK432.out) hb); replace HB := Aside0.mk (below_step (by repeat (first | (with_reducible first | exact HB.out | apply below_alloc | apply pw_below_drewN | apply below_drew1 | refine below_set ?_ GE432.out) | exact HB.out)) hb)) | (go_at_call 32; (with_reducible refine (numerarylaw02_wakes.calls k2  true _ A71.out).mono ?_); rintro e w88 ⟨rfl, hb⟩; replace HO_0 := Aside0.mk (Kd.V_below (by (with_reducible repeat (first | apply Kd.V_alloc | apply Kd.V_drewN | apply Kd.V_drew)); exact HO_0.out) hb); replace HO_7 := Aside0.mk (Kd.R_below (by (with_reducible repeat (first | apply Kd.R_alloc | apply Kd.R_drewN | apply Kd.R_drew)); exact HO_7.out) hb); replace HO_433000 := Aside0.mk (Kd.R_below (by (with_reducible repeat (first | apply Kd.R_alloc | apply Kd.R_drewN | apply Kd.R_drew)); exact HO_433000.out) hb); replace HO464 := Aside0.mk (Kd.R_below (by (with_reducible repeat (first | apply Kd.R_alloc | apply Kd.R_drewN | apply Kd.R_drew)); exact HO464.out) hb); replace BK432 := Aside0.mk (blk_below (g := gb432) (o := .cells #[.slice Ao9 t429.length co9] 25 (0, 0)) (by (with_reducible repeat (first | refine blk_drewN ?_ _ | refine blk_drew ?_ | refine blk_alloc ?_ _)); exact BK432.out) hb); replace HB := Aside0.mk (below_step (by repeat (first | (with_reducible first | exact HB.out | apply below_alloc | apply pw_below_drewN | apply below_drew1 | refine below_set ?_ GE432.out) | exact HB.out)) hb); have hcz89_0 : w88.cell? ⟨gb432, 0, none⟩ = some (.slice Ao9 t429.length co9) := (blk_cell BK432.out 0).trans rfl; have hfz89_0 := blk_frozen BK432.out 0) | (go_at_call 33; (with_reducible refine (nat_Nat_Bits.calls _ _ t429 t468 _ ?side1 ?side2 A73.out).mono ?_); (case side1 => repeat (first | exact (Kd.R_reads' HO_433000.out).2.2 | (with_reducible refine Kd.C_alloc ?_ _) | (with_reducible refine Kd.C_drewN ?_ _) | (with_reducible refine Kd.C_drew ?_))); (case side2 => exact (Kd.R_reads' HO_433000.out).2.1); rintro e w90 ⟨rfl, hb⟩; replace HO_0 := Aside0.mk (Kd.V_below (by (with_reducible repeat (first | apply Kd.V_alloc | apply Kd.V_drewN | apply Kd.V_drew)); exact HO_0.out) hb); replace HO_7 := Aside0.mk (Kd.R_below (by (with_reducible repeat (first | apply Kd.R_alloc | apply Kd.R_drewN | apply Kd.R_drew)); exact HO_7.out) hb); replace HO_433000 := Aside0.mk (Kd.R_below (by (with_reducible repeat (first | apply Kd.R_alloc | apply Kd.R_drewN | apply Kd.R_drew)); exact HO_433000.out) hb); replace HO464 := Aside0.mk (Kd.R_below (by (with_reducible repeat (first | apply Kd.R_alloc | apply Kd.R_drewN | apply Kd.R_drew)); exact HO464.out) hb); replace BK432 := Aside0.mk (blk_below (g := gb432) (o := .cells #[.slice Ao9 t429.length co9] 25 (0, 0)) (by (with_reducible repeat (first | refine blk_drewN ?_ _ | refine blk_drew ?_ | refine blk_alloc ?_ _)); exact BK432.out) hb); replace HB := Aside0.mk (below_step (by repeat (first | (with_reducible first | exact HB.out | apply below_alloc | apply pw_below_drewN | apply below_drew1 | refine below_set ?_ GE432.out) | exact HB.out)) hb)) | (go_at_call 26; (with_reducible refine (nat_Of.calls k2 a1 t469 _ A79.out).mono ?_); rintro e w91 ⟨v470, rfl, ho0, hb⟩; replace HO_0 := Aside0.mk (Kd.V_elder' (by (with_reducible repeat (first | apply Kd.V_alloc | apply Kd.V_drewN | apply Kd.V_drew)); exact HO_0.out) (Kd.R_base ho0) hb); have HO471 := Aside0.mk (Kd.R_lower (Kd.R_new' (Kd.R_new' (Kd.R_new' ho0 (Kd.R_lt (by (with_reducible repeat (first | apply Kd.R_alloc | apply Kd.R_drewN | apply Kd.R_drew)); exact HO_7.out))) (Kd.R_lt (by (with_reducible repeat (first | apply Kd.R_alloc | apply Kd.R_drewN | apply Kd.R_drew)); exact HO_433000.out))) (Kd.R_lt (by (with_reducible repeat (first | apply Kd.R_alloc | apply Kd.R_drewN | apply Kd.R_drew)); exact HO464.out))) (below_size (by repeat (first | (with_reducible first | exact HB.out | apply below_alloc | apply pw_below_drewN | apply below_drew1 | refine below_set ?_ GE432.out) | exact HB.out)))); replace HO_7 := Aside0.mk (Kd.R_elder' (by (with_reducible repeat (first | apply Kd.R_alloc | apply Kd.R_drewN | apply Kd.R_drew)); exact HO_7.out) (Kd.R_base ho0) hb); replace HO_433000 := Aside0.mk (Kd.R_elder' (by (with_reducible repeat (first | apply Kd.R_alloc | apply Kd.R_drewN | apply Kd.R_drew)); exact HO_433000.out) (Kd.R_base ho0) hb); replace HO464 := Aside0.mk (Kd.R_elder' (by (with_reducible repeat (first | apply Kd.R_alloc | apply Kd.R_drewN | apply Kd.R_drew)); exact HO464.out) (Kd.R_base ho0) hb); replace BK432 := Aside0.mk (blk_below (g := gb432) (o := .cells #[.slice Ao9 t429.length co9] 25 (0, 0)) (by (with_reducible repeat (first | refine blk_drewN ?_ _ | refine blk_drew ?_ | refine blk_alloc ?_ _)); exact BK432.out) hb); replace HB := Aside0.mk (below_step (by repeat (first | (with_reducible first | exact HB.out | apply below_alloc | apply pw_below_drewN | apply below_drew1 | refine below_set ?_ GE432.out) | exact HB.out)) hb); obtain ⟨Ao92, co92, eo92⟩ := Kd.R_slice HO471.out; subst eo92) | (go_at_call 35; (with_reducible refine (numerarylaw02_of.calls k2 _ _ t469 t472 _ ?side1 ?side2 A80.out).mono ?_); (case side1 => repeat (first | exact (Kd.R_reads' HO471.out).2.2 | (with_reducible refine Kd.C_alloc ?_ _) | (with_reducible refine Kd.C_drewN ?_ _) | (with_reducible refine Kd.C_drew ?_))); (case side2 => exact (Kd.R_reads' HO471.out).2.1); rintro e w93 ⟨v473, rfl, ho0, hb⟩; replace HO_0 := Aside0.mk (Kd.V_elder' (by (with_reducible repeat (first | apply Kd.V_alloc | apply Kd.V_drewN | apply Kd.V_drew)); exact HO_0.out) (Kd.R_base ho0) hb); replace HO_7 := Aside0.mk (Kd.R_below (by (with_reducible repeat (first | apply Kd.R_alloc | apply Kd.R_drewN | apply Kd.R_drew)); exact HO_7.out) hb); replace HO_433000 := Aside0.mk (Kd.R_below (by (with_reducible repeat (first | apply Kd.R_alloc | apply Kd.R_drewN | apply Kd.R_drew)); exact HO_433000.out) hb); replace HO464 := Aside0.mk (Kd.R_below (by (with_reducible repeat (first | apply Kd.R_alloc | apply Kd.R_drewN | apply Kd.R_drew)); exact HO464.out) hb); replace HO471 := Aside0.mk (Kd.R_below (by (with_reducible repeat (first | apply Kd.R_alloc | apply Kd.R_drewN | apply Kd.R_drew)); exact HO471.out) hb); have HO474 := Aside0.mk (Kd.R_lower ho0 (below_size (by repeat (first | (with_reducible first | exact HB.out | apply below_alloc | apply pw_below_drewN | apply below_drew1 | refine below_set ?_ GE432.out) | exact HB.out)))); replace BK432 := Aside0.mk (blk_below (g := gb432) (o := .cells #[.slice Ao9 t429.length co9] 25 (0, 0)) (by (with_reducible repeat (first | refine blk_drewN ?_ _ | refine blk_drew ?_ | refine blk_alloc ?_ _)); exact BK432.out) hb); replace HB := Aside0.mk (below_step (by repeat (first | (with_reducible first | exact HB.out | apply below_alloc | apply pw_below_drewN | apply below_drew1 | refine below_set ?_ GE432.out) | exact HB.out)) hb)) | (go_at_call 27; (with_reducible refine (numeraryref02_Of.calls k2 a1 t475 _ A81.out).mono ?_); rintro e w94 ⟨v476, rfl, ho0, hb⟩; replace HO_0 := Aside0.mk (Kd.V_elder' (by (with_reducible repeat (first | apply Kd.V_alloc | apply Kd.V_drewN | apply Kd.V_drew)); exact HO_0.out) (Kd.R_base ho0) hb); replace HO_7 := Aside0.mk (Kd.R_below (by (with_reducible repeat (first | apply Kd.R_alloc | apply Kd.R_drewN | apply Kd.R_drew)); exact HO_7.out) hb); replace HO_433000 := Aside0.mk (Kd.R_below (by (with_reducible repeat (first | apply Kd.R_alloc | apply Kd.R_drewN | apply Kd.R_drew)); exact HO_433000.out) hb); replace HO464 := Aside0.mk (Kd.R_below (by (with_reducible repeat (first | apply Kd.R_alloc | apply Kd.R_drewN | apply Kd.R_drew)); exact HO464.out) hb); replace HO471 := Aside0.mk (Kd.R_below (by (with_reducible repeat (first | apply Kd.R_alloc | apply Kd.R_drewN | apply Kd.R_drew)); exact HO471.out) hb); have HO477 := Aside0.mk (Kd.R_lower (Kd.R_new' ho0 (Kd.R_lt (by (with_reducible repeat (first | apply Kd.R_alloc | apply Kd.R_drewN | apply Kd.R_drew)); exact HO474.out))) (below_size (by repeat (first | (with_reducible first | exact HB.out | apply below_alloc | apply pw_below_drewN | apply below_drew1 | refine below_set ?_ GE432.out) | exact HB.out)))); replace HO474 := Aside0.mk (Kd.R_elder' (by (with_reducible repeat (first | apply Kd.R_alloc | apply Kd.R_drewN | apply Kd.R_drew)); exact HO474.out) (Kd.R_base ho0) hb); replace BK432 := Aside0.mk (blk_below (g := gb432) (o := .cells #[.slice Ao9 t429.length co9] 25 (0, 0)) (by (with_reducible repeat (first | refine blk_drewN ?_ _ | refine blk_drew ?_ | refine blk_alloc ?_ _)); exact BK432.out) hb); replace HB := Aside0.mk (below_step (by repeat (first | (with_reducible first | exact HB.out | apply below_alloc | apply pw_below_drewN | apply below_drew1 | refine below_set ?_ GE432.out) | exact HB.out)) hb); obtain ⟨Ao95, co95, eo95⟩ := Kd.R_slice HO474.out; subst eo95; obtain ⟨Ao96, co96, eo96⟩ := Kd.R_slice HO477.out; subst eo96) | (go_at_call 34; (with_reducible refine (numerarylaw02_same.calls k2 _ _ t472 _ _ t475 t478 _ ?side1 ?side2 ?side3 ?side4 A82.out).mono ?_); (case side1 => repeat (first | exact (Kd.R_reads' HO474.out).2.2 | (with_reducible refine Kd.C_alloc ?_ _) | (with_reducible refine Kd.C_drewN ?_ _) | (with_reducible refine Kd.C_drew ?_))); (case side2 => exact (Kd.R_reads' HO474.out).2.1); (case side3 => repeat (first | exact (Kd.R_reads' HO477.out).2.2 | (with_reducible refine Kd.C_alloc ?_ _) | (with_reducible refine Kd.C_drewN ?_ _) | (with_reducible refine Kd.C_drew ?_))); (case side4 => exact (Kd.R_reads' HO477.out).2.1); rintro e w' ⟨rfl, ⟨nd, rfl⟩⟩; (try first | exact ⟨rfl, _, World.drewN_drewN _ _ _⟩ | exact ⟨rfl, _, Eq.trans (World.drewN_drewN _ _ _) (congrArg (World.drewN _) (Nat.add_assoc _ _ _))⟩)))
            repeat (go_quiet (first | (go_at_call 29; (fail_if_success have z_ := w84); (with_reducible refine (nat_Nat_Small.calls k2 _ _ t429 t460 t461 _ ?side1 ?side2 A68.out).mono ?_); (case side1 => repeat (first | exact (Kd.R_reads' HO_433000.out).2.2 | (with_reducible refine Kd.C_alloc ?_ _) | (with_reducible refine Kd.C_drewN ?_ _) | (with_reducible refine Kd.C_drew ?_))); (case side2 => exact (Kd.R_reads' HO_433000.out).2.1); rintro e w84 ⟨rfl, hb⟩; replace HO_0 := Aside0.mk (Kd.V_below (by (with_reducible repeat (first | apply Kd.V_alloc | apply Kd.V_drewN | apply Kd.V_drew)); exact HO_0.out) hb); replace HO_7 := Aside0.mk (Kd.R_below (by (with_reducible repeat (first | apply Kd.R_alloc | apply Kd.R_drewN | apply Kd.R_drew)); exact HO_7.out) hb); replace HO_433000 := Aside0.mk (Kd.R_below (by (with_reducible repeat (first | apply Kd.R_alloc | apply Kd.R_drewN | apply Kd.R_drew)); exact HO_433000.out) hb); replace BK432 := Aside0.mk (blk_below (g := gb432) (o := .cells #[.slice Ao9 t429.length co9] 25 (0, 0)) (by (with_reducible repeat (first | refine blk_drewN ?_ _ | refine blk_drew ?_ | refine blk_alloc ?_ _)); exact BK432.out) hb); replace HB := Aside0.mk (below_step (by repeat (first | (with_reducible first | exact HB.out | apply below_alloc | apply pw_below_drewN | apply below_drew1 | refine below_set ?_ GE432.out) | exact HB.out)) hb)) | (go_at_call 26; (fail_if_success have z_ := w85); (with_reducible refine (nat_Of.calls k2 a1 t462 _ A69.out).mono ?_); rintro e w85 ⟨v463, rfl, ho0, hb⟩; replace HO_0 := Aside0.mk (Kd.V_elder' (by (with_reducible repeat (first | apply Kd.V_alloc | apply Kd.V_drewN | apply Kd.V_drew)); exact HO_0.out) (Kd.R_base ho0) hb); have HO464 := Aside0.mk (Kd.R_lower (Kd.R_new' (Kd.R_new' ho0 (Kd.R_lt (by (with_reducible repeat (first | apply Kd.R_alloc | apply Kd.R_drewN | apply Kd.R_drew)); exact HO_7.out))) (Kd.R_lt (by (with_reducible repeat (first | apply Kd.R_alloc | apply Kd.R_drewN | apply Kd.R_drew)); exact HO_433000.out))) (below_size (by repeat (first | (with_reducible first | exact HB.out | apply below_alloc | apply pw_below_drewN | apply below_drew1 | refine below_set ?_ GE432.out) | exact HB.out)))); replace HO_7 := Aside0.mk (Kd.R_elder' (by (with_reducible repeat (first | apply Kd.R_alloc | apply Kd.R_drewN | apply Kd.R_drew)); exact HO_7.out) (Kd.R_base ho0) hb); replace HO_433000 := Aside0.mk (Kd.R_elder' (by (with_reducible repeat (first | apply Kd.R_alloc | apply Kd.R_drewN | apply Kd.R_drew)); exact HO_433000.out) (Kd.R_base ho0) hb); replace BK432 := Aside0.mk (blk_below (g := gb432) (o := .cells #[.slice Ao9 t429.length co9] 25 (0, 0)) (by (with_reducible repeat (first | refine blk_drewN ?_ _ | refine blk_drew ?_ | refine blk_alloc ?_ _)); exact BK432.out) hb); replace HB := Aside0.mk (below_step (by repeat (first | (with_reducible first | exact HB.out | apply below_alloc | apply pw_below_drewN | apply below_drew1 | refine below_set ?_ GE432.out) | exact HB.out)) hb); obtain ⟨Ao86, co86, eo86⟩ := Kd.R_slice HO464.out; subst eo86) | (go_at_call 29; (fail_if_success have z_ := w87); (with_reducible refine (nat_Nat_Small.calls k2 _ _ t462 t465 true _ ?side1 ?side2 A70.out).mono ?_); (case side1 => repeat (first | exact (Kd.R_reads' HO464.out).2.2 | (with_reducible refine Kd.C_alloc ?_ _) | (with_reducible refine Kd.C_drewN ?_ _) | (with_reducible refine Kd.C_drew ?_))); (case side2 => exact (Kd.R_reads' HO464.out).2.1); rintro e w87 ⟨rfl, hb⟩; replace HO_0 := Aside0.mk (Kd.V_below (by (with_reducible repeat (first | apply Kd.V_alloc | apply Kd.V_drewN | apply Kd.V_drew)); exact HO_0.out) hb); replace HO_7 := Aside0.mk (Kd.R_below (by (with_reducible repeat (first | apply Kd.R_alloc | apply Kd.R_drewN | apply Kd.R_drew)); exact HO_7.out) hb); replace HO_433000 := Aside0.mk (Kd.R_below (by (with_reducible repeat (first | apply Kd.R_alloc | apply Kd.R_drewN | apply Kd.R_drew)); exact HO_433000.out) hb); replace HO464 := Aside0.mk (Kd.R_below (by (with_reducible repeat (first | apply Kd.R_alloc | apply Kd.R_drewN | apply Kd.R_drew)); exact HO464.out) hb); replace BK432 := Aside0.mk (blk_below (g := gb432) (o := .cells #[.slice Ao9 t429.length co9] 25 (0, 0)) (by (with_reducible repeat (first | refine blk_drewN ?_ _ | refine blk_drew ?_ | refine blk_alloc ?_ _)); exact BK432.out) hb); replace HB := Aside0.mk (below_step (by repeat (first | (with_reducible first | exact HB.out | apply below_alloc | apply pw_below_drewN | apply below_drew1 | refine below_set ?_ GE432.out) | exact HB.out)) hb)) | (go_at_call 32; (fail_if_success have z_ := w88); (with_reducible refine (numerarylaw02_wakes.calls k2  true _ A71.out).mono ?_); rintro e w88 ⟨rfl, hb⟩; replace HO_0 := Aside0.mk (Kd.V_below (by (with_reducible repeat (first | apply Kd.V_alloc | apply Kd.V_drewN | apply Kd.V_drew)); exact HO_0.out) hb); replace HO_7 := Aside0.mk (Kd.R_below (by (with_reducible repeat (first | apply Kd.R_alloc | apply Kd.R_drewN | apply Kd.R_drew)); exact HO_7.out) hb); replace HO_433000 := Aside0.mk (Kd.R_below (by (with_reducible repeat (first | apply Kd.R_alloc | apply Kd.R_drewN | apply Kd.R_drew)); exact HO_433000.out) hb); replace HO464 := Aside0.mk (Kd.R_below (by (with_reducible repeat (first | apply Kd.R_alloc | apply Kd.R_drewN | apply Kd.R_drew)); exact HO464.out) hb); replace BK432 := Aside0.mk (blk_below (g := gb432) (o := .cells #[.slice Ao9 t429.length co9] 25 (0, 0)) (by (with_reducible repeat (first | refine blk_drewN ?_ _ | refine blk_drew ?_ | refine blk_alloc ?_ _)); exact BK432.out) hb); replace HB := Aside0.mk (below_step (by repeat (first | (with_reducible first | exact HB.out | apply below_alloc | apply pw_below_drewN | apply below_drew1 | refine below_set ?_ GE432.out) | exact HB.out)) hb); have hcz89_0 : w88.cell? ⟨gb432, 0, none⟩ = some (.slice Ao9 t429.length co9) := (blk_cell BK432.out 0).trans rfl; have hfz89_0 := blk_frozen BK432.out 0) | (go_at_call 33; (fail_if_success have z_ := w90); (with_reducible refine (nat_Nat_Bits.calls _ _ t429 t468 _ ?side1 ?side2 A73.out).mono ?_); (case side1 => repeat (first | exact (Kd.R_reads' HO_433000.out).2.2 | (with_reducible refine Kd.C_alloc ?_ _) | (with_reducible refine Kd.C_drewN ?_ _) | (with_reducible refine Kd.C_drew ?_))); (case side2 => exact (Kd.R_reads' HO_433000.out).2.1); rintro e w90 ⟨rfl, hb⟩; replace HO_0 := Aside0.mk (Kd.V_below (by (with_reducible repeat (first | apply Kd.V_alloc | apply Kd.V_drewN | apply Kd.V_drew)); exact HO_0.out) hb); replace HO_7 := Aside0.mk (Kd.R_below (by (with_reducible repeat (first | apply Kd.R_alloc | apply Kd.R_drewN | apply Kd.R_drew)); exact HO_7.out) hb); replace HO_433000 := Aside0.mk (Kd.R_below (by (with_reducible repeat (first | apply Kd.R_alloc | apply Kd.R_drewN | apply Kd.R_drew)); exact HO_433000.out) hb); replace HO464 := Aside0.mk (Kd.R_below (by (with_reducible repeat (first | apply Kd.R_alloc | apply Kd.R_drewN | apply Kd.R_drew)); exact HO464.out) hb); replace BK432 := Aside0.mk (blk_below (g := gb432) (o := .cells #[.slice Ao9 t429.length co9] 25 (0, 0)) (by (with_reducible repeat (first | refine blk_drewN ?_ _ | refine blk_drew ?_ | refine blk_alloc ?_ _)); exact BK432.out) hb); replace HB := Aside0.mk (below_step (by repeat (first | (with_reducible first | exact HB.out | apply below_alloc | apply pw_below_drewN | apply below_drew1 | refine below_set ?_ GE432.out) | exact HB.out)) hb)) | (go_at_call 26; (fail_if_success have z_ := w91); (with_reducible refine (nat_Of.calls k2 a1 t469 _ A79.out).mono ?_); rintro e w91 ⟨v470, rfl, ho0, hb⟩; replace HO_0 := Aside0.mk (Kd.V_elder' (by (with_reducible repeat (first | apply Kd.V_alloc | apply Kd.V_drewN | apply Kd.V_drew)); exact HO_0.out) (Kd.R_base ho0) hb); have HO471 := Aside0.mk (Kd.R_lower (Kd.R_new' (Kd.R_new' (Kd.R_new' ho0 (Kd.R_lt (by (with_reducible repeat (first | apply Kd.R_alloc | apply Kd.R_drewN | apply Kd.R_drew)); exact HO_7.out))) (Kd.R_lt (by (with_reducible repeat (first | apply Kd.R_alloc | apply Kd.R_drewN | apply Kd.R_drew)); exact HO_433000.out))) (Kd.R_lt (by (with_reducible repeat (first | apply Kd.R_alloc | apply Kd.R_drewN | apply Kd.R_drew)); exact HO464.out))) (below_size (by repeat (first | (with_reducible first | exact HB.out | apply below_alloc | apply pw_below_drewN | apply below_drew1 | refine below_set ?_ GE432.out) | exact HB.out)))); replace HO_7 := Aside0.mk (Kd.R_elder' (by (with_reducible repeat (first | apply Kd.R_alloc | apply Kd.R_drewN | apply Kd.R_drew)); exact HO_7.out) (Kd.R_base ho0) hb); replace HO_433000 := Aside0.mk (Kd.R_elder' (by (with_reducible repeat (first | apply Kd.R_alloc | apply Kd.R_drewN | apply Kd.R_drew)); exact HO_433000.out) (Kd.R_base ho0) hb); replace HO464 := Aside0.mk (Kd.R_elder' (by (with_reducible repeat (first | apply Kd.R_alloc | apply Kd.R_drewN | apply Kd.R_drew)); exact HO464.out) (Kd.R_base ho0) hb); replace BK432 := Aside0.mk (blk_below (g := gb432) (o := .cells #[.slice Ao9 t429.length co9] 25 (0, 0)) (by (with_reducible repeat (first | refine blk_drewN ?_ _ | refine blk_drew ?_ | refine blk_alloc ?_ _)); exact BK432.out) hb); replace HB := Aside0.mk (below_step (by repeat (first | (with_reducible first | exact HB.out | apply below_alloc | apply pw_below_drewN | apply below_drew1 | refine below_set ?_ GE432.out) | exact HB.out)) hb); obtain ⟨Ao92, co92, eo92⟩ := Kd.R_slice HO471.out; subst eo92) | (go_at_call 35; (fail_if_success have z_ := w93); (with_reducible refine (numerarylaw02_of.calls k2 _ _ t469 t472 _ ?side1 ?side2 A80.out).mono ?_); (case side1 => repeat (first | exact (Kd.R_reads' HO471.out).2.2 | (with_reducible refine Kd.C_alloc ?_ _) | (with_reducible refine Kd.C_drewN ?_ _) | (with_reducible refine Kd.C_drew ?_))); (case side2 => exact (Kd.R_reads' HO471.out).2.1); rintro e w93 ⟨v473, rfl, ho0, hb⟩; replace HO_0 := Aside0.mk (Kd.V_elder' (by (with_reducible repeat (first | apply Kd.V_alloc | apply Kd.V_drewN | apply Kd.V_drew)); exact HO_0.out) (Kd.R_base ho0) hb); replace HO_7 := Aside0.mk (Kd.R_below (by (with_reducible repeat (first | apply Kd.R_alloc | apply Kd.R_drewN | apply Kd.R_drew)); exact HO_7.out) hb); replace HO_433000 := Aside0.mk (Kd.R_below (by (with_reducible repeat (first | apply Kd.R_alloc | apply Kd.R_drewN | apply Kd.R_drew)); exact HO_433000.out) hb); replace HO464 := Aside0.mk (Kd.R_below (by (with_reducible repeat (first | apply Kd.R_alloc | apply Kd.R_drewN | apply Kd.R_drew)); exact HO464.out) hb); replace HO471 := Aside0.mk (Kd.R_below (by (with_reducible repeat (first | apply Kd.R_alloc | apply Kd.R_drewN | apply Kd.R_drew)); exact HO471.out) hb); have HO474 := Aside0.mk (Kd.R_lower ho0 (below_size (by repeat (first | (with_reducible first | exact HB.out | apply below_alloc | apply pw_below_drewN | apply below_drew1 | refine below_set ?_ GE432.out) | exact HB.out)))); replace BK432 := Aside0.mk (blk_below (g := gb432) (o := .cells #[.slice Ao9 t429.length co9] 25 (0, 0)) (by (with_reducible repeat (first | refine blk_drewN ?_ _ | refine blk_drew ?_ | refine blk_alloc ?_ _)); exact BK432.out) hb); replace HB := Aside0.mk (below_step (by repeat (first | (with_reducible first | exact HB.out | apply below_alloc | apply pw_below_drewN | apply below_drew1 | refine below_set ?_ GE432.out) | exact HB.out)) hb)) | (go_at_call 27; (fail_if_success have z_ := w94); (with_reducible refine (numeraryref02_Of.calls k2 a1 t475 _ A81.out).mono ?_); rintro e w94 ⟨v476, rfl, ho0, hb⟩; replace HO_0 := Aside0.mk (Kd.V_elder' (by (with_reducible repeat (first | apply Kd.V_alloc | apply Kd.V_drewN | apply Kd.V_drew)); exact HO_0.out) (Kd.R_base ho0) hb); replace HO_7 := Aside0.mk (Kd.R_below (by (with_reducible repeat (first | apply Kd.R_alloc | apply Kd.R_drewN | apply Kd.R_drew)); exact HO_7.out) hb); replace HO_433000 := Aside0.mk (Kd.R_below (by (with_reducible repeat (first | apply Kd.R_alloc | apply Kd.R_drewN | apply Kd.R_drew)); exact HO_433000.out) hb); replace HO464 := Aside0.mk (Kd.R_below (by (with_reducible repeat (first | apply Kd.R_alloc | apply Kd.R_drewN | apply Kd.R_drew)); exact HO464.out) hb); replace HO471 := Aside0.mk (Kd.R_below (by (with_reducible repeat (first | apply Kd.R_alloc | apply Kd.R_drewN | apply Kd.R_drew)); exact HO471.out) hb); have HO477 := Aside0.mk (Kd.R_lower (Kd.R_new' ho0 (Kd.R_lt (by (with_reducible repeat (first | apply Kd.R_alloc | apply Kd.R_drewN | apply Kd.R_drew)); exact HO474.out))) (below_size (by repeat (first | (with_reducible first | exact HB.out | apply below_alloc | apply pw_below_drewN | apply below_drew1 | refine below_set ?_ GE432.out) | exact HB.out)))); replace HO474 := Aside0.mk (Kd.R_elder' (by (with_reducible repeat (first | apply Kd.R_alloc | apply Kd.R_drewN | apply Kd.R_drew)); exact HO474.out) (Kd.R_base ho0) hb); replace BK432 := Aside0.mk (blk_below (g := gb432) (o := .cells #[.slice Ao9 t429.length co9] 25 (0, 0)) (by (with_reducible repeat (first | refine blk_drewN ?_ _ | refine blk_drew ?_ | refine blk_alloc ?_ _)); exact BK432.out) hb); replace HB := Aside0.mk (below_step (by repeat (first | (with_reducible first | exact HB.out | apply below_alloc | apply pw_below_drewN | apply below_drew1 | refine below_set ?_ GE432.out) | exact HB.out)) hb); obtain ⟨Ao95, co95, eo95⟩ := Kd.R_slice HO474.out; subst eo95; obtain ⟨Ao96, co96, eo96⟩ := Kd.R_slice HO477.out; subst eo96) | (go_at_call 34; (with_reducible refine (numerarylaw02_same.calls k2 _ _ t472 _ _ t475 t478 _ ?side1 ?side2 ?side3 ?side4 A82.out).mono ?_); (case side1 => repeat (first | exact (Kd.R_reads' HO474.out).2.2 | (with_reducible refine Kd.C_alloc ?_ _) | (with_reducible refine Kd.C_drewN ?_ _) | (with_reducible refine Kd.C_drew ?_))); (case side2 => exact (Kd.R_reads' HO474.out).2.1); (case side3 => repeat (first | exact (Kd.R_reads' HO477.out).2.2 | (with_reducible refine Kd.C_alloc ?_ _) | (with_reducible refine Kd.C_drewN ?_ _) | (with_reducible refine Kd.C_drew ?_))); (case side4 => exact (Kd.R_reads' HO477.out).2.1); rintro e w' ⟨rfl, ⟨nd, rfl⟩⟩; (try first | exact ⟨rfl, _, World.drewN_drewN _ _ _⟩ | exact ⟨rfl, _, Eq.trans (World.drewN_drewN _ _ _) (congrArg (World.drewN _) (Nat.add_assoc _ _ _))⟩))); try go_wp2_with (first | (go_at_call 29; (fail_if_success have z_ := w84); (with_reducible refine (nat_Nat_Small.calls k2 _ _ t429 t460 t461 _ ?side1 ?side2 A68.out).mono ?_); (case side1 => repeat (first | exact (Kd.R_reads' HO_433000.out).2.2 | (with_reducible refine Kd.C_alloc ?_ _) | (with_reducible refine Kd.C_drewN ?_ _) | (with_reducible refine Kd.C_drew ?_))); (case side2 => exact (Kd.R_reads' HO_433000.out).2.1); rintro e w84 ⟨rfl, hb⟩; replace HO_0 := Aside0.mk (Kd.V_below (by (with_reducible repeat (first | apply Kd.V_alloc | apply Kd.V_drewN | apply Kd.V_drew)); exact HO_0.out) hb); replace HO_7 := Aside0.mk (Kd.R_below (by (with_reducible repeat (first | apply Kd.R_alloc | apply Kd.R_drewN | apply Kd.R_drew)); exact HO_7.out) hb); replace HO_433000 := Aside0.mk (Kd.R_below (by (with_reducible repeat (first | apply Kd.R_alloc | apply Kd.R_drewN | apply Kd.R_drew)); exact HO_433000.out) hb); replace BK432 := Aside0.mk (blk_below (g := gb432) (o := .cells #[.slice Ao9 t429.length co9] 25 (0, 0)) (by (with_reducible repeat (first | refine blk_drewN ?_ _ | refine blk_drew ?_ | refine blk_alloc ?_ _)); exact BK432.out) hb); replace HB := Aside0.mk (below_step (by repeat (first | (with_reducible first | exact HB.out | apply below_alloc | apply pw_below_drewN | apply below_drew1 | refine below_set ?_ GE432.out) | exact HB.out)) hb)) | (go_at_call 26; (fail_if_success have z_ := w85); (with_reducible refine (nat_Of.calls k2 a1 t462 _ A69.out).mono ?_); rintro e w85 ⟨v463, rfl, ho0, hb⟩; replace HO_0 := Aside0.mk (Kd.V_elder' (by (with_reducible repeat (first | apply Kd.V_alloc | apply Kd.V_drewN | apply Kd.V_drew)); exact HO_0.out) (Kd.R_base ho0) hb); have HO464 := Aside0.mk (Kd.R_lower (Kd.R_new' (Kd.R_new' ho0 (Kd.R_lt (by (with_reducible repeat (first | apply Kd.R_alloc | apply Kd.R_drewN | apply Kd.R_drew)); exact HO_7.out))) (Kd.R_lt (by (with_reducible repeat (first | apply Kd.R_alloc | apply Kd.R_drewN | apply Kd.R_drew)); exact HO_433000.out))) (below_size (by repeat (first | (with_reducible first | exact HB.out | apply below_alloc | apply pw_below_drewN | apply below_drew1 | refine below_set ?_ GE432.out) | exact HB.out)))); replace HO_7 := Aside0.mk (Kd.R_elder' (by (with_reducible repeat (first | apply Kd.R_alloc | apply Kd.R_drewN | apply Kd.R_drew)); exact HO_7.out) (Kd.R_base ho0) hb); replace HO_433000 := Aside0.mk (Kd.R_elder' (by (with_reducible repeat (first | apply Kd.R_alloc | apply Kd.R_drewN | apply Kd.R_drew)); exact HO_433000.out) (Kd.R_base ho0) hb); replace BK432 := Aside0.mk (blk_below (g := gb432) (o := .cells #[.slice Ao9 t429.length co9] 25 (0, 0)) (by (with_reducible repeat (first | refine blk_drewN ?_ _ | refine blk_drew ?_ | refine blk_alloc ?_ _)); exact BK432.out) hb); replace HB := Aside0.mk (below_step (by repeat (first | (with_reducible first | exact HB.out | apply below_alloc | apply pw_below_drewN | apply below_drew1 | refine below_set ?_ GE432.out) | exact HB.out)) hb); obtain ⟨Ao86, co86, eo86⟩ := Kd.R_slice HO464.out; subst eo86) | (go_at_call 29; (with_reducible refine (nat_Nat_Small.calls k2 _ _ t462 t465 true _ ?side1 ?side2 A70.out).mono ?_); (case side1 => repeat (first | exact (Kd.R_reads' HO464.out).2.2 | (with_reducible refine Kd.C_alloc ?_ _) | (with_reducible refine Kd.C_drewN ?_ _) | (with_reducible refine Kd.C_drew ?_))); (case side2 => exact (Kd.R_reads' HO464.out).2.1); rintro e w87 ⟨rfl, hb⟩; replace HO_0 := Aside0.mk (Kd.V_below (by (with_reducible repeat (first | apply Kd.V_alloc | apply Kd.V_drewN | apply Kd.V_drew)); exact HO_0.out) hb); replace HO_7 := Aside0.mk (Kd.R_below (by (with_reducible repeat (first | apply Kd.R_alloc | apply Kd.R_drewN | apply Kd.R_drew)); exact HO_7.out) hb); replace HO_433000 := Aside0.mk (Kd.R_below (by (with_reducible repeat (first | apply Kd.R_alloc | apply Kd.R_drewN | apply Kd.R_drew)); exact HO_433000.out) hb); replace HO464 := Aside0.mk (Kd.R_below (by (with_reducible repeat (first | apply Kd.R_alloc | apply Kd.R_drewN | apply Kd.R_drew)); exact HO464.out) hb); replace BK432 := Aside0.mk (blk_below (g := gb432) (o := .cells #[.slice Ao9 t429.length co9] 25 (0, 0)) (by (with_reducible repeat (first | refine blk_drewN ?_ _ | refine blk_drew ?_ | refine blk_alloc ?_ _)); exact BK432.out) hb); replace HB := Aside0.mk (below_step (by repeat (first | (with_reducible first | exact HB.out | apply below_alloc | apply pw_below_drewN | apply below_drew1 | refine below_set ?_ GE432.out) | exact HB.out)) hb)) | (go_at_call 32; (with_reducible refine (numerarylaw02_wakes.calls k2  true _ A71.out).mono ?_); rintro e w88 ⟨rfl, hb⟩; replace HO_0 := Aside0.mk (Kd.V_below (by (with_reducible repeat (first | apply Kd.V_alloc | apply Kd.V_drewN | apply Kd.V_drew)); exact HO_0.out) hb); replace HO_7 := Aside0.mk (Kd.R_below (by (with_reducible repeat (first | apply Kd.R_alloc | apply Kd.R_drewN | apply Kd.R_drew)); exact HO_7.out) hb); replace HO_433000 := Aside0.mk (Kd.R_below (by (with_reducible repeat (first | apply Kd.R_alloc | apply Kd.R_drewN | apply Kd.R_drew)); exact HO_433000.out) hb); replace HO464 := Aside0.mk (Kd.R_below (by (with_reducible repeat (first | apply Kd.R_alloc | apply Kd.R_drewN | apply Kd.R_drew)); exact HO464.out) hb); replace BK432 := Aside0.mk (blk_below (g := gb432) (o := .cells #[.slice Ao9 t429.length co9] 25 (0, 0)) (by (with_reducible repeat (first | refine blk_drewN ?_ _ | refine blk_drew ?_ | refine blk_alloc ?_ _)); exact BK432.out) hb); replace HB := Aside0.mk (below_step (by repeat (first | (with_reducible first | exact HB.out | apply below_alloc | apply pw_below_drewN | apply below_drew1 | refine below_set ?_ GE432.out) | exact HB.out)) hb); have hcz89_0 : w88.cell? ⟨gb432, 0, none⟩ = some (.slice Ao9 t429.length co9) := (blk_cell BK432.out 0).trans rfl; have hfz89_0 := blk_frozen BK432.out 0) | (go_at_call 33; (with_reducible refine (nat_Nat_Bits.calls _ _ t429 t468 _ ?side1 ?side2 A73.out).mono ?_); (case side1 => repeat (first | exact (Kd.R_reads' HO_433000.out).2.2 | (with_reducible refine Kd.C_alloc ?_ _) | (with_reducible refine Kd.C_drewN ?_ _) | (with_reducible refine Kd.C_drew ?_))); (case side2 => exact (Kd.R_reads' HO_433000.out).2.1); rintro e w90 ⟨rfl, hb⟩; replace HO_0 := Aside0.mk (Kd.V_below (by (with_reducible repeat (first | apply Kd.V_alloc | apply Kd.V_drewN | apply Kd.V_drew)); exact HO_0.out) hb); replace HO_7 := Aside0.mk (Kd.R_below (by (with_reducible repeat (first | apply Kd.R_alloc | apply Kd.R_drewN | apply Kd.R_drew)); exact HO_7.out) hb); replace HO_433000 := Aside0.mk (Kd.R_below (by (with_reducible repeat (first | apply Kd.R_alloc | apply Kd.R_drewN | apply Kd.R_drew)); exact HO_433000.out) hb); replace HO464 := Aside0.mk (Kd.R_below (by (with_reducible repeat (first | apply Kd.R_alloc | apply Kd.R_drewN | apply Kd.R_drew)); exact HO464.out) hb); replace BK432 := Aside0.mk (blk_below (g := gb432) (o := .cells #[.slice Ao9 t429.length co9] 25 (0, 0)) (by (with_reducible repeat (first | refine blk_drewN ?_ _ | refine blk_drew ?_ | refine blk_alloc ?_ _)); exact BK432.out) hb); replace HB := Aside0.mk (below_step (by repeat (first | (with_reducible first | exact HB.out | apply below_alloc | apply pw_below_drewN | apply below_drew1 | refine below_set ?_ GE432.out) | exact HB.out)) hb)) | (go_at_call 26; (with_reducible refine (nat_Of.calls k2 a1 t469 _ A79.out).mono ?_); rintro e w91 ⟨v470, rfl, ho0, hb⟩; replace HO_0 := Aside0.mk (Kd.V_elder' (by (with_reducible repeat (first | apply Kd.V_alloc | apply Kd.V_drewN | apply Kd.V_drew)); exact HO_0.out) (Kd.R_base ho0) hb); have HO471 := Aside0.mk (Kd.R_lower (Kd.R_new' (Kd.R_new' (Kd.R_new' ho0 (Kd.R_lt (by (with_reducible repeat (first | apply Kd.R_alloc | apply Kd.R_drewN | apply Kd.R_drew)); exact HO_7.out))) (Kd.R_lt (by (with_reducible repeat (first | apply Kd.R_alloc | apply Kd.R_drewN | apply Kd.R_drew)); exact HO_433000.out))) (Kd.R_lt (by (with_reducible repeat (first | apply Kd.R_alloc | apply Kd.R_drewN | apply Kd.R_drew)); exact HO464.out))) (below_size (by repeat (first | (with_reducible first | exact HB.out | apply below_alloc | apply pw_below_drewN | apply below_drew1 | refine below_set ?_ GE432.out) | exact HB.out)))); replace HO_7 := Aside0.mk (Kd.R_elder' (by (with_reducible repeat (first | apply Kd.R_alloc | apply Kd.R_drewN | apply Kd.R_drew)); exact HO_7.out) (Kd.R_base ho0) hb); replace HO_433000 := Aside0.mk (Kd.R_elder' (by (with_reducible repeat (first | apply Kd.R_alloc | apply Kd.R_drewN | apply Kd.R_drew)); exact HO_433000.out) (Kd.R_base ho0) hb); replace HO464 := Aside0.mk (Kd.R_elder' (by (with_reducible repeat (first | apply Kd.R_alloc | apply Kd.R_drewN | apply Kd.R_drew)); exact HO464.out) (Kd.R_base ho0) hb); replace BK432 := Aside0.mk (blk_below (g := gb432) (o := .cells #[.slice Ao9 t429.length co9] 25 (0, 0)) (by (with_reducible repeat (first | refine blk_drewN ?_ _ | refine blk_drew ?_ | refine blk_alloc ?_ _)); exact BK432.out) hb); replace HB := Aside0.mk (below_step (by repeat (first | (with_reducible first | exact HB.out | apply below_alloc | apply pw_below_drewN | apply below_drew1 | refine below_set ?_ GE432.out) | exact HB.out)) hb); obtain ⟨Ao92, co92, eo92⟩ := Kd.R_slice HO471.out; subst eo92) | (go_at_call 35; (with_reducible refine (numerarylaw02_of.calls k2 _ _ t469 t472 _ ?side1 ?side2 A80.out).mono ?_); (case side1 => repeat (first | exact (Kd.R_reads' HO471.out).2.2 | (with_reducible refine Kd.C_alloc ?_ _) | (with_reducible refine Kd.C_drewN ?_ _) | (with_reducible refine Kd.C_drew ?_))); (case side2 => exact (Kd.R_reads' HO471.out).2.1); rintro e w93 ⟨v473, rfl, ho0, hb⟩; replace HO_0 := Aside0.mk (Kd.V_elder' (by (with_reducible repeat (first | apply Kd.V_alloc | apply Kd.V_drewN | apply Kd.V_drew)); exact HO_0.out) (Kd.R_base ho0) hb); replace HO_7 := Aside0.mk (Kd.R_below (by (with_reducible repeat (first | apply Kd.R_alloc | apply Kd.R_drewN | apply Kd.R_drew)); exact HO_7.out) hb); replace HO_433000 := Aside0.mk (Kd.R_below (by (with_reducible repeat (first | apply Kd.R_alloc | apply Kd.R_drewN | apply Kd.R_drew)); exact HO_433000.out) hb); replace HO464 := Aside0.mk (Kd.R_below (by (with_reducible repeat (first | apply Kd.R_alloc | apply Kd.R_drewN | apply Kd.R_drew)); exact HO464.out) hb); replace HO471 := Aside0.mk (Kd.R_below (by (with_reducible repeat (first | apply Kd.R_alloc | apply Kd.R_drewN | apply Kd.R_drew)); exact HO471.out) hb); have HO474 := Aside0.mk (Kd.R_lower ho0 (below_size (by repeat (first | (with_reducible first | exact HB.out | apply below_alloc | apply pw_below_drewN | apply below_drew1 | refine below_set ?_ GE432.out) | exact HB.out)))); replace BK432 := Aside0.mk (blk_below (g := gb432) (o := .cells #[.slice Ao9 t429.length co9] 25 (0, 0)) (by (with_reducible repeat (first | refine blk_drewN ?_ _ | refine blk_drew ?_ | refine blk_alloc ?_ _)); exact BK432.out) hb); replace HB := Aside0.mk (below_step (by repeat (first | (with_reducible first | exact HB.out | apply below_alloc | apply pw_below_drewN | apply below_drew1 | refine below_set ?_ GE432.out) | exact HB.out)) hb)) | (go_at_call 27; (with_reducible refine (numeraryref02_Of.calls k2 a1 t475 _ A81.out).mono ?_); rintro e w94 ⟨v476, rfl, ho0, hb⟩; replace HO_0 := Aside0.mk (Kd.V_elder' (by (with_reducible repeat (first | apply Kd.V_alloc | apply Kd.V_drewN | apply Kd.V_drew)); exact HO_0.out) (Kd.R_base ho0) hb); replace HO_7 := Aside0.mk (Kd.R_below (by (with_reducible repeat (first | apply Kd.R_alloc | apply Kd.R_drewN | apply Kd.R_drew)); exact HO_7.out) hb); replace HO_433000 := Aside0.mk (Kd.R_below (by (with_reducible repeat (first | apply Kd.R_alloc | apply Kd.R_drewN | apply Kd.R_drew)); exact HO_433000.out) hb); replace HO464 := Aside0.mk (Kd.R_below (by (with_reducible repeat (first | apply Kd.R_alloc | apply Kd.R_drewN | apply Kd.R_drew)); exact HO464.out) hb); replace HO471 := Aside0.mk (Kd.R_below (by (with_reducible repeat (first | apply Kd.R_alloc | apply Kd.R_drewN | apply Kd.R_drew)); exact HO471.out) hb); have HO477 := Aside0.mk (Kd.R_lower (Kd.R_new' ho0 (Kd.R_lt (by (with_reducible repeat (first | apply Kd.R_alloc | apply Kd.R_drewN | apply Kd.R_drew)); exact HO474.out))) (below_size (by repeat (first | (with_reducible first | exact HB.out | apply below_alloc | apply pw_below_drewN | apply below_drew1 | refine below_set ?_ GE432.out) | exact HB.out)))); replace HO474 := Aside0.mk (Kd.R_elder' (by (with_reducible repeat (first | apply Kd.R_alloc | apply Kd.R_drewN | apply Kd.R_drew)); exact HO474.out) (Kd.R_base ho0) hb); replace BK432 := Aside0.mk (blk_below (g := gb432) (o := .cells #[.slice Ao9 t429.length co9] 25 (0, 0)) (by (with_reducible repeat (first | refine blk_drewN ?_ _ | refine blk_drew ?_ | refine blk_alloc ?_ _)); exact BK432.out) hb); replace HB := Aside0.mk (below_step (by repeat (first | (with_reducible first | exact HB.out | apply below_alloc | apply pw_below_drewN | apply below_drew1 | refine below_set ?_ GE432.out) | exact HB.out)) hb); obtain ⟨Ao95, co95, eo95⟩ := Kd.R_slice HO474.out; subst eo95; obtain ⟨Ao96, co96, eo96⟩ := Kd.R_slice HO477.out; subst eo96) | (go_at_call 34; (with_reducible refine (numerarylaw02_same.calls k2 _ _ t472 _ _ t475 t478 _ ?side1 ?side2 ?side3 ?side4 A82.out).mono ?_); (case side1 => repeat (first | exact (Kd.R_reads' HO474.out).2.2 | (with_reducible refine Kd.C_alloc ?_ _) | (with_reducible refine Kd.C_drewN ?_ _) | (with_reducible refine Kd.C_drew ?_))); (case side2 => exact (Kd.R_reads' HO474.out).2.1); (case side3 => repeat (first | exact (Kd.R_reads' HO477.out).2.2 | (with_reducible refine Kd.C_alloc ?_ _) | (with_reducible refine Kd.C_drewN ?_ _) | (with_reducible refine Kd.C_drew ?_))); (case side4 => exact (Kd.R_reads' HO477.out).2.1); rintro e w' ⟨rfl, ⟨nd, rfl⟩⟩; (try first | exact ⟨rfl, _, World.drewN_drewN _ _ _⟩ | exact ⟨rfl, _, Eq.trans (World.drewN_drewN _ _ _) (congrArg (World.drewN _) (Nat.add_assoc _ _ _))⟩))))
            go_ret
            exact ⟨by first | rfl | (simp [errW_none, errW_some] <;> rfl) | (simp only [← hji12]; first | rfl | (simp [errW_none, errW_some] <;> rfl)) | (simp [*, errW_none, errW_some] <;> rfl), by repeat (first | (with_reducible first | exact HB.out | apply below_alloc | apply pw_below_drewN | apply below_drew1 | refine below_set ?_ GE432.out) | exact HB.out)⟩
      rw [if_neg c11] at H
      have c11b0 : decide (0 < x6_1) = false := decide_eq_false c11
      clear c11
      replace H := Option.bind_eq_some_iff.mp H
      obtain ⟨t479, A970, H⟩ := H
      have A97 := Aside0.mk A970
      clear A970
      by_cases c98 : (t479.length : Int) = x6_1
      rotate_left
      · rw [if_neg c98] at H
        exact absurd (H.trans (congrArg some HR_.out)) (by simp)

      rw [if_pos c98] at H
      have c98b0 : ((t479.length : Int) == x6_1) = true := beq_iff_eq.mpr c98
      have c98b1 : ((t479.length : Int) != x6_1) = false := bne_eq_false_iff_eq.mpr c98
      clear c98
      have H' := Aside0.mk H
      clear H
      have hcz99_0 : wr.cell? ⟨gb432, 0, none⟩ = some (.slice Ao9 t429.length co9) := (blk_cell BK432.out 0).trans rfl
      have hfz99_0 := blk_frozen BK432.out 0
      go_wp2_with (first | (go_at_call 31; (with_reducible refine (nat_Nat_Limbs.calls _ _ t429 t479 _ ?side1 ?side2 A97.out).mono ?_); (case side1 => repeat (first | exact (Kd.R_reads' HO_433000.out).2.2 | (with_reducible refine Kd.C_alloc ?_ _) | (with_reducible refine Kd.C_drewN ?_ _) | (with_reducible refine Kd.C_drew ?_))); (case side2 => exact (Kd.R_reads' HO_433000.out).2.1); rintro e w100 ⟨v480, rfl, ho0, hb⟩; replace HO_0 := Aside0.mk (Kd.V_elder' (by (with_reducible repeat (first | apply Kd.V_alloc | apply Kd.V_drewN | apply Kd.V_drew)); exact HO_0.out) (Kd.R_base ho0) hb); have HO481 := Aside0.mk (Kd.R_lower (Kd.R_new' ho0 (Kd.R_lt (by (with_reducible repeat (first | apply Kd.R_alloc | apply Kd.R_drewN | apply Kd.R_drew)); exact HO_433000.out))) (below_size (by repeat (first | (with_reducible first | exact HB.out | apply below_alloc | apply pw_below_drewN | apply below_drew1 | refine below_set ?_ GE432.out) | exact HB.out)))); replace HO_433000 := Aside0.mk (Kd.R_elder' (by (with_reducible repeat (first | apply Kd.R_alloc | apply Kd.R_drewN | apply Kd.R_drew)); exact HO_433000.out) (Kd.R_base ho0) hb); replace BK432 := Aside0.mk (blk_below (g := gb432) (o := .cells #[.slice Ao9 t429.length co9] 25 (0, 0)) (by (with_reducible repeat (first | refine blk_drewN ?_ _ | refine blk_drew ?_ | refine blk_alloc ?_ _)); exact BK432.out) hb); replace HB := Aside0.mk (below_step (by repeat (first | (with_reducible first | exact HB.out | apply below_alloc | apply pw_below_drewN | apply below_drew1 | refine below_set ?_ GE432.out) | exact HB.out)) hb); obtain ⟨Ao101, co101, eo101⟩ := Kd.R_slice HO481.out; subst eo101))
      repeat (go_quiet (first | (go_at_call 31; (fail_if_success have z_ := w100); (with_reducible refine (nat_Nat_Limbs.calls _ _ t429 t479 _ ?side1 ?side2 A97.out).mono ?_); (case side1 => repeat (first | exact (Kd.R_reads' HO_433000.out).2.2 | (with_reducible refine Kd.C_alloc ?_ _) | (with_reducible refine Kd.C_drewN ?_ _) | (with_reducible refine Kd.C_drew ?_))); (case side2 => exact (Kd.R_reads' HO_433000.out).2.1); rintro e w100 ⟨v480, rfl, ho0, hb⟩; replace HO_0 := Aside0.mk (Kd.V_elder' (by (with_reducible repeat (first | apply Kd.V_alloc | apply Kd.V_drewN | apply Kd.V_drew)); exact HO_0.out) (Kd.R_base ho0) hb); have HO481 := Aside0.mk (Kd.R_lower (Kd.R_new' ho0 (Kd.R_lt (by (with_reducible repeat (first | apply Kd.R_alloc | apply Kd.R_drewN | apply Kd.R_drew)); exact HO_433000.out))) (below_size (by repeat (first | (with_reducible first | exact HB.out | apply below_alloc | apply pw_below_drewN | apply below_drew1 | refine below_set ?_ GE432.out) | exact HB.out)))); replace HO_433000 := Aside0.mk (Kd.R_elder' (by (with_reducible repeat (first | apply Kd.R_alloc | apply Kd.R_drewN | apply Kd.R_drew)); exact HO_433000.out) (Kd.R_base ho0) hb); replace BK432 := Aside0.mk (blk_below (g := gb432) (o := .cells #[.slice Ao9 t429.length co9] 25 (0, 0)) (by (with_reducible repeat (first | refine blk_drewN ?_ _ | refine blk_drew ?_ | refine blk_alloc ?_ _)); exact BK432.out) hb); replace HB := Aside0.mk (below_step (by repeat (first | (with_reducible first | exact HB.out | apply below_alloc | apply pw_below_drewN | apply below_drew1 | refine below_set ?_ GE432.out) | exact HB.out)) hb); obtain ⟨Ao101, co101, eo101⟩ := Kd.R_slice HO481.out; subst eo101)); try go_wp2_with (first | (go_at_call 31; (with_reducible refine (nat_Nat_Limbs.calls _ _ t429 t479 _ ?side1 ?side2 A97.out).mono ?_); (case side1 => repeat (first | exact (Kd.R_reads' HO_433000.out).2.2 | (with_reducible refine Kd.C_alloc ?_ _) | (with_reducible refine Kd.C_drewN ?_ _) | (with_reducible refine Kd.C_drew ?_))); (case side2 => exact (Kd.R_reads' HO_433000.out).2.1); rintro e w100 ⟨v480, rfl, ho0, hb⟩; replace HO_0 := Aside0.mk (Kd.V_elder' (by (with_reducible repeat (first | apply Kd.V_alloc | apply Kd.V_drewN | apply Kd.V_drew)); exact HO_0.out) (Kd.R_base ho0) hb); have HO481 := Aside0.mk (Kd.R_lower (Kd.R_new' ho0 (Kd.R_lt (by (with_reducible repeat (first | apply Kd.R_alloc | apply Kd.R_drewN | apply Kd.R_drew)); exact HO_433000.out))) (below_size (by repeat (first | (with_reducible first | exact HB.out | apply below_alloc | apply pw_below_drewN | apply below_drew1 | refine below_set ?_ GE432.out) | exact HB.out)))); replace HO_433000 := Aside0.mk (Kd.R_elder' (by (with_reducible repeat (first | apply Kd.R_alloc | apply Kd.R_drewN | apply Kd.R_drew)); exact HO_433000.out) (Kd.R_base ho0) hb); replace BK432 := Aside0.mk (blk_below (g := gb432) (o := .cells #[.slice Ao9 t429.length co9] 25 (0, 0)) (by (with_reducible repeat (first | refine blk_drewN ?_ _ | refine blk_drew ?_ | refine blk_alloc ?_ _)); exact BK432.out) hb); replace HB := Aside0.mk (below_step (by repeat (first | (with_reducible first | exact HB.out | apply below_alloc | apply pw_below_drewN | apply below_drew1 | refine below_set ?_ GE432.out) | exact HB.out)) hb); obtain ⟨Ao101, co101, eo101⟩ := Kd.R_slice HO481.out; subst eo101)))
      (try simp only [Act.put, List.setIfInBounds_toArray, List.set_cons_zero, List.set_cons_succ])
      go_loopg [8, 9, 42] k1 (fun kq v8 v9 v42 w' => ∃ (x8_2 : Int) (x9_2 : Int) (x42_2 : Int), v8 = .int .i64 x8_2 ∧ v9 = .int .u64 x9_2 ∧ v42 = .int .i64 x42_2 ∧ Aside0 (numerarylaw02_NatMakes.l1 kq t426 a1 x6_1 t479 x8_2 x9_2 (t479.length : Int) x42_2 t429 = some r) ∧ Aside0 (kq ≤ k1) ∧ Aside0 (Kd.V (Kd.int .u32) 23 w' w.heap.size (fun k_ => some k_ ≠ ((.slice Ao101 t479.length co101) : Value).ownBlock ∧ some k_ ≠ ((.slice Ao9 t429.length co9) : Value).ownBlock ∧ k_ ≠ gb432) (.slice Ao6 t426.length co6) t426) ∧ Aside0 (Kd.R (Kd.int .u32) 23 w' w.heap.size (fun k_ => some k_ ≠ ((.slice Ao9 t429.length co9) : Value).ownBlock) (.slice Ao101 t479.length co101) t479) ∧ Aside0 (Kd.R (Kd.int .u32) 23 w' w.heap.size (fun k_ => some k_ ≠ ((.slice Ao101 t479.length co101) : Value).ownBlock) (.slice Ao9 t429.length co9) t429) ∧ Aside0 (w'.heap[gb432]? = some (.cells #[(.slice Ao9 t429.length co9)] 25 (0, 0))) ∧ Aside0 (Below w.heap.size w w'))
      case atStart => exact ⟨(0), (0), (0), rfl, rfl, rfl, H', ⟨Nat.le_refl _⟩, ⟨by (with_reducible repeat (first | apply Kd.V_alloc | apply Kd.V_drewN | apply Kd.V_drew)); exact Kd.V_mono HO_0.out (fun _ hk => ⟨hk.2, ⟨hk.1.1, hk.1.2⟩⟩)⟩, ⟨by (with_reducible repeat (first | apply Kd.R_alloc | apply Kd.R_drewN | apply Kd.R_drew)); exact Kd.R_mono HO481.out (fun _ hk => hk.2)⟩, ⟨by (with_reducible repeat (first | apply Kd.R_alloc | apply Kd.R_drewN | apply Kd.R_drew)); exact Kd.R_mono HO_433000.out (fun _ hk => hk.2)⟩, ⟨by (with_reducible repeat (first | refine blk_drewN ?_ _ | refine blk_drew ?_ | refine blk_alloc ?_ _)); exact BK432.out⟩, ⟨by repeat (first | (with_reducible first | exact HB.out | apply below_alloc | apply pw_below_drewN | apply below_drew1 | refine below_set ?_ GE432.out) | exact HB.out)⟩⟩
      case round =>
        clear H'
        try clear c1
        try clear c2
        try clear p2
        try clear c3
        try clear c4
        try clear p4
        try clear q4
        try clear hx4
        try clear c5
        try clear p6
        try clear c7
        try clear c9
        try clear c11
        try clear c11b0
        try clear c13
        try clear c13b0
        try clear c14
        try clear c14b0
        try clear c15
        try clear c15b0
        try clear c15b1
        try clear c17
        try clear c17b0
        try clear c17b1
        try clear c21
        try clear c21b0
        try clear c22
        try clear c22b0
        try clear c23
        try clear c23b0
        try clear c24
        try clear c24b0
        try clear c25
        try clear c25b0
        try clear c25b1
        try clear c26
        try clear c26b0
        try clear c27
        try clear c27b0
        try clear c28
        try clear c28b0
        try clear c29
        try clear c29b0
        try clear c29b1
        try clear c31
        try clear c31b0
        try clear c31b1
        try clear c32
        try clear c32b0
        try clear c33
        try clear c33b0
        try clear c34
        try clear c34b0
        try clear c36
        try clear c36b0
        try clear c36b1
        try clear c38
        try clear c38b0
        try clear c43
        try clear p43
        try clear q43
        try clear hx43
        try clear p44
        try clear q44
        try clear hx44
        try clear c45
        try clear c45b0
        try clear c45b1
        try clear c46
        try clear c46b0
        try clear c46b1
        try clear c46b2
        try clear c47
        try clear c47b0
        try clear c47b1
        try clear c48
        try clear c49
        try clear c49b0
        try clear c49b1
        try clear p64
        try clear c72
        try clear c74
        try clear c74b0
        try clear c74b1
        try clear c75
        try clear c75b0
        try clear c75b1
        try clear c75b2
        try clear c76
        try clear c76b0
        try clear c76b1
        try clear c77
        try clear c78
        try clear c78b0
        try clear c78b1
        try clear c98
        try clear c98b0
        try clear c98b1
        try clear hcz10_0
        try clear hcz18_0
        try clear hcz54_0
        try clear hcz60_0
        try clear hcz83_0
        try clear hcz89_0
        try clear hcz99_0
        try clear hfz10_0
        try clear hfz18_0
        try clear hfz54_0
        try clear hfz60_0
        try clear hfz83_0
        try clear hfz89_0
        try clear hfz99_0
        try clear hx433_0
        try clear hx437_0
        try clear hx438_0
        try clear hx439_0
        try clear hx440_0
        try clear p2
        try clear p4
        try clear p433
        try clear p437
        try clear p438
        try clear p439
        try clear p440
        try clear p6
        try clear q4
        try clear q433
        try clear q437
        try clear q438
        try clear q439
        try clear q440
        obtain ⟨x8_2, x9_2, x42_2, rfl, rfl, rfl, HA, HK2, HO_0, HO_7, HO_433000, BK432, HB⟩ := hrel
        cases gk with
        | zero => exact absurd HA.out (by simp [numerarylaw02_NatMakes.l1])
        | succ k2 =>
          have H := HA.out
          clear HA
          simp only [numerarylaw02_NatMakes.l1] at H
          by_cases c102 : x42_2 < (t479.length : Int)
          · rw [if_pos c102] at H
            have c102b0 : decide (x42_2 < (t479.length : Int)) = true := decide_eq_true c102
            clear c102
            by_cases c103 : 0 ≤ x42_2
            rotate_left
            · rw [if_neg c103] at H
              exact absurd H (by simp)
            rw [if_pos c103] at H
            have c103b0 : decide (0 ≤ x42_2) = true := decide_eq_true c103
            clear c103
            by_cases c104 : x42_2 < (t479.length : Int)
            rotate_left
            · rw [if_neg c104] at H
              exact absurd H (by simp)
            rw [if_pos c104] at H
            have c104b0 : decide (x42_2 < (t479.length : Int)) = true := decide_eq_true c104
            clear c104
            by_cases c105 : x42_2 < (t426.length : Int)
            rotate_left
            · rw [if_neg c105] at H
              exact absurd H (by simp)
            rw [if_pos c105] at H
            have c105b0 : decide (x42_2 < (t426.length : Int)) = true := decide_eq_true c105
            clear c105
            by_cases c106 : (rd t479 x42_2) = (rd t426 x42_2)
            rotate_left
            · rw [if_neg c106] at H
              exact absurd (H.trans (congrArg some HR_.out)) (by simp)
            rw [if_pos c106] at H
            have c106b0 : ((rd t479 x42_2) == (rd t426 x42_2)) = true := beq_iff_eq.mpr c106
            have c106b1 : ((rd t479 x42_2) != (rd t426 x42_2)) = false := bne_eq_false_iff_eq.mpr c106
            clear c106
            have H' := Aside0.mk H
            clear H
            have p437 : 0 ≤ (x42_2 : Int) := of_decide_eq_true (by assumption)
            have q437 : x42_2 < (t479.length : Int) := of_decide_eq_true (by assumption)
            obtain ⟨ad437, e437, hx437_0⟩ := Kd.at_int (Kd.R_reads' HO_7.out).2.2 x42_2 p437 q437
            cases e437
            replace p437 := eq_true p437
            replace q437 := eq_true q437
            have p438 : 0 ≤ (x42_2 : Int) := of_decide_eq_true (by assumption)
            have q438 : x42_2 < (t426.length : Int) := of_decide_eq_true (by assumption)
            obtain ⟨ad438, e438, hx438_0⟩ := Kd.at_int (Kd.V_reads' HO_0.out).2.2 x42_2 p438 q438
            cases e438
            replace p438 := eq_true p438
            replace q438 := eq_true q438
            go_wp2
            repeat (go_quiet (fail); try go_wp2)
            (try simp only [Act.put, List.setIfInBounds_toArray, List.set_cons_zero, List.set_cons_succ])
            go_loopg [8, 54] k2 (fun kq v8 v54 w' => ∃ (x8_3 : Int) (x54_3 : Int), v8 = .int .i64 x8_3 ∧ v54 = .int .i64 x54_3 ∧ Aside0 (numerarylaw02_NatMakes.l2 kq t426 a1 x6_1 t479 x8_3 x9_2 x42_2 (t479.length : Int) x42_2 x54_3 t429 = some r) ∧ Aside0 (kq ≤ k2) ∧ Aside0 (Kd.V (Kd.int .u32) 23 w' w.heap.size (fun k_ => some k_ ≠ ((.slice (some ad437) t479.length co101) : Value).ownBlock ∧ some k_ ≠ ((.slice Ao9 t429.length co9) : Value).ownBlock ∧ k_ ≠ gb432) (.slice (some ad438) t426.length co6) t426) ∧ Aside0 (Kd.R (Kd.int .u32) 23 w' w.heap.size (fun k_ => some k_ ≠ ((.slice Ao9 t429.length co9) : Value).ownBlock) (.slice (some ad437) t479.length co101) t479) ∧ Aside0 (Kd.R (Kd.int .u32) 23 w' w.heap.size (fun k_ => some k_ ≠ ((.slice (some ad437) t479.length co101) : Value).ownBlock) (.slice Ao9 t429.length co9) t429) ∧ Aside0 (w'.heap[gb432]? = some (.cells #[(.slice Ao9 t429.length co9)] 25 (0, 0))) ∧ Aside0 (Below w.heap.size w w'))
            case atStart => exact ⟨(x8_2), (0), rfl, rfl, H', ⟨Nat.le_refl _⟩, ⟨by (with_reducible repeat (first | apply Kd.V_alloc | apply Kd.V_drewN | apply Kd.V_drew)); exact HO_0.out⟩, ⟨by (with_reducible repeat (first | apply Kd.R_alloc | apply Kd.R_drewN | apply Kd.R_drew)); exact HO_7.out⟩, ⟨by (with_reducible repeat (first | apply Kd.R_alloc | apply Kd.R_drewN | apply Kd.R_drew)); exact HO_433000.out⟩, ⟨by (with_reducible repeat (first | refine blk_drewN ?_ _ | refine blk_drew ?_ | refine blk_alloc ?_ _)); exact BK432.out⟩, ⟨by repeat (first | (with_reducible first | exact HB.out | apply below_alloc | apply pw_below_drewN | apply below_drew1 | refine below_set ?_ GE432.out) | exact HB.out)⟩⟩
            case round =>
              clear H'
              try clear c1
              try clear c2
              try clear p2
              try clear c3
              try clear c4
              try clear p4
              try clear q4
              try clear hx4
              try clear c5
              try clear p6
              try clear c7
              try clear c9
              try clear c10
              try clear c11
              try clear c11b0
              try clear c13
              try clear c13b0
              try clear c14
              try clear c14b0
              try clear c15
              try clear c15b0
              try clear c15b1
              try clear c17
              try clear c17b0
              try clear c17b1
              try clear c21
              try clear c21b0
              try clear c22
              try clear c22b0
              try clear c23
              try clear c23b0
              try clear c24
              try clear c24b0
              try clear c25
              try clear c25b0
              try clear c25b1
              try clear c26
              try clear c26b0
              try clear c27
              try clear c27b0
              try clear c28
              try clear c28b0
              try clear c29
              try clear c29b0
              try clear c29b1
              try clear c31
              try clear c31b0
              try clear c31b1
              try clear c32
              try clear c32b0
              try clear c33
              try clear c33b0
              try clear c34
              try clear c34b0
              try clear c36
              try clear c36b0
              try clear c36b1
              try clear c38
              try clear c38b0
              try clear c43
              try clear p43
              try clear q43
              try clear hx43
              try clear p44
              try clear q44
              try clear hx44
              try clear c45
              try clear c45b0
              try clear c45b1
              try clear c46
              try clear c46b0
              try clear c46b1
              try clear c46b2
              try clear c47
              try clear c47b0
              try clear c47b1
              try clear c48
              try clear c49
              try clear c49b0
              try clear c49b1
              try clear p64
              try clear c72
              try clear c74
              try clear c74b0
              try clear c74b1
              try clear c75
              try clear c75b0
              try clear c75b1
              try clear c75b2
              try clear c76
              try clear c76b0
              try clear c76b1
              try clear c77
              try clear c78
              try clear c78b0
              try clear c78b1
              try clear c98
              try clear c98b0
              try clear c98b1
              try clear c102
              try clear c102b0
              try clear c103
              try clear c103b0
              try clear c104
              try clear c104b0
              try clear c105
              try clear c105b0
              try clear c106
              try clear c106b0
              try clear c106b1
              try clear hcz10_0
              try clear hcz18_0
              try clear hcz54_0
              try clear hcz60_0
              try clear hcz83_0
              try clear hcz89_0
              try clear hcz99_0
              try clear hfz10_0
              try clear hfz18_0
              try clear hfz54_0
              try clear hfz60_0
              try clear hfz83_0
              try clear hfz89_0
              try clear hfz99_0
              try clear hx433_0
              try clear hx437_0
              try clear hx438_0
              try clear hx439_0
              try clear hx440_0
              try clear p2
              try clear p4
              try clear p43
              try clear p433
              try clear p437
              try clear p438
              try clear p439
              try clear p44
              try clear p440
              try clear p6
              try clear p64
              try clear q4
              try clear q43
              try clear q433
              try clear q437
              try clear q438
              try clear q439
              try clear q44
              try clear q440
              obtain ⟨x8_3, x54_3, rfl, rfl, HA, HK3, HO_0, HO_7, HO_433000, BK432, HB⟩ := hrel
              cases gk with
              | zero => exact absurd HA.out (by simp [numerarylaw02_NatMakes.l2])
              | succ k3 =>
                have H := HA.out
                clear HA
                simp only [numerarylaw02_NatMakes.l2] at H
                by_cases c107 : x54_3 < 32
                rotate_left
                · rw [if_neg c107] at H
                  have c107b0 : decide (x54_3 < 32) = false := decide_eq_false c107
                  clear c107
                  by_cases c113 : x42_2 < 2
                  rotate_left
                  · rw [if_neg c113] at H
                    have c113b0 : decide (x42_2 < 2) = false := decide_eq_false c113
                    clear c113
                    have H' := Aside0.mk H
                    clear H
                    go_wp2
                    repeat (go_quiet (fail); try go_wp2)
                    go_roundg k3
                    case measure => have := HK1.out; have := HK2.out; have := HK3.out; omega
                    case rel => exact ⟨(x8_3), (x9_2), (wrap64 (x42_2 + 1)), rfl, rfl, rfl, H', ⟨by have := HK1.out; have := HK2.out; have := HK3.out; omega⟩, ⟨by (with_reducible repeat (first | apply Kd.V_alloc | apply Kd.V_drewN | apply Kd.V_drew)); exact HO_0.out⟩, ⟨by (with_reducible repeat (first | apply Kd.R_alloc | apply Kd.R_drewN | apply Kd.R_drew)); exact HO_7.out⟩, ⟨by (with_reducible repeat (first | apply Kd.R_alloc | apply Kd.R_drewN | apply Kd.R_drew)); exact HO_433000.out⟩, ⟨by (with_reducible repeat (first | refine blk_drewN ?_ _ | refine blk_drew ?_ | refine blk_alloc ?_ _)); exact BK432.out⟩, ⟨by repeat (first | (with_reducible first | exact HB.out | apply below_alloc | apply pw_below_drewN | apply below_drew1 | refine below_set ?_ GE432.out) | exact HB.out)⟩⟩
                  rw [if_pos c113] at H
                  have c113b0 : decide (x42_2 < 2) = true := decide_eq_true c113
                  clear c113
                  by_cases c114 : 0 ≤ x42_2
                  rotate_left
                  · rw [if_neg c114] at H
                    exact absurd H (by simp)
                  rw [if_pos c114] at H
                  have c114b0 : decide (0 ≤ x42_2) = true := decide_eq_true c114
                  clear c114
                  by_cases c115 : x42_2 < (t426.length : Int)
                  rotate_left
                  · rw [if_neg c115] at H
                    exact absurd H (by simp)
                  rw [if_pos c115] at H
                  have c115b0 : decide (x42_2 < (t426.length : Int)) = true := decide_eq_true c115
                  clear c115
                  obtain ⟨ji116, hji116⟩ : ∃ j_ : Int, (wrap64 (32 * x42_2)) = j_ := ⟨_, rfl⟩
                  replace H : (if 0 ≤ (ji116) then (numerarylaw02_NatMakes.l1 k3 t426 a1 x6_1 t479 x8_3 (Go.bits .or .u64 x9_2 (shl .u64 (IntKind.u64.wrap (rd t426 x42_2)) (ji116))) (t479.length : Int) (wrap64 (x42_2 + 1)) t429) else (none)) = some r := by first | (rw [hji116] at H; exact H) | (simp only [hji116] at H ⊢; exact H)
                  have hji116w : (IntKind.i64.wrap (32 * x42_2)) = ji116 := (i64_w _).trans hji116
                  by_cases c117 : 0 ≤ (ji116)
                  rotate_left
                  · rw [if_neg c117] at H
                    exact absurd H (by simp)
                  rw [if_pos c117] at H
                  have c117b0 := eq_true c117
                  have c117b1 : decide (0 ≤ (ji116)) = true := decide_eq_true c117
                  clear c117
                  obtain ⟨ji118, hji118⟩ : ∃ j_ : Int, (shl .u64 (IntKind.u64.wrap (rd t426 x42_2)) (ji116)) = j_ := ⟨_, rfl⟩
                  replace H : (numerarylaw02_NatMakes.l1 k3 t426 a1 x6_1 t479 x8_3 (Go.bits .or .u64 x9_2 (ji118)) (t479.length : Int) (wrap64 (x42_2 + 1)) t429) = some r := by first | (rw [hji118] at H; exact H) | (simp only [hji118] at H ⊢; exact H)
                  have hji118_ : (IntKind.u64.wrap ((IntKind.u64.wrap (rd t426 x42_2)) * 2 ^ min (ji116).toNat 64)) = ji118 := hji118
                  have hji118z : (ji116) ≤ 64 → (IntKind.u64.wrap ((IntKind.u64.wrap (rd t426 x42_2)) * 2 ^ (ji116).toNat)) = ji118 := shl_small hji118
                  have H' := Aside0.mk H
                  clear H
                  have p440 : 0 ≤ (x42_2 : Int) := of_decide_eq_true (by assumption)
                  have q440 : x42_2 < (t426.length : Int) := of_decide_eq_true (by assumption)
                  obtain ⟨ad440, e440, hx440_0⟩ := Kd.at_int (Kd.V_reads' HO_0.out).2.2 x42_2 p440 q440
                  obtain rfl : ad438 = ad440 := (by injection e440)
                  replace p440 := eq_true p440
                  replace q440 := eq_true q440
                  go_wp2
                  repeat (go_quiet (fail); try go_wp2)
                  go_roundg k3
                  case measure => have := HK1.out; have := HK2.out; have := HK3.out; omega
                  case rel => exact ⟨(x8_3), (Go.bits .or .u64 x9_2 (ji118)), (wrap64 (x42_2 + 1)), rfl, (by first | rfl | (simp; done) | (simp only [← hji118] <;> (first | rfl | simp)) | (simp [*]; done)), rfl, H', ⟨by have := HK1.out; have := HK2.out; have := HK3.out; omega⟩, ⟨by (with_reducible repeat (first | apply Kd.V_alloc | apply Kd.V_drewN | apply Kd.V_drew)); exact HO_0.out⟩, ⟨by (with_reducible repeat (first | apply Kd.R_alloc | apply Kd.R_drewN | apply Kd.R_drew)); exact HO_7.out⟩, ⟨by (with_reducible repeat (first | apply Kd.R_alloc | apply Kd.R_drewN | apply Kd.R_drew)); exact HO_433000.out⟩, ⟨by (with_reducible repeat (first | refine blk_drewN ?_ _ | refine blk_drew ?_ | refine blk_alloc ?_ _)); exact BK432.out⟩, ⟨by repeat (first | (with_reducible first | exact HB.out | apply below_alloc | apply pw_below_drewN | apply below_drew1 | refine below_set ?_ GE432.out) | exact HB.out)⟩⟩
                rw [if_pos c107] at H
                have c107b0 : decide (x54_3 < 32) = true := decide_eq_true c107
                clear c107
                by_cases c108 : 0 ≤ x42_2
                rotate_left
                · rw [if_neg c108] at H
                  exact absurd H (by simp)
                rw [if_pos c108] at H
                have c108b0 : decide (0 ≤ x42_2) = true := decide_eq_true c108
                clear c108
                by_cases c109 : x42_2 < (t426.length : Int)
                rotate_left
                · rw [if_neg c109] at H
                  exact absurd H (by simp)
                rw [if_pos c109] at H
                have c109b0 : decide (x42_2 < (t426.length : Int)) = true := decide_eq_true c109
                clear c109
                by_cases c110 : 0 ≤ x54_3
                rotate_left
                · rw [if_neg c110] at H
                  exact absurd H (by simp)
                rw [if_pos c110] at H
                have c110b0 := eq_true c110
                have c110b1 : decide (0 ≤ x54_3) = true := decide_eq_true c110
                clear c110
                obtain ⟨ji111, hji111⟩ : ∃ j_ : Int, (shr .u32 (rd t426 x42_2) x54_3) = j_ := ⟨_, rfl⟩
                replace H : (if (Go.bits .and .u32 (ji111) 1) = 1 then (numerarylaw02_NatMakes.l2 k3 t426 a1 x6_1 t479 (wrap64 ((wrap64 ((wrap64 (32 * x42_2)) + x54_3)) + 1)) x9_2 x42_2 (t479.length : Int) x42_2 (wrap64 (x54_3 + 1)) t429) else (numerarylaw02_NatMakes.l2 k3 t426 a1 x6_1 t479 x8_3 x9_2 x42_2 (t479.length : Int) x42_2 (wrap64 (x54_3 + 1)) t429)) = some r := by first | (rw [hji111] at H; exact H) | (simp only [hji111] at H ⊢; exact H)
                have hji111_ : ((rd t426 x42_2) / 2 ^ min x54_3.toNat 32) = ji111 := hji111
                have hji111z : x54_3 ≤ 32 → ((rd t426 x42_2) / 2 ^ x54_3.toNat) = ji111 := shr_small hji111
                by_cases c112 : (Go.bits .and .u32 (ji111) 1) = 1
                rotate_left
                · rw [if_neg c112] at H
                  have c112b0 : ((Go.bits .and .u32 (ji111) 1) == 1) = false := beq_eq_false_iff_ne.mpr c112
                  have c112b1 : ((Go.bits .and .u32 (ji111) 1) != 1) = true := bne_iff_ne.mpr c112
                  have H' := Aside0.mk H
                  clear H
                  have p439 : 0 ≤ (x42_2 : Int) := of_decide_eq_true (by assumption)
                  have q439 : x42_2 < (t426.length : Int) := of_decide_eq_true (by assumption)
                  obtain ⟨ad439, e439, hx439_0⟩ := Kd.at_int (Kd.V_reads' HO_0.out).2.2 x42_2 p439 q439
                  obtain rfl : ad438 = ad439 := (by injection e439)
                  replace p439 := eq_true p439
                  replace q439 := eq_true q439
                  go_wp2
                  repeat (go_quiet (fail); try go_wp2)
                  go_roundg k3
                  case measure => have := HK1.out; have := HK2.out; have := HK3.out; omega
                  case rel => exact ⟨(x8_3), (wrap64 (x54_3 + 1)), rfl, rfl, H', ⟨by have := HK1.out; have := HK2.out; have := HK3.out; omega⟩, ⟨by (with_reducible repeat (first | apply Kd.V_alloc | apply Kd.V_drewN | apply Kd.V_drew)); exact HO_0.out⟩, ⟨by (with_reducible repeat (first | apply Kd.R_alloc | apply Kd.R_drewN | apply Kd.R_drew)); exact HO_7.out⟩, ⟨by (with_reducible repeat (first | apply Kd.R_alloc | apply Kd.R_drewN | apply Kd.R_drew)); exact HO_433000.out⟩, ⟨by (with_reducible repeat (first | refine blk_drewN ?_ _ | refine blk_drew ?_ | refine blk_alloc ?_ _)); exact BK432.out⟩, ⟨by repeat (first | (with_reducible first | exact HB.out | apply below_alloc | apply pw_below_drewN | apply below_drew1 | refine below_set ?_ GE432.out) | exact HB.out)⟩⟩
                rw [if_pos c112] at H
                have c112b0 : ((Go.bits .and .u32 (ji111) 1) == 1) = true := beq_iff_eq.mpr c112
                have c112b1 : ((Go.bits .and .u32 (ji111) 1) != 1) = false := bne_eq_false_iff_eq.mpr c112
                clear c112
                have H' := Aside0.mk H
                clear H
                have p439 : 0 ≤ (x42_2 : Int) := of_decide_eq_true (by assumption)
                have q439 : x42_2 < (t426.length : Int) := of_decide_eq_true (by assumption)
                obtain ⟨ad439, e439, hx439_0⟩ := Kd.at_int (Kd.V_reads' HO_0.out).2.2 x42_2 p439 q439
                obtain rfl : ad438 = ad439 := (by injection e439)
                replace p439 := eq_true p439
                replace q439 := eq_true q439
                go_wp2
                repeat (go_quiet (fail); try go_wp2)
                go_roundg k3
                case measure => have := HK1.out; have := HK2.out; have := HK3.out; omega
                case rel => exact ⟨(wrap64 ((wrap64 ((wrap64 (32 * x42_2)) + x54_3)) + 1)), (wrap64 (x54_3 + 1)), rfl, rfl, H', ⟨by have := HK1.out; have := HK2.out; have := HK3.out; omega⟩, ⟨by (with_reducible repeat (first | apply Kd.V_alloc | apply Kd.V_drewN | apply Kd.V_drew)); exact HO_0.out⟩, ⟨by (with_reducible repeat (first | apply Kd.R_alloc | apply Kd.R_drewN | apply Kd.R_drew)); exact HO_7.out⟩, ⟨by (with_reducible repeat (first | apply Kd.R_alloc | apply Kd.R_drewN | apply Kd.R_drew)); exact HO_433000.out⟩, ⟨by (with_reducible repeat (first | refine blk_drewN ?_ _ | refine blk_drew ?_ | refine blk_alloc ?_ _)); exact BK432.out⟩, ⟨by repeat (first | (with_reducible first | exact HB.out | apply below_alloc | apply pw_below_drewN | apply below_drew1 | refine below_set ?_ GE432.out) | exact HB.out)⟩⟩
          rw [if_neg c102] at H
          have c102b0 : decide (x42_2 < (t479.length : Int)) = false := decide_eq_false c102
          clear c102
          by_cases c119 : x6_1 > 2
          · rw [if_pos c119] at H
            have c119b0 : decide (2 < x6_1) = true := decide_eq_true c119
            clear c119
            replace H := Option.bind_eq_some_iff.mp H
            obtain ⟨⟨t441, t442⟩, A1200, H⟩ := H
            have A120 := Aside0.mk A1200
            clear A1200
            replace H := Option.bind_eq_some_iff.mp H
            obtain ⟨t443, A1210, H⟩ := H
            have A121 := Aside0.mk A1210
            clear A1210
            replace H := Option.bind_eq_some_iff.mp H
            obtain ⟨⟨t446, t447⟩, A1220, H⟩ := H
            have A122 := Aside0.mk A1220
            clear A1220
            replace H := Option.bind_eq_some_iff.mp H
            obtain ⟨t448, A1230, H⟩ := H
            have A123 := Aside0.mk A1230
            clear A1230
            by_cases c124 : t448 = true
            rotate_left
            · replace c124 := Bool.eq_false_iff.mpr c124
              subst c124
              have H1 : (some false) = some r := by rw [if_neg (show ¬ (false = true) by decide)] at H; exact H
              clear H
              have H := H1
              clear H1
              exact absurd (H.trans (congrArg some HR_.out)) (by simp)
            subst c124
            have H1 : ((nat_Nat_Bits.f t429).bind fun t449 => (if t449 = x8_2 then (if (t442 == (decide (x6_1 ≤ 2))) = true then (if t441 = 0 then (if t447 = true then (if t446 = a1 then ((nat_Of.f k2 a1).bind fun t450 => ((numerarylaw02_of.f k2 t450).bind fun t453 => ((numeraryref02_Of.f k2 a1).bind fun t456 => ((numerarylaw02_same.f k2 t453 t456).bind fun t459 => (some t459))))) else (some false)) else (some false)) else (some false)) else (some false)) else (some false))) = some r := by rw [if_pos rfl] at H; exact H
            clear H
            have H := H1
            clear H1
            replace H := Option.bind_eq_some_iff.mp H
            obtain ⟨t449, A1250, H⟩ := H
            have A125 := Aside0.mk A1250
            clear A1250
            by_cases c126 : t449 = x8_2
            rotate_left
            · rw [if_neg c126] at H
              exact absurd (H.trans (congrArg some HR_.out)) (by simp)
            rw [if_pos c126] at H
            have c126b0 : (t449 == x8_2) = true := beq_iff_eq.mpr c126
            have c126b1 : (t449 != x8_2) = false := bne_eq_false_iff_eq.mpr c126
            clear c126
            by_cases c127 : (t442 == (decide (x6_1 ≤ 2))) = true
            rotate_left
            · rw [if_neg c127] at H
              exact absurd (H.trans (congrArg some HR_.out)) (by simp)
            rw [if_pos c127] at H
            have c127b0 : (t442 == (decide (x6_1 ≤ 2))) = true := c127
            (try (have c127b1 : decide (t442 = (decide (x6_1 ≤ 2))) = true := by simpa using c127))
            (try (have c127b2 : (t442 == (decide (x6_1 ≤ 2))) = true := by simpa using c127))
            clear c127
            by_cases c128 : t441 = 0
            rotate_left
            · rw [if_neg c128] at H
              exact absurd (H.trans (congrArg some HR_.out)) (by simp)
            rw [if_pos c128] at H
            have c128b0 : (t441 == 0) = true := beq_iff_eq.mpr c128
            have c128b1 : (t441 != 0) = false := bne_eq_false_iff_eq.mpr c128
            clear c128
            by_cases c129 : t447 = true
            rotate_left
            · replace c129 := Bool.eq_false_iff.mpr c129
              subst c129
              have H1 : (some false) = some r := by rw [if_neg (show ¬ (false = true) by decide)] at H; exact H
              clear H
              have H := H1
              clear H1
              exact absurd (H.trans (congrArg some HR_.out)) (by simp)
            subst c129
            have H1 : (if t446 = a1 then ((nat_Of.f k2 a1).bind fun t450 => ((numerarylaw02_of.f k2 t450).bind fun t453 => ((numeraryref02_Of.f k2 a1).bind fun t456 => ((numerarylaw02_same.f k2 t453 t456).bind fun t459 => (some t459))))) else (some false)) = some r := by rw [if_pos rfl] at H; exact H
            clear H
            have H := H1
            clear H1
            by_cases c130 : t446 = a1
            rotate_left
            · rw [if_neg c130] at H
              exact absurd (H.trans (congrArg some HR_.out)) (by simp)
            rw [if_pos c130] at H
            have c130b0 : (t446 == a1) = true := beq_iff_eq.mpr c130
            have c130b1 : (t446 != a1) = false := bne_eq_false_iff_eq.mpr c130
            clear c130
            replace H := Option.bind_eq_some_iff.mp H
            obtain ⟨t450, A1310, H⟩ := H
            have A131 := Aside0.mk A1310
            clear A1310
            replace H := Option.bind_eq_some_iff.mp H
            obtain ⟨t453, A1320, H⟩ := H
            have A132 := Aside0.mk A1320
            clear A1320
            replace H := Option.bind_eq_some_iff.mp H
            obtain ⟨t456, A1330, H⟩ := H
            have A133 := Aside0.mk A1330
            clear A1330
            replace H := Option.bind_eq_some_iff.mp H
            obtain ⟨t459, A1340, H⟩ := H
            have A134 := Aside0.mk A1340
            clear A1340
            obtain rfl := Option.some.inj H
            have hcz135_0 : wr.cell? ⟨gb432, 0, none⟩ = some (.slice Ao9 t429.length co9) := (blk_cell BK432.out 0).trans rfl
            have hfz135_0 := blk_frozen BK432.out 0
            go_wp2_with (first | (go_at_call 29; (fail_if_success have z_ := w136); (with_reducible refine (nat_Nat_Small.calls k2 _ _ t429 t441 t442 _ ?side1 ?side2 A120.out).mono ?_); (case side1 => repeat (first | exact (Kd.R_reads' HO_433000.out).2.2 | (with_reducible refine Kd.C_alloc ?_ _) | (with_reducible refine Kd.C_drewN ?_ _) | (with_reducible refine Kd.C_drew ?_))); (case side2 => exact (Kd.R_reads' HO_433000.out).2.1); rintro e w136 ⟨rfl, hb⟩; replace HO_0 := Aside0.mk (Kd.V_below (by (with_reducible repeat (first | apply Kd.V_alloc | apply Kd.V_drewN | apply Kd.V_drew)); exact HO_0.out) hb); replace HO_7 := Aside0.mk (Kd.R_below (by (with_reducible repeat (first | apply Kd.R_alloc | apply Kd.R_drewN | apply Kd.R_drew)); exact HO_7.out) hb); replace HO_433000 := Aside0.mk (Kd.R_below (by (with_reducible repeat (first | apply Kd.R_alloc | apply Kd.R_drewN | apply Kd.R_drew)); exact HO_433000.out) hb); replace BK432 := Aside0.mk (blk_below (g := gb432) (o := .cells #[.slice Ao9 t429.length co9] 25 (0, 0)) (by (with_reducible repeat (first | refine blk_drewN ?_ _ | refine blk_drew ?_ | refine blk_alloc ?_ _)); exact BK432.out) hb); replace HB := Aside0.mk (below_step (by repeat (first | (with_reducible first | exact HB.out | apply below_alloc | apply pw_below_drewN | apply below_drew1 | refine below_set ?_ GE432.out) | exact HB.out)) hb)) | (go_at_call 26; (fail_if_success have z_ := w137); (with_reducible refine (nat_Of.calls k2 a1 t443 _ A121.out).mono ?_); rintro e w137 ⟨v444, rfl, ho0, hb⟩; replace HO_0 := Aside0.mk (Kd.V_elder' (by (with_reducible repeat (first | apply Kd.V_alloc | apply Kd.V_drewN | apply Kd.V_drew)); exact HO_0.out) (Kd.R_base ho0) hb); have HO445 := Aside0.mk (Kd.R_lower (Kd.R_new' (Kd.R_new' ho0 (Kd.R_lt (by (with_reducible repeat (first | apply Kd.R_alloc | apply Kd.R_drewN | apply Kd.R_drew)); exact HO_7.out))) (Kd.R_lt (by (with_reducible repeat (first | apply Kd.R_alloc | apply Kd.R_drewN | apply Kd.R_drew)); exact HO_433000.out))) (below_size (by repeat (first | (with_reducible first | exact HB.out | apply below_alloc | apply pw_below_drewN | apply below_drew1 | refine below_set ?_ GE432.out) | exact HB.out)))); replace HO_7 := Aside0.mk (Kd.R_elder' (by (with_reducible repeat (first | apply Kd.R_alloc | apply Kd.R_drewN | apply Kd.R_drew)); exact HO_7.out) (Kd.R_base ho0) hb); replace HO_433000 := Aside0.mk (Kd.R_elder' (by (with_reducible repeat (first | apply Kd.R_alloc | apply Kd.R_drewN | apply Kd.R_drew)); exact HO_433000.out) (Kd.R_base ho0) hb); replace BK432 := Aside0.mk (blk_below (g := gb432) (o := .cells #[.slice Ao9 t429.length co9] 25 (0, 0)) (by (with_reducible repeat (first | refine blk_drewN ?_ _ | refine blk_drew ?_ | refine blk_alloc ?_ _)); exact BK432.out) hb); replace HB := Aside0.mk (below_step (by repeat (first | (with_reducible first | exact HB.out | apply below_alloc | apply pw_below_drewN | apply below_drew1 | refine below_set ?_ GE432.out) | exact HB.out)) hb); obtain ⟨Ao138, co138, eo138⟩ := Kd.R_slice HO445.out; subst eo138) | (go_at_call 29; (with_reducible refine (nat_Nat_Small.calls k2 _ _ t443 t446 true _ ?side1 ?side2 A122.out).mono ?_); (case side1 => repeat (first | exact (Kd.R_reads' HO445.out).2.2 | (with_reducible refine Kd.C_alloc ?_ _) | (with_reducible refine Kd.C_drewN ?_ _) | (with_reducible refine Kd.C_drew ?_))); (case side2 => exact (Kd.R_reads' HO445.out).2.1); rintro e w139 ⟨rfl, hb⟩; replace HO_0 := Aside0.mk (Kd.V_below (by (with_reducible repeat (first | apply Kd.V_alloc | apply Kd.V_drewN | apply Kd.V_drew)); exact HO_0.out) hb); replace HO_7 := Aside0.mk (Kd.R_below (by (with_reducible repeat (first | apply Kd.R_alloc | apply Kd.R_drewN | apply Kd.R_drew)); exact HO_7.out) hb); replace HO_433000 := Aside0.mk (Kd.R_below (by (with_reducible repeat (first | apply Kd.R_alloc | apply Kd.R_drewN | apply Kd.R_drew)); exact HO_433000.out) hb); replace HO445 := Aside0.mk (Kd.R_below (by (with_reducible repeat (first | apply Kd.R_alloc | apply Kd.R_drewN | apply Kd.R_drew)); exact HO445.out) hb); replace BK432 := Aside0.mk (blk_below (g := gb432) (o := .cells #[.slice Ao9 t429.length co9] 25 (0, 0)) (by (with_reducible repeat (first | refine blk_drewN ?_ _ | refine blk_drew ?_ | refine blk_alloc ?_ _)); exact BK432.out) hb); replace HB := Aside0.mk (below_step (by repeat (first | (with_reducible first | exact HB.out | apply below_alloc | apply pw_below_drewN | apply below_drew1 | refine below_set ?_ GE432.out) | exact HB.out)) hb)) | (go_at_call 32; (with_reducible refine (numerarylaw02_wakes.calls k2  true _ A123.out).mono ?_); rintro e w140 ⟨rfl, hb⟩; replace HO_0 := Aside0.mk (Kd.V_below (by (with_reducible repeat (first | apply Kd.V_alloc | apply Kd.V_drewN | apply Kd.V_drew)); exact HO_0.out) hb); replace HO_7 := Aside0.mk (Kd.R_below (by (with_reducible repeat (first | apply Kd.R_alloc | apply Kd.R_drewN | apply Kd.R_drew)); exact HO_7.out) hb); replace HO_433000 := Aside0.mk (Kd.R_below (by (with_reducible repeat (first | apply Kd.R_alloc | apply Kd.R_drewN | apply Kd.R_drew)); exact HO_433000.out) hb); replace HO445 := Aside0.mk (Kd.R_below (by (with_reducible repeat (first | apply Kd.R_alloc | apply Kd.R_drewN | apply Kd.R_drew)); exact HO445.out) hb); replace BK432 := Aside0.mk (blk_below (g := gb432) (o := .cells #[.slice Ao9 t429.length co9] 25 (0, 0)) (by (with_reducible repeat (first | refine blk_drewN ?_ _ | refine blk_drew ?_ | refine blk_alloc ?_ _)); exact BK432.out) hb); replace HB := Aside0.mk (below_step (by repeat (first | (with_reducible first | exact HB.out | apply below_alloc | apply pw_below_drewN | apply below_drew1 | refine below_set ?_ GE432.out) | exact HB.out)) hb); have hcz141_0 : w140.cell? ⟨gb432, 0, none⟩ = some (.slice Ao9 t429.length co9) := (blk_cell BK432.out 0).trans rfl; have hfz141_0 := blk_frozen BK432.out 0) | (go_at_call 33; (with_reducible refine (nat_Nat_Bits.calls _ _ t429 t449 _ ?side1 ?side2 A125.out).mono ?_); (case side1 => repeat (first | exact (Kd.R_reads' HO_433000.out).2.2 | (with_reducible refine Kd.C_alloc ?_ _) | (with_reducible refine Kd.C_drewN ?_ _) | (with_reducible refine Kd.C_drew ?_))); (case side2 => exact (Kd.R_reads' HO_433000.out).2.1); rintro e w142 ⟨rfl, hb⟩; replace HO_0 := Aside0.mk (Kd.V_below (by (with_reducible repeat (first | apply Kd.V_alloc | apply Kd.V_drewN | apply Kd.V_drew)); exact HO_0.out) hb); replace HO_7 := Aside0.mk (Kd.R_below (by (with_reducible repeat (first | apply Kd.R_alloc | apply Kd.R_drewN | apply Kd.R_drew)); exact HO_7.out) hb); replace HO_433000 := Aside0.mk (Kd.R_below (by (with_reducible repeat (first | apply Kd.R_alloc | apply Kd.R_drewN | apply Kd.R_drew)); exact HO_433000.out) hb); replace HO445 := Aside0.mk (Kd.R_below (by (with_reducible repeat (first | apply Kd.R_alloc | apply Kd.R_drewN | apply Kd.R_drew)); exact HO445.out) hb); replace BK432 := Aside0.mk (blk_below (g := gb432) (o := .cells #[.slice Ao9 t429.length co9] 25 (0, 0)) (by (with_reducible repeat (first | refine blk_drewN ?_ _ | refine blk_drew ?_ | refine blk_alloc ?_ _)); exact BK432.out) hb); replace HB := Aside0.mk (below_step (by repeat (first | (with_reducible first | exact HB.out | apply below_alloc | apply pw_below_drewN | apply below_drew1 | refine below_set ?_ GE432.out) | exact HB.out)) hb)) | (go_at_call 26; (with_reducible refine (nat_Of.calls k2 a1 t450 _ A131.out).mono ?_); rintro e w143 ⟨v451, rfl, ho0, hb⟩; replace HO_0 := Aside0.mk (Kd.V_elder' (by (with_reducible repeat (first | apply Kd.V_alloc | apply Kd.V_drewN | apply Kd.V_drew)); exact HO_0.out) (Kd.R_base ho0) hb); have HO452 := Aside0.mk (Kd.R_lower (Kd.R_new' (Kd.R_new' (Kd.R_new' ho0 (Kd.R_lt (by (with_reducible repeat (first | apply Kd.R_alloc | apply Kd.R_drewN | apply Kd.R_drew)); exact HO_7.out))) (Kd.R_lt (by (with_reducible repeat (first | apply Kd.R_alloc | apply Kd.R_drewN | apply Kd.R_drew)); exact HO_433000.out))) (Kd.R_lt (by (with_reducible repeat (first | apply Kd.R_alloc | apply Kd.R_drewN | apply Kd.R_drew)); exact HO445.out))) (below_size (by repeat (first | (with_reducible first | exact HB.out | apply below_alloc | apply pw_below_drewN | apply below_drew1 | refine below_set ?_ GE432.out) | exact HB.out)))); replace HO_7 := Aside0.mk (Kd.R_elder' (by (with_reducible repeat (first | apply Kd.R_alloc | apply Kd.R_drewN | apply Kd.R_drew)); exact HO_7.out) (Kd.R_base ho0) hb); replace HO_433000 := Aside0.mk (Kd.R_elder' (by (with_reducible repeat (first | apply Kd.R_alloc | apply Kd.R_drewN | apply Kd.R_drew)); exact HO_433000.out) (Kd.R_base ho0) hb); replace HO445 := Aside0.mk (Kd.R_elder' (by (with_reducible repeat (first | apply Kd.R_alloc | apply Kd.R_drewN | apply Kd.R_drew)); exact HO445.out) (Kd.R_base ho0) hb); replace BK432 := Aside0.mk (blk_below (g := gb432) (o := .cells #[.slice Ao9 t429.length co9] 25 (0, 0)) (by (with_reducible repeat (first | refine blk_drewN ?_ _ | refine blk_drew ?_ | refine blk_alloc ?_ _)); exact BK432.out) hb); replace HB := Aside0.mk (below_step (by repeat (first | (with_reducible first | exact HB.out | apply below_alloc | apply pw_below_drewN | apply below_drew1 | refine below_set ?_ GE432.out) | exact HB.out)) hb); obtain ⟨Ao144, co144, eo144⟩ := Kd.R_slice HO452.out; subst eo144) | (go_at_call 35; (with_reducible refine (numerarylaw02_of.calls k2 _ _ t450 t453 _ ?side1 ?side2 A132.out).mono ?_); (case side1 => repeat (first | exact (Kd.R_reads' HO452.out).2.2 | (with_reducible refine Kd.C_alloc ?_ _) | (with_reducible refine Kd.C_drewN ?_ _) | (with_reducible refine Kd.C_drew ?_))); (case side2 => exact (Kd.R_reads' HO452.out).2.1); rintro e w145 ⟨v454, rfl, ho0, hb⟩; replace HO_0 := Aside0.mk (Kd.V_elder' (by (with_reducible repeat (first | apply Kd.V_alloc | apply Kd.V_drewN | apply Kd.V_drew)); exact HO_0.out) (Kd.R_base ho0) hb); replace HO_7 := Aside0.mk (Kd.R_below (by (with_reducible repeat (first | apply Kd.R_alloc | apply Kd.R_drewN | apply Kd.R_drew)); exact HO_7.out) hb); replace HO_433000 := Aside0.mk (Kd.R_below (by (with_reducible repeat (first | apply Kd.R_alloc | apply Kd.R_drewN | apply Kd.R_drew)); exact HO_433000.out) hb); replace HO445 := Aside0.mk (Kd.R_below (by (with_reducible repeat (first | apply Kd.R_alloc | apply Kd.R_drewN | apply Kd.R_drew)); exact HO445.out) hb); replace HO452 := Aside0.mk (Kd.R_below (by (with_reducible repeat (first | apply Kd.R_alloc | apply Kd.R_drewN | apply Kd.R_drew)); exact HO452.out) hb); have HO455 := Aside0.mk (Kd.R_lower ho0 (below_size (by repeat (first | (with_reducible first | exact HB.out | apply below_alloc | apply pw_below_drewN | apply below_drew1 | refine below_set ?_ GE432.out) | exact HB.out)))); replace BK432 := Aside0.mk (blk_below (g := gb432) (o := .cells #[.slice Ao9 t429.length co9] 25 (0, 0)) (by (with_reducible repeat (first | refine blk_drewN ?_ _ | refine blk_drew ?_ | refine blk_alloc ?_ _)); exact BK432.out) hb); replace HB := Aside0.mk (below_step (by repeat (first | (with_reducible first | exact HB.out | apply below_alloc | apply pw_below_drewN | apply below_drew1 | refine below_set ?_ GE432.out) | exact HB.out)) hb)) | (go_at_call 27; (with_reducible refine (numeraryref02_Of.calls k2 a1 t456 _ A133.out).mono ?_); rintro e w146 ⟨v457, rfl, ho0, hb⟩; replace HO_0 := Aside0.mk (Kd.V_elder' (by (with_reducible repeat (first | apply Kd.V_alloc | apply Kd.V_drewN | apply Kd.V_drew)); exact HO_0.out) (Kd.R_base ho0) hb); replace HO_7 := Aside0.mk (Kd.R_below (by (with_reducible repeat (first | apply Kd.R_alloc | apply Kd.R_drewN | apply Kd.R_drew)); exact HO_7.out) hb); replace HO_433000 := Aside0.mk (Kd.R_below (by (with_reducible repeat (first | apply Kd.R_alloc | apply Kd.R_drewN | apply Kd.R_drew)); exact HO_433000.out) hb); replace HO445 := Aside0.mk (Kd.R_below (by (with_reducible repeat (first | apply Kd.R_alloc | apply Kd.R_drewN | apply Kd.R_drew)); exact HO445.out) hb); replace HO452 := Aside0.mk (Kd.R_below (by (with_reducible repeat (first | apply Kd.R_alloc | apply Kd.R_drewN | apply Kd.R_drew)); exact HO452.out) hb); have HO458 := Aside0.mk (Kd.R_lower (Kd.R_new' ho0 (Kd.R_lt (by (with_reducible repeat (first | apply Kd.R_alloc | apply Kd.R_drewN | apply Kd.R_drew)); exact HO455.out))) (below_size (by repeat (first | (with_reducible first | exact HB.out | apply below_alloc | apply pw_below_drewN | apply below_drew1 | refine below_set ?_ GE432.out) | exact HB.out)))); replace HO455 := Aside0.mk (Kd.R_elder' (by (with_reducible repeat (first | apply Kd.R_alloc | apply Kd.R_drewN | apply Kd.R_drew)); exact HO455.out) (Kd.R_base ho0) hb); replace BK432 := Aside0.mk (blk_below (g := gb432) (o := .cells #[.slice Ao9 t429.length co9] 25 (0, 0)) (by (with_reducible repeat (first | refine blk_drewN ?_ _ | refine blk_drew ?_ | refine blk_alloc ?_ _)); exact BK432.out) hb); replace HB := Aside0.mk (below_step (by repeat (first | (with_reducible first | exact HB.out | apply below_alloc | apply pw_below_drewN | apply below_drew1 | refine below_set ?_ GE432.out) | exact HB.out)) hb); obtain ⟨Ao147, co147, eo147⟩ := Kd.R_slice HO455.out; subst eo147; obtain ⟨Ao148, co148, eo148⟩ := Kd.R_slice HO458.out; subst eo148) | (go_at_call 34; (with_reducible refine (numerarylaw02_same.calls k2 _ _ t453 _ _ t456 t459 _ ?side1 ?side2 ?side3 ?side4 A134.out).mono ?_); (case side1 => repeat (first | exact (Kd.R_reads' HO455.out).2.2 | (with_reducible refine Kd.C_alloc ?_ _) | (with_reducible refine Kd.C_drewN ?_ _) | (with_reducible refine Kd.C_drew ?_))); (case side2 => exact (Kd.R_reads' HO455.out).2.1); (case side3 => repeat (first | exact (Kd.R_reads' HO458.out).2.2 | (with_reducible refine Kd.C_alloc ?_ _) | (with_reducible refine Kd.C_drewN ?_ _) | (with_reducible refine Kd.C_drew ?_))); (case side4 => exact (Kd.R_reads' HO458.out).2.1); rintro e w' ⟨rfl, ⟨nd, rfl⟩⟩; (try first | exact ⟨rfl, _, World.drewN_drewN _ _ _⟩ | exact ⟨rfl, _, Eq.trans (World.drewN_drewN _ _ _) (congrArg (World.drewN _) (Nat.add_assoc _ _ _))⟩)))
            repeat (go_quiet (first | (go_at_call 29; (fail_if_success have z_ := w136); (with_reducible refine (nat_Nat_Small.calls k2 _ _ t429 t441 t442 _ ?side1 ?side2 A120.out).mono ?_); (case side1 => repeat (first | exact (Kd.R_reads' HO_433000.out).2.2 | (with_reducible refine Kd.C_alloc ?_ _) | (with_reducible refine Kd.C_drewN ?_ _) | (with_reducible refine Kd.C_drew ?_))); (case side2 => exact (Kd.R_reads' HO_433000.out).2.1); rintro e w136 ⟨rfl, hb⟩; replace HO_0 := Aside0.mk (Kd.V_below (by (with_reducible repeat (first | apply Kd.V_alloc | apply Kd.V_drewN | apply Kd.V_drew)); exact HO_0.out) hb); replace HO_7 := Aside0.mk (Kd.R_below (by (with_reducible repeat (first | apply Kd.R_alloc | apply Kd.R_drewN | apply Kd.R_drew)); exact HO_7.out) hb); replace HO_433000 := Aside0.mk (Kd.R_below (by (with_reducible repeat (first | apply Kd.R_alloc | apply Kd.R_drewN | apply Kd.R_drew)); exact HO_433000.out) hb); replace BK432 := Aside0.mk (blk_below (g := gb432) (o := .cells #[.slice Ao9 t429.length co9] 25 (0, 0)) (by (with_reducible repeat (first | refine blk_drewN ?_ _ | refine blk_drew ?_ | refine blk_alloc ?_ _)); exact BK432.out) hb); replace HB := Aside0.mk (below_step (by repeat (first | (with_reducible first | exact HB.out | apply below_alloc | apply pw_below_drewN | apply below_drew1 | refine below_set ?_ GE432.out) | exact HB.out)) hb)) | (go_at_call 26; (fail_if_success have z_ := w137); (with_reducible refine (nat_Of.calls k2 a1 t443 _ A121.out).mono ?_); rintro e w137 ⟨v444, rfl, ho0, hb⟩; replace HO_0 := Aside0.mk (Kd.V_elder' (by (with_reducible repeat (first | apply Kd.V_alloc | apply Kd.V_drewN | apply Kd.V_drew)); exact HO_0.out) (Kd.R_base ho0) hb); have HO445 := Aside0.mk (Kd.R_lower (Kd.R_new' (Kd.R_new' ho0 (Kd.R_lt (by (with_reducible repeat (first | apply Kd.R_alloc | apply Kd.R_drewN | apply Kd.R_drew)); exact HO_7.out))) (Kd.R_lt (by (with_reducible repeat (first | apply Kd.R_alloc | apply Kd.R_drewN | apply Kd.R_drew)); exact HO_433000.out))) (below_size (by repeat (first | (with_reducible first | exact HB.out | apply below_alloc | apply pw_below_drewN | apply below_drew1 | refine below_set ?_ GE432.out) | exact HB.out)))); replace HO_7 := Aside0.mk (Kd.R_elder' (by (with_reducible repeat (first | apply Kd.R_alloc | apply Kd.R_drewN | apply Kd.R_drew)); exact HO_7.out) (Kd.R_base ho0) hb); replace HO_433000 := Aside0.mk (Kd.R_elder' (by (with_reducible repeat (first | apply Kd.R_alloc | apply Kd.R_drewN | apply Kd.R_drew)); exact HO_433000.out) (Kd.R_base ho0) hb); replace BK432 := Aside0.mk (blk_below (g := gb432) (o := .cells #[.slice Ao9 t429.length co9] 25 (0, 0)) (by (with_reducible repeat (first | refine blk_drewN ?_ _ | refine blk_drew ?_ | refine blk_alloc ?_ _)); exact BK432.out) hb); replace HB := Aside0.mk (below_step (by repeat (first | (with_reducible first | exact HB.out | apply below_alloc | apply pw_below_drewN | apply below_drew1 | refine below_set ?_ GE432.out) | exact HB.out)) hb); obtain ⟨Ao138, co138, eo138⟩ := Kd.R_slice HO445.out; subst eo138) | (go_at_call 29; (fail_if_success have z_ := w139); (with_reducible refine (nat_Nat_Small.calls k2 _ _ t443 t446 true _ ?side1 ?side2 A122.out).mono ?_); (case side1 => repeat (first | exact (Kd.R_reads' HO445.out).2.2 | (with_reducible refine Kd.C_alloc ?_ _) | (with_reducible refine Kd.C_drewN ?_ _) | (with_reducible refine Kd.C_drew ?_))); (case side2 => exact (Kd.R_reads' HO445.out).2.1); rintro e w139 ⟨rfl, hb⟩; replace HO_0 := Aside0.mk (Kd.V_below (by (with_reducible repeat (first | apply Kd.V_alloc | apply Kd.V_drewN | apply Kd.V_drew)); exact HO_0.out) hb); replace HO_7 := Aside0.mk (Kd.R_below (by (with_reducible repeat (first | apply Kd.R_alloc | apply Kd.R_drewN | apply Kd.R_drew)); exact HO_7.out) hb); replace HO_433000 := Aside0.mk (Kd.R_below (by (with_reducible repeat (first | apply Kd.R_alloc | apply Kd.R_drewN | apply Kd.R_drew)); exact HO_433000.out) hb); replace HO445 := Aside0.mk (Kd.R_below (by (with_reducible repeat (first | apply Kd.R_alloc | apply Kd.R_drewN | apply Kd.R_drew)); exact HO445.out) hb); replace BK432 := Aside0.mk (blk_below (g := gb432) (o := .cells #[.slice Ao9 t429.length co9] 25 (0, 0)) (by (with_reducible repeat (first | refine blk_drewN ?_ _ | refine blk_drew ?_ | refine blk_alloc ?_ _)); exact BK432.out) hb); replace HB := Aside0.mk (below_step (by repeat (first | (with_reducible first | exact HB.out | apply below_alloc | apply pw_below_drewN | apply below_drew1 | refine below_set ?_ GE432.out) | exact HB.out)) hb)) | (go_at_call 32; (fail_if_success have z_ := w140); (with_reducible refine (numerarylaw02_wakes.calls k2  true _ A123.out).mono ?_); rintro e w140 ⟨rfl, hb⟩; replace HO_0 := Aside0.mk (Kd.V_below (by (with_reducible repeat (first | apply Kd.V_alloc | apply Kd.V_drewN | apply Kd.V_drew)); exact HO_0.out) hb); replace HO_7 := Aside0.mk (Kd.R_below (by (with_reducible repeat (first | apply Kd.R_alloc | apply Kd.R_drewN | apply Kd.R_drew)); exact HO_7.out) hb); replace HO_433000 := Aside0.mk (Kd.R_below (by (with_reducible repeat (first | apply Kd.R_alloc | apply Kd.R_drewN | apply Kd.R_drew)); exact HO_433000.out) hb); replace HO445 := Aside0.mk (Kd.R_below (by (with_reducible repeat (first | apply Kd.R_alloc | apply Kd.R_drewN | apply Kd.R_drew)); exact HO445.out) hb); replace BK432 := Aside0.mk (blk_below (g := gb432) (o := .cells #[.slice Ao9 t429.length co9] 25 (0, 0)) (by (with_reducible repeat (first | refine blk_drewN ?_ _ | refine blk_drew ?_ | refine blk_alloc ?_ _)); exact BK432.out) hb); replace HB := Aside0.mk (below_step (by repeat (first | (with_reducible first | exact HB.out | apply below_alloc | apply pw_below_drewN | apply below_drew1 | refine below_set ?_ GE432.out) | exact HB.out)) hb); have hcz141_0 : w140.cell? ⟨gb432, 0, none⟩ = some (.slice Ao9 t429.length co9) := (blk_cell BK432.out 0).trans rfl; have hfz141_0 := blk_frozen BK432.out 0) | (go_at_call 33; (fail_if_success have z_ := w142); (with_reducible refine (nat_Nat_Bits.calls _ _ t429 t449 _ ?side1 ?side2 A125.out).mono ?_); (case side1 => repeat (first | exact (Kd.R_reads' HO_433000.out).2.2 | (with_reducible refine Kd.C_alloc ?_ _) | (with_reducible refine Kd.C_drewN ?_ _) | (with_reducible refine Kd.C_drew ?_))); (case side2 => exact (Kd.R_reads' HO_433000.out).2.1); rintro e w142 ⟨rfl, hb⟩; replace HO_0 := Aside0.mk (Kd.V_below (by (with_reducible repeat (first | apply Kd.V_alloc | apply Kd.V_drewN | apply Kd.V_drew)); exact HO_0.out) hb); replace HO_7 := Aside0.mk (Kd.R_below (by (with_reducible repeat (first | apply Kd.R_alloc | apply Kd.R_drewN | apply Kd.R_drew)); exact HO_7.out) hb); replace HO_433000 := Aside0.mk (Kd.R_below (by (with_reducible repeat (first | apply Kd.R_alloc | apply Kd.R_drewN | apply Kd.R_drew)); exact HO_433000.out) hb); replace HO445 := Aside0.mk (Kd.R_below (by (with_reducible repeat (first | apply Kd.R_alloc | apply Kd.R_drewN | apply Kd.R_drew)); exact HO445.out) hb); replace BK432 := Aside0.mk (blk_below (g := gb432) (o := .cells #[.slice Ao9 t429.length co9] 25 (0, 0)) (by (with_reducible repeat (first | refine blk_drewN ?_ _ | refine blk_drew ?_ | refine blk_alloc ?_ _)); exact BK432.out) hb); replace HB := Aside0.mk (below_step (by repeat (first | (with_reducible first | exact HB.out | apply below_alloc | apply pw_below_drewN | apply below_drew1 | refine below_set ?_ GE432.out) | exact HB.out)) hb)) | (go_at_call 26; (fail_if_success have z_ := w143); (with_reducible refine (nat_Of.calls k2 a1 t450 _ A131.out).mono ?_); rintro e w143 ⟨v451, rfl, ho0, hb⟩; replace HO_0 := Aside0.mk (Kd.V_elder' (by (with_reducible repeat (first | apply Kd.V_alloc | apply Kd.V_drewN | apply Kd.V_drew)); exact HO_0.out) (Kd.R_base ho0) hb); have HO452 := Aside0.mk (Kd.R_lower (Kd.R_new' (Kd.R_new' (Kd.R_new' ho0 (Kd.R_lt (by (with_reducible repeat (first | apply Kd.R_alloc | apply Kd.R_drewN | apply Kd.R_drew)); exact HO_7.out))) (Kd.R_lt (by (with_reducible repeat (first | apply Kd.R_alloc | apply Kd.R_drewN | apply Kd.R_drew)); exact HO_433000.out))) (Kd.R_lt (by (with_reducible repeat (first | apply Kd.R_alloc | apply Kd.R_drewN | apply Kd.R_drew)); exact HO445.out))) (below_size (by repeat (first | (with_reducible first | exact HB.out | apply below_alloc | apply pw_below_drewN | apply below_drew1 | refine below_set ?_ GE432.out) | exact HB.out)))); replace HO_7 := Aside0.mk (Kd.R_elder' (by (with_reducible repeat (first | apply Kd.R_alloc | apply Kd.R_drewN | apply Kd.R_drew)); exact HO_7.out) (Kd.R_base ho0) hb); replace HO_433000 := Aside0.mk (Kd.R_elder' (by (with_reducible repeat (first | apply Kd.R_alloc | apply Kd.R_drewN | apply Kd.R_drew)); exact HO_433000.out) (Kd.R_base ho0) hb); replace HO445 := Aside0.mk (Kd.R_elder' (by (with_reducible repeat (first | apply Kd.R_alloc | apply Kd.R_drewN | apply Kd.R_drew)); exact HO445.out) (Kd.R_base ho0) hb); replace BK432 := Aside0.mk (blk_below (g := gb432) (o := .cells #[.slice Ao9 t429.length co9] 25 (0, 0)) (by (with_reducible repeat (first | refine blk_drewN ?_ _ | refine blk_drew ?_ | refine blk_alloc ?_ _)); exact BK432.out) hb); replace HB := Aside0.mk (below_step (by repeat (first | (with_reducible first | exact HB.out | apply below_alloc | apply pw_below_drewN | apply below_drew1 | refine below_set ?_ GE432.out) | exact HB.out)) hb); obtain ⟨Ao144, co144, eo144⟩ := Kd.R_slice HO452.out; subst eo144) | (go_at_call 35; (fail_if_success have z_ := w145); (with_reducible refine (numerarylaw02_of.calls k2 _ _ t450 t453 _ ?side1 ?side2 A132.out).mono ?_); (case side1 => repeat (first | exact (Kd.R_reads' HO452.out).2.2 | (with_reducible refine Kd.C_alloc ?_ _) | (with_reducible refine Kd.C_drewN ?_ _) | (with_reducible refine Kd.C_drew ?_))); (case side2 => exact (Kd.R_reads' HO452.out).2.1); rintro e w145 ⟨v454, rfl, ho0, hb⟩; replace HO_0 := Aside0.mk (Kd.V_elder' (by (with_reducible repeat (first | apply Kd.V_alloc | apply Kd.V_drewN | apply Kd.V_drew)); exact HO_0.out) (Kd.R_base ho0) hb); replace HO_7 := Aside0.mk (Kd.R_below (by (with_reducible repeat (first | apply Kd.R_alloc | apply Kd.R_drewN | apply Kd.R_drew)); exact HO_7.out) hb); replace HO_433000 := Aside0.mk (Kd.R_below (by (with_reducible repeat (first | apply Kd.R_alloc | apply Kd.R_drewN | apply Kd.R_drew)); exact HO_433000.out) hb); replace HO445 := Aside0.mk (Kd.R_below (by (with_reducible repeat (first | apply Kd.R_alloc | apply Kd.R_drewN | apply Kd.R_drew)); exact HO445.out) hb); replace HO452 := Aside0.mk (Kd.R_below (by (with_reducible repeat (first | apply Kd.R_alloc | apply Kd.R_drewN | apply Kd.R_drew)); exact HO452.out) hb); have HO455 := Aside0.mk (Kd.R_lower ho0 (below_size (by repeat (first | (with_reducible first | exact HB.out | apply below_alloc | apply pw_below_drewN | apply below_drew1 | refine below_set ?_ GE432.out) | exact HB.out)))); replace BK432 := Aside0.mk (blk_below (g := gb432) (o := .cells #[.slice Ao9 t429.length co9] 25 (0, 0)) (by (with_reducible repeat (first | refine blk_drewN ?_ _ | refine blk_drew ?_ | refine blk_alloc ?_ _)); exact BK432.out) hb); replace HB := Aside0.mk (below_step (by repeat (first | (with_reducible first | exact HB.out | apply below_alloc | apply pw_below_drewN | apply below_drew1 | refine below_set ?_ GE432.out) | exact HB.out)) hb)) | (go_at_call 27; (fail_if_success have z_ := w146); (with_reducible refine (numeraryref02_Of.calls k2 a1 t456 _ A133.out).mono ?_); rintro e w146 ⟨v457, rfl, ho0, hb⟩; replace HO_0 := Aside0.mk (Kd.V_elder' (by (with_reducible repeat (first | apply Kd.V_alloc | apply Kd.V_drewN | apply Kd.V_drew)); exact HO_0.out) (Kd.R_base ho0) hb); replace HO_7 := Aside0.mk (Kd.R_below (by (with_reducible repeat (first | apply Kd.R_alloc | apply Kd.R_drewN | apply Kd.R_drew)); exact HO_7.out) hb); replace HO_433000 := Aside0.mk (Kd.R_below (by (with_reducible repeat (first | apply Kd.R_alloc | apply Kd.R_drewN | apply Kd.R_drew)); exact HO_433000.out) hb); replace HO445 := Aside0.mk (Kd.R_below (by (with_reducible repeat (first | apply Kd.R_alloc | apply Kd.R_drewN | apply Kd.R_drew)); exact HO445.out) hb); replace HO452 := Aside0.mk (Kd.R_below (by (with_reducible repeat (first | apply Kd.R_alloc | apply Kd.R_drewN | apply Kd.R_drew)); exact HO452.out) hb); have HO458 := Aside0.mk (Kd.R_lower (Kd.R_new' ho0 (Kd.R_lt (by (with_reducible repeat (first | apply Kd.R_alloc | apply Kd.R_drewN | apply Kd.R_drew)); exact HO455.out))) (below_size (by repeat (first | (with_reducible first | exact HB.out | apply below_alloc | apply pw_below_drewN | apply below_drew1 | refine below_set ?_ GE432.out) | exact HB.out)))); replace HO455 := Aside0.mk (Kd.R_elder' (by (with_reducible repeat (first | apply Kd.R_alloc | apply Kd.R_drewN | apply Kd.R_drew)); exact HO455.out) (Kd.R_base ho0) hb); replace BK432 := Aside0.mk (blk_below (g := gb432) (o := .cells #[.slice Ao9 t429.length co9] 25 (0, 0)) (by (with_reducible repeat (first | refine blk_drewN ?_ _ | refine blk_drew ?_ | refine blk_alloc ?_ _)); exact BK432.out) hb); replace HB := Aside0.mk (below_step (by repeat (first | (with_reducible first | exact HB.out | apply below_alloc | apply pw_below_drewN | apply below_drew1 | refine below_set ?_ GE432.out) | exact HB.out)) hb); obtain ⟨Ao147, co147, eo147⟩ := Kd.R_slice HO455.out; subst eo147; obtain ⟨Ao148, co148, eo148⟩ := Kd.R_slice HO458.out; subst eo148) | (go_at_call 34; (with_reducible refine (numerarylaw02_same.calls k2 _ _ t453 _ _ t456 t459 _ ?side1 ?side2 ?side3 ?side4 A134.out).mono ?_); (case side1 => repeat (first | exact (Kd.R_reads' HO455.out).2.2 | (with_reducible refine Kd.C_alloc ?_ _) | (with_reducible refine Kd.C_drewN ?_ _) | (with_reducible refine Kd.C_drew ?_))); (case side2 => exact (Kd.R_reads' HO455.out).2.1); (case side3 => repeat (first | exact (Kd.R_reads' HO458.out).2.2 | (with_reducible refine Kd.C_alloc ?_ _) | (with_reducible refine Kd.C_drewN ?_ _) | (with_reducible refine Kd.C_drew ?_))); (case side4 => exact (Kd.R_reads' HO458.out).2.1); rintro e w' ⟨rfl, ⟨nd, rfl⟩⟩; (try first | exact ⟨rfl, _, World.drewN_drewN _ _ _⟩ | exact ⟨rfl, _, Eq.trans (World.drewN_drewN _ _ _) (congrArg (World.drewN _) (Nat.add_assoc _ _ _))⟩))); try go_wp2_with (first | (go_at_call 29; (fail_if_success have z_ := w136); (with_reducible refine (nat_Nat_Small.calls k2 _ _ t429 t441 t442 _ ?side1 ?side2 A120.out).mono ?_); (case side1 => repeat (first | exact (Kd.R_reads' HO_433000.out).2.2 | (with_reducible refine Kd.C_alloc ?_ _) | (with_reducible refine Kd.C_drewN ?_ _) | (with_reducible refine Kd.C_drew ?_))); (case side2 => exact (Kd.R_reads' HO_433000.out).2.1); rintro e w136 ⟨rfl, hb⟩; replace HO_0 := Aside0.mk (Kd.V_below (by (with_reducible repeat (first | apply Kd.V_alloc | apply Kd.V_drewN | apply Kd.V_drew)); exact HO_0.out) hb); replace HO_7 := Aside0.mk (Kd.R_below (by (with_reducible repeat (first | apply Kd.R_alloc | apply Kd.R_drewN | apply Kd.R_drew)); exact HO_7.out) hb); replace HO_433000 := Aside0.mk (Kd.R_below (by (with_reducible repeat (first | apply Kd.R_alloc | apply Kd.R_drewN | apply Kd.R_drew)); exact HO_433000.out) hb); replace BK432 := Aside0.mk (blk_below (g := gb432) (o := .cells #[.slice Ao9 t429.length co9] 25 (0, 0)) (by (with_reducible repeat (first | refine blk_drewN ?_ _ | refine blk_drew ?_ | refine blk_alloc ?_ _)); exact BK432.out) hb); replace HB := Aside0.mk (below_step (by repeat (first | (with_reducible first | exact HB.out | apply below_alloc | apply pw_below_drewN | apply below_drew1 | refine below_set ?_ GE432.out) | exact HB.out)) hb)) | (go_at_call 26; (fail_if_success have z_ := w137); (with_reducible refine (nat_Of.calls k2 a1 t443 _ A121.out).mono ?_); rintro e w137 ⟨v444, rfl, ho0, hb⟩; replace HO_0 := Aside0.mk (Kd.V_elder' (by (with_reducible repeat (first | apply Kd.V_alloc | apply Kd.V_drewN | apply Kd.V_drew)); exact HO_0.out) (Kd.R_base ho0) hb); have HO445 := Aside0.mk (Kd.R_lower (Kd.R_new' (Kd.R_new' ho0 (Kd.R_lt (by (with_reducible repeat (first | apply Kd.R_alloc | apply Kd.R_drewN | apply Kd.R_drew)); exact HO_7.out))) (Kd.R_lt (by (with_reducible repeat (first | apply Kd.R_alloc | apply Kd.R_drewN | apply Kd.R_drew)); exact HO_433000.out))) (below_size (by repeat (first | (with_reducible first | exact HB.out | apply below_alloc | apply pw_below_drewN | apply below_drew1 | refine below_set ?_ GE432.out) | exact HB.out)))); replace HO_7 := Aside0.mk (Kd.R_elder' (by (with_reducible repeat (first | apply Kd.R_alloc | apply Kd.R_drewN | apply Kd.R_drew)); exact HO_7.out) (Kd.R_base ho0) hb); replace HO_433000 := Aside0.mk (Kd.R_elder' (by (with_reducible repeat (first | apply Kd.R_alloc | apply Kd.R_drewN | apply Kd.R_drew)); exact HO_433000.out) (Kd.R_base ho0) hb); replace BK432 := Aside0.mk (blk_below (g := gb432) (o := .cells #[.slice Ao9 t429.length co9] 25 (0, 0)) (by (with_reducible repeat (first | refine blk_drewN ?_ _ | refine blk_drew ?_ | refine blk_alloc ?_ _)); exact BK432.out) hb); replace HB := Aside0.mk (below_step (by repeat (first | (with_reducible first | exact HB.out | apply below_alloc | apply pw_below_drewN | apply below_drew1 | refine below_set ?_ GE432.out) | exact HB.out)) hb); obtain ⟨Ao138, co138, eo138⟩ := Kd.R_slice HO445.out; subst eo138) | (go_at_call 29; (with_reducible refine (nat_Nat_Small.calls k2 _ _ t443 t446 true _ ?side1 ?side2 A122.out).mono ?_); (case side1 => repeat (first | exact (Kd.R_reads' HO445.out).2.2 | (with_reducible refine Kd.C_alloc ?_ _) | (with_reducible refine Kd.C_drewN ?_ _) | (with_reducible refine Kd.C_drew ?_))); (case side2 => exact (Kd.R_reads' HO445.out).2.1); rintro e w139 ⟨rfl, hb⟩; replace HO_0 := Aside0.mk (Kd.V_below (by (with_reducible repeat (first | apply Kd.V_alloc | apply Kd.V_drewN | apply Kd.V_drew)); exact HO_0.out) hb); replace HO_7 := Aside0.mk (Kd.R_below (by (with_reducible repeat (first | apply Kd.R_alloc | apply Kd.R_drewN | apply Kd.R_drew)); exact HO_7.out) hb); replace HO_433000 := Aside0.mk (Kd.R_below (by (with_reducible repeat (first | apply Kd.R_alloc | apply Kd.R_drewN | apply Kd.R_drew)); exact HO_433000.out) hb); replace HO445 := Aside0.mk (Kd.R_below (by (with_reducible repeat (first | apply Kd.R_alloc | apply Kd.R_drewN | apply Kd.R_drew)); exact HO445.out) hb); replace BK432 := Aside0.mk (blk_below (g := gb432) (o := .cells #[.slice Ao9 t429.length co9] 25 (0, 0)) (by (with_reducible repeat (first | refine blk_drewN ?_ _ | refine blk_drew ?_ | refine blk_alloc ?_ _)); exact BK432.out) hb); replace HB := Aside0.mk (below_step (by repeat (first | (with_reducible first | exact HB.out | apply below_alloc | apply pw_below_drewN | apply below_drew1 | refine below_set ?_ GE432.out) | exact HB.out)) hb)) | (go_at_call 32; (with_reducible refine (numerarylaw02_wakes.calls k2  true _ A123.out).mono ?_); rintro e w140 ⟨rfl, hb⟩; replace HO_0 := Aside0.mk (Kd.V_below (by (with_reducible repeat (first | apply Kd.V_alloc | apply Kd.V_drewN | apply Kd.V_drew)); exact HO_0.out) hb); replace HO_7 := Aside0.mk (Kd.R_below (by (with_reducible repeat (first | apply Kd.R_alloc | apply Kd.R_drewN | apply Kd.R_drew)); exact HO_7.out) hb); replace HO_433000 := Aside0.mk (Kd.R_below (by (with_reducible repeat (first | apply Kd.R_alloc | apply Kd.R_drewN | apply Kd.R_drew)); exact HO_433000.out) hb); replace HO445 := Aside0.mk (Kd.R_below (by (with_reducible repeat (first | apply Kd.R_alloc | apply Kd.R_drewN | apply Kd.R_drew)); exact HO445.out) hb); replace BK432 := Aside0.mk (blk_below (g := gb432) (o := .cells #[.slice Ao9 t429.length co9] 25 (0, 0)) (by (with_reducible repeat (first | refine blk_drewN ?_ _ | refine blk_drew ?_ | refine blk_alloc ?_ _)); exact BK432.out) hb); replace HB := Aside0.mk (below_step (by repeat (first | (with_reducible first | exact HB.out | apply below_alloc | apply pw_below_drewN | apply below_drew1 | refine below_set ?_ GE432.out) | exact HB.out)) hb); have hcz141_0 : w140.cell? ⟨gb432, 0, none⟩ = some (.slice Ao9 t429.length co9) := (blk_cell BK432.out 0).trans rfl; have hfz141_0 := blk_frozen BK432.out 0) | (go_at_call 33; (with_reducible refine (nat_Nat_Bits.calls _ _ t429 t449 _ ?side1 ?side2 A125.out).mono ?_); (case side1 => repeat (first | exact (Kd.R_reads' HO_433000.out).2.2 | (with_reducible refine Kd.C_alloc ?_ _) | (with_reducible refine Kd.C_drewN ?_ _) | (with_reducible refine Kd.C_drew ?_))); (case side2 => exact (Kd.R_reads' HO_433000.out).2.1); rintro e w142 ⟨rfl, hb⟩; replace HO_0 := Aside0.mk (Kd.V_below (by (with_reducible repeat (first | apply Kd.V_alloc | apply Kd.V_drewN | apply Kd.V_drew)); exact HO_0.out) hb); replace HO_7 := Aside0.mk (Kd.R_below (by (with_reducible repeat (first | apply Kd.R_alloc | apply Kd.R_drewN | apply Kd.R_drew)); exact HO_7.out) hb); replace HO_433000 := Aside0.mk (Kd.R_below (by (with_reducible repeat (first | apply Kd.R_alloc | apply Kd.R_drewN | apply Kd.R_drew)); exact HO_433000.out) hb); replace HO445 := Aside0.mk (Kd.R_below (by (with_reducible repeat (first | apply Kd.R_alloc | apply Kd.R_drewN | apply Kd.R_drew)); exact HO445.out) hb); replace BK432 := Aside0.mk (blk_below (g := gb432) (o := .cells #[.slice Ao9 t429.length co9] 25 (0, 0)) (by (with_reducible repeat (first | refine blk_drewN ?_ _ | refine blk_drew ?_ | refine blk_alloc ?_ _)); exact BK432.out) hb); replace HB := Aside0.mk (below_step (by repeat (first | (with_reducible first | exact HB.out | apply below_alloc | apply pw_below_drewN | apply below_drew1 | refine below_set ?_ GE432.out) | exact HB.out)) hb)) | (go_at_call 26; (with_reducible refine (nat_Of.calls k2 a1 t450 _ A131.out).mono ?_); rintro e w143 ⟨v451, rfl, ho0, hb⟩; replace HO_0 := Aside0.mk (Kd.V_elder' (by (with_reducible repeat (first | apply Kd.V_alloc | apply Kd.V_drewN | apply Kd.V_drew)); exact HO_0.out) (Kd.R_base ho0) hb); have HO452 := Aside0.mk (Kd.R_lower (Kd.R_new' (Kd.R_new' (Kd.R_new' ho0 (Kd.R_lt (by (with_reducible repeat (first | apply Kd.R_alloc | apply Kd.R_drewN | apply Kd.R_drew)); exact HO_7.out))) (Kd.R_lt (by (with_reducible repeat (first | apply Kd.R_alloc | apply Kd.R_drewN | apply Kd.R_drew)); exact HO_433000.out))) (Kd.R_lt (by (with_reducible repeat (first | apply Kd.R_alloc | apply Kd.R_drewN | apply Kd.R_drew)); exact HO445.out))) (below_size (by repeat (first | (with_reducible first | exact HB.out | apply below_alloc | apply pw_below_drewN | apply below_drew1 | refine below_set ?_ GE432.out) | exact HB.out)))); replace HO_7 := Aside0.mk (Kd.R_elder' (by (with_reducible repeat (first | apply Kd.R_alloc | apply Kd.R_drewN | apply Kd.R_drew)); exact HO_7.out) (Kd.R_base ho0) hb); replace HO_433000 := Aside0.mk (Kd.R_elder' (by (with_reducible repeat (first | apply Kd.R_alloc | apply Kd.R_drewN | apply Kd.R_drew)); exact HO_433000.out) (Kd.R_base ho0) hb); replace HO445 := Aside0.mk (Kd.R_elder' (by (with_reducible repeat (first | apply Kd.R_alloc | apply Kd.R_drewN | apply Kd.R_drew)); exact HO445.out) (Kd.R_base ho0) hb); replace BK432 := Aside0.mk (blk_below (g := gb432) (o := .cells #[.slice Ao9 t429.length co9] 25 (0, 0)) (by (with_reducible repeat (first | refine blk_drewN ?_ _ | refine blk_drew ?_ | refine blk_alloc ?_ _)); exact BK432.out) hb); replace HB := Aside0.mk (below_step (by repeat (first | (with_reducible first | exact HB.out | apply below_alloc | apply pw_below_drewN | apply below_drew1 | refine below_set ?_ GE432.out) | exact HB.out)) hb); obtain ⟨Ao144, co144, eo144⟩ := Kd.R_slice HO452.out; subst eo144) | (go_at_call 35; (with_reducible refine (numerarylaw02_of.calls k2 _ _ t450 t453 _ ?side1 ?side2 A132.out).mono ?_); (case side1 => repeat (first | exact (Kd.R_reads' HO452.out).2.2 | (with_reducible refine Kd.C_alloc ?_ _) | (with_reducible refine Kd.C_drewN ?_ _) | (with_reducible refine Kd.C_drew ?_))); (case side2 => exact (Kd.R_reads' HO452.out).2.1); rintro e w145 ⟨v454, rfl, ho0, hb⟩; replace HO_0 := Aside0.mk (Kd.V_elder' (by (with_reducible repeat (first | apply Kd.V_alloc | apply Kd.V_drewN | apply Kd.V_drew)); exact HO_0.out) (Kd.R_base ho0) hb); replace HO_7 := Aside0.mk (Kd.R_below (by (with_reducible repeat (first | apply Kd.R_alloc | apply Kd.R_drewN | apply Kd.R_drew)); exact HO_7.out) hb); replace HO_433000 := Aside0.mk (Kd.R_below (by (with_reducible repeat (first | apply Kd.R_alloc | apply Kd.R_drewN | apply Kd.R_drew)); exact HO_433000.out) hb); replace HO445 := Aside0.mk (Kd.R_below (by (with_reducible repeat (first | apply Kd.R_alloc | apply Kd.R_drewN | apply Kd.R_drew)); exact HO445.out) hb); replace HO452 := Aside0.mk (Kd.R_below (by (with_reducible repeat (first | apply Kd.R_alloc | apply Kd.R_drewN | apply Kd.R_drew)); exact HO452.out) hb); have HO455 := Aside0.mk (Kd.R_lower ho0 (below_size (by repeat (first | (with_reducible first | exact HB.out | apply below_alloc | apply pw_below_drewN | apply below_drew1 | refine below_set ?_ GE432.out) | exact HB.out)))); replace BK432 := Aside0.mk (blk_below (g := gb432) (o := .cells #[.slice Ao9 t429.length co9] 25 (0, 0)) (by (with_reducible repeat (first | refine blk_drewN ?_ _ | refine blk_drew ?_ | refine blk_alloc ?_ _)); exact BK432.out) hb); replace HB := Aside0.mk (below_step (by repeat (first | (with_reducible first | exact HB.out | apply below_alloc | apply pw_below_drewN | apply below_drew1 | refine below_set ?_ GE432.out) | exact HB.out)) hb)) | (go_at_call 27; (with_reducible refine (numeraryref02_Of.calls k2 a1 t456 _ A133.out).mono ?_); rintro e w146 ⟨v457, rfl, ho0, hb⟩; replace HO_0 := Aside0.mk (Kd.V_elder' (by (with_reducible repeat (first | apply Kd.V_alloc | apply Kd.V_drewN | apply Kd.V_drew)); exact HO_0.out) (Kd.R_base ho0) hb); replace HO_7 := Aside0.mk (Kd.R_below (by (with_reducible repeat (first | apply Kd.R_alloc | apply Kd.R_drewN | apply Kd.R_drew)); exact HO_7.out) hb); replace HO_433000 := Aside0.mk (Kd.R_below (by (with_reducible repeat (first | apply Kd.R_alloc | apply Kd.R_drewN | apply Kd.R_drew)); exact HO_433000.out) hb); replace HO445 := Aside0.mk (Kd.R_below (by (with_reducible repeat (first | apply Kd.R_alloc | apply Kd.R_drewN | apply Kd.R_drew)); exact HO445.out) hb); replace HO452 := Aside0.mk (Kd.R_below (by (with_reducible repeat (first | apply Kd.R_alloc | apply Kd.R_drewN | apply Kd.R_drew)); exact HO452.out) hb); have HO458 := Aside0.mk (Kd.R_lower (Kd.R_new' ho0 (Kd.R_lt (by (with_reducible repeat (first | apply Kd.R_alloc | apply Kd.R_drewN | apply Kd.R_drew)); exact HO455.out))) (below_size (by repeat (first | (with_reducible first | exact HB.out | apply below_alloc | apply pw_below_drewN | apply below_drew1 | refine below_set ?_ GE432.out) | exact HB.out)))); replace HO455 := Aside0.mk (Kd.R_elder' (by (with_reducible repeat (first | apply Kd.R_alloc | apply Kd.R_drewN | apply Kd.R_drew)); exact HO455.out) (Kd.R_base ho0) hb); replace BK432 := Aside0.mk (blk_below (g := gb432) (o := .cells #[.slice Ao9 t429.length co9] 25 (0, 0)) (by (with_reducible repeat (first | refine blk_drewN ?_ _ | refine blk_drew ?_ | refine blk_alloc ?_ _)); exact BK432.out) hb); replace HB := Aside0.mk (below_step (by repeat (first | (with_reducible first | exact HB.out | apply below_alloc | apply pw_below_drewN | apply below_drew1 | refine below_set ?_ GE432.out) | exact HB.out)) hb); obtain ⟨Ao147, co147, eo147⟩ := Kd.R_slice HO455.out; subst eo147; obtain ⟨Ao148, co148, eo148⟩ := Kd.R_slice HO458.out; subst eo148) | (go_at_call 34; (with_reducible refine (numerarylaw02_same.calls k2 _ _ t453 _ _ t456 t459 _ ?side1 ?side2 ?side3 ?side4 A134.out).mono ?_); (case side1 => repeat (first | exact (Kd.R_reads' HO455.out).2.2 | (with_reducible refine Kd.C_alloc ?_ _) | (with_reducible refine Kd.C_drewN ?_ _) | (with_reducible refine Kd.C_drew ?_))); (case side2 => exact (Kd.R_reads' HO455.out).2.1); (case side3 => repeat (first | exact (Kd.R_reads' HO458.out).2.2 | (with_reducible refine Kd.C_alloc ?_ _) | (with_reducible refine Kd.C_drewN ?_ _) | (with_reducible refine Kd.C_drew ?_))); (case side4 => exact (Kd.R_reads' HO458.out).2.1); rintro e w' ⟨rfl, ⟨nd, rfl⟩⟩; (try first | exact ⟨rfl, _, World.drewN_drewN _ _ _⟩ | exact ⟨rfl, _, Eq.trans (World.drewN_drewN _ _ _) (congrArg (World.drewN _) (Nat.add_assoc _ _ _))⟩))))
            go_ret
            exact ⟨rfl, by repeat (first | (with_reducible first | exact HB.out | apply below_alloc | apply pw_below_drewN | apply below_drew1 | refine below_set ?_ GE432.out) | exact HB.out)⟩
          rw [if_neg c119] at H
          have c119b0 : decide (2 < x6_1) = false := decide_eq_false c119
          clear c119
          replace H := Option.bind_eq_some_iff.mp H
          obtain ⟨⟨t460, t461⟩, A1490, H⟩ := H
          have A149 := Aside0.mk A1490
          clear A1490
          replace H := Option.bind_eq_some_iff.mp H
          obtain ⟨t462, A1500, H⟩ := H
          have A150 := Aside0.mk A1500
          clear A1500
          replace H := Option.bind_eq_some_iff.mp H
          obtain ⟨⟨t465, t466⟩, A1510, H⟩ := H
          have A151 := Aside0.mk A1510
          clear A1510
          replace H := Option.bind_eq_some_iff.mp H
          obtain ⟨t467, A1520, H⟩ := H
          have A152 := Aside0.mk A1520
          clear A1520
          by_cases c153 : t467 = true
          rotate_left
          · replace c153 := Bool.eq_false_iff.mpr c153
            subst c153
            have H1 : (some false) = some r := by rw [if_neg (show ¬ (false = true) by decide)] at H; exact H
            clear H
            have H := H1
            clear H1
            exact absurd (H.trans (congrArg some HR_.out)) (by simp)
          subst c153
          have H1 : ((nat_Nat_Bits.f t429).bind fun t468 => (if t468 = x8_2 then (if (t461 == (decide (x6_1 ≤ 2))) = true then (if t460 = x9_2 then (if t466 = true then (if t465 = a1 then ((nat_Of.f k2 a1).bind fun t469 => ((numerarylaw02_of.f k2 t469).bind fun t472 => ((numeraryref02_Of.f k2 a1).bind fun t475 => ((numerarylaw02_same.f k2 t472 t475).bind fun t478 => (some t478))))) else (some false)) else (some false)) else (some false)) else (some false)) else (some false))) = some r := by rw [if_pos rfl] at H; exact H
          clear H
          have H := H1
          clear H1
          replace H := Option.bind_eq_some_iff.mp H
          obtain ⟨t468, A1540, H⟩ := H
          have A154 := Aside0.mk A1540
          clear A1540
          by_cases c155 : t468 = x8_2
          rotate_left
          · rw [if_neg c155] at H
            exact absurd (H.trans (congrArg some HR_.out)) (by simp)
          rw [if_pos c155] at H
          have c155b0 : (t468 == x8_2) = true := beq_iff_eq.mpr c155
          have c155b1 : (t468 != x8_2) = false := bne_eq_false_iff_eq.mpr c155
          clear c155
          by_cases c156 : (t461 == (decide (x6_1 ≤ 2))) = true
          rotate_left
          · rw [if_neg c156] at H
            exact absurd (H.trans (congrArg some HR_.out)) (by simp)
          rw [if_pos c156] at H
          have c156b0 : (t461 == (decide (x6_1 ≤ 2))) = true := c156
          (try (have c156b1 : decide (t461 = (decide (x6_1 ≤ 2))) = true := by simpa using c156))
          (try (have c156b2 : (t461 == (decide (x6_1 ≤ 2))) = true := by simpa using c156))
          clear c156
          by_cases c157 : t460 = x9_2
          rotate_left
          · rw [if_neg c157] at H
            exact absurd (H.trans (congrArg some HR_.out)) (by simp)
          rw [if_pos c157] at H
          have c157b0 : (t460 == x9_2) = true := beq_iff_eq.mpr c157
          have c157b1 : (t460 != x9_2) = false := bne_eq_false_iff_eq.mpr c157
          clear c157
          by_cases c158 : t466 = true
          rotate_left
          · replace c158 := Bool.eq_false_iff.mpr c158
            subst c158
            have H1 : (some false) = some r := by rw [if_neg (show ¬ (false = true) by decide)] at H; exact H
            clear H
            have H := H1
            clear H1
            exact absurd (H.trans (congrArg some HR_.out)) (by simp)
          subst c158
          have H1 : (if t465 = a1 then ((nat_Of.f k2 a1).bind fun t469 => ((numerarylaw02_of.f k2 t469).bind fun t472 => ((numeraryref02_Of.f k2 a1).bind fun t475 => ((numerarylaw02_same.f k2 t472 t475).bind fun t478 => (some t478))))) else (some false)) = some r := by rw [if_pos rfl] at H; exact H
          clear H
          have H := H1
          clear H1
          by_cases c159 : t465 = a1
          rotate_left
          · rw [if_neg c159] at H
            exact absurd (H.trans (congrArg some HR_.out)) (by simp)
          rw [if_pos c159] at H
          have c159b0 : (t465 == a1) = true := beq_iff_eq.mpr c159
          have c159b1 : (t465 != a1) = false := bne_eq_false_iff_eq.mpr c159
          clear c159
          replace H := Option.bind_eq_some_iff.mp H
          obtain ⟨t469, A1600, H⟩ := H
          have A160 := Aside0.mk A1600
          clear A1600
          replace H := Option.bind_eq_some_iff.mp H
          obtain ⟨t472, A1610, H⟩ := H
          have A161 := Aside0.mk A1610
          clear A1610
          replace H := Option.bind_eq_some_iff.mp H
          obtain ⟨t475, A1620, H⟩ := H
          have A162 := Aside0.mk A1620
          clear A1620
          replace H := Option.bind_eq_some_iff.mp H
          obtain ⟨t478, A1630, H⟩ := H
          have A163 := Aside0.mk A1630
          clear A1630
          obtain rfl := Option.some.inj H
          have hcz164_0 : wr.cell? ⟨gb432, 0, none⟩ = some (.slice Ao9 t429.length co9) := (blk_cell BK432.out 0).trans rfl
          have hfz164_0 := blk_frozen BK432.out 0
          go_wp2_with (first | (go_at_call 29; (fail_if_success have z_ := w165); (with_reducible refine (nat_Nat_Small.calls k2 _ _ t429 t460 t461 _ ?side1 ?side2 A149.out).mono ?_); (case side1 => repeat (first | exact (Kd.R_reads' HO_433000.out).2.2 | (with_reducible refine Kd.C_alloc ?_ _) | (with_reducible refine Kd.C_drewN ?_ _) | (with_reducible refine Kd.C_drew ?_))); (case side2 => exact (Kd.R_reads' HO_433000.out).2.1); rintro e w165 ⟨rfl, hb⟩; replace HO_0 := Aside0.mk (Kd.V_below (by (with_reducible repeat (first | apply Kd.V_alloc | apply Kd.V_drewN | apply Kd.V_drew)); exact HO_0.out) hb); replace HO_7 := Aside0.mk (Kd.R_below (by (with_reducible repeat (first | apply Kd.R_alloc | apply Kd.R_drewN | apply Kd.R_drew)); exact HO_7.out) hb); replace HO_433000 := Aside0.mk (Kd.R_below (by (with_reducible repeat (first | apply Kd.R_alloc | apply Kd.R_drewN | apply Kd.R_drew)); exact HO_433000.out) hb); replace BK432 := Aside0.mk (blk_below (g := gb432) (o := .cells #[.slice Ao9 t429.length co9] 25 (0, 0)) (by (with_reducible repeat (first | refine blk_drewN ?_ _ | refine blk_drew ?_ | refine blk_alloc ?_ _)); exact BK432.out) hb); replace HB := Aside0.mk (below_step (by repeat (first | (with_reducible first | exact HB.out | apply below_alloc | apply pw_below_drewN | apply below_drew1 | refine below_set ?_ GE432.out) | exact HB.out)) hb)) | (go_at_call 26; (fail_if_success have z_ := w166); (with_reducible refine (nat_Of.calls k2 a1 t462 _ A150.out).mono ?_); rintro e w166 ⟨v463, rfl, ho0, hb⟩; replace HO_0 := Aside0.mk (Kd.V_elder' (by (with_reducible repeat (first | apply Kd.V_alloc | apply Kd.V_drewN | apply Kd.V_drew)); exact HO_0.out) (Kd.R_base ho0) hb); have HO464 := Aside0.mk (Kd.R_lower (Kd.R_new' (Kd.R_new' ho0 (Kd.R_lt (by (with_reducible repeat (first | apply Kd.R_alloc | apply Kd.R_drewN | apply Kd.R_drew)); exact HO_7.out))) (Kd.R_lt (by (with_reducible repeat (first | apply Kd.R_alloc | apply Kd.R_drewN | apply Kd.R_drew)); exact HO_433000.out))) (below_size (by repeat (first | (with_reducible first | exact HB.out | apply below_alloc | apply pw_below_drewN | apply below_drew1 | refine below_set ?_ GE432.out) | exact HB.out)))); replace HO_7 := Aside0.mk (Kd.R_elder' (by (with_reducible repeat (first | apply Kd.R_alloc | apply Kd.R_drewN | apply Kd.R_drew)); exact HO_7.out) (Kd.R_base ho0) hb); replace HO_433000 := Aside0.mk (Kd.R_elder' (by (with_reducible repeat (first | apply Kd.R_alloc | apply Kd.R_drewN | apply Kd.R_drew)); exact HO_433000.out) (Kd.R_base ho0) hb); replace BK432 := Aside0.mk (blk_below (g := gb432) (o := .cells #[.slice Ao9 t429.length co9] 25 (0, 0)) (by (with_reducible repeat (first | refine blk_drewN ?_ _ | refine blk_drew ?_ | refine blk_alloc ?_ _)); exact BK432.out) hb); replace HB := Aside0.mk (below_step (by repeat (first | (with_reducible first | exact HB.out | apply below_alloc | apply pw_below_drewN | apply below_drew1 | refine below_set ?_ GE432.out) | exact HB.out)) hb); obtain ⟨Ao167, co167, eo167⟩ := Kd.R_slice HO464.out; subst eo167) | (go_at_call 29; (with_reducible refine (nat_Nat_Small.calls k2 _ _ t462 t465 true _ ?side1 ?side2 A151.out).mono ?_); (case side1 => repeat (first | exact (Kd.R_reads' HO464.out).2.2 | (with_reducible refine Kd.C_alloc ?_ _) | (with_reducible refine Kd.C_drewN ?_ _) | (with_reducible refine Kd.C_drew ?_))); (case side2 => exact (Kd.R_reads' HO464.out).2.1); rintro e w168 ⟨rfl, hb⟩; replace HO_0 := Aside0.mk (Kd.V_below (by (with_reducible repeat (first | apply Kd.V_alloc | apply Kd.V_drewN | apply Kd.V_drew)); exact HO_0.out) hb); replace HO_7 := Aside0.mk (Kd.R_below (by (with_reducible repeat (first | apply Kd.R_alloc | apply Kd.R_drewN | apply Kd.R_drew)); exact HO_7.out) hb); replace HO_433000 := Aside0.mk (Kd.R_below (by (with_reducible repeat (first | apply Kd.R_alloc | apply Kd.R_drewN | apply Kd.R_drew)); exact HO_433000.out) hb); replace HO464 := Aside0.mk (Kd.R_below (by (with_reducible repeat (first | apply Kd.R_alloc | apply Kd.R_drewN | apply Kd.R_drew)); exact HO464.out) hb); replace BK432 := Aside0.mk (blk_below (g := gb432) (o := .cells #[.slice Ao9 t429.length co9] 25 (0, 0)) (by (with_reducible repeat (first | refine blk_drewN ?_ _ | refine blk_drew ?_ | refine blk_alloc ?_ _)); exact BK432.out) hb); replace HB := Aside0.mk (below_step (by repeat (first | (with_reducible first | exact HB.out | apply below_alloc | apply pw_below_drewN | apply below_drew1 | refine below_set ?_ GE432.out) | exact HB.out)) hb)) | (go_at_call 32; (with_reducible refine (numerarylaw02_wakes.calls k2  true _ A152.out).mono ?_); rintro e w169 ⟨rfl, hb⟩; replace HO_0 := Aside0.mk (Kd.V_below (by (with_reducible repeat (first | apply Kd.V_alloc | apply Kd.V_drewN | apply Kd.V_drew)); exact HO_0.out) hb); replace HO_7 := Aside0.mk (Kd.R_below (by (with_reducible repeat (first | apply Kd.R_alloc | apply Kd.R_drewN | apply Kd.R_drew)); exact HO_7.out) hb); replace HO_433000 := Aside0.mk (Kd.R_below (by (with_reducible repeat (first | apply Kd.R_alloc | apply Kd.R_drewN | apply Kd.R_drew)); exact HO_433000.out) hb); replace HO464 := Aside0.mk (Kd.R_below (by (with_reducible repeat (first | apply Kd.R_alloc | apply Kd.R_drewN | apply Kd.R_drew)); exact HO464.out) hb); replace BK432 := Aside0.mk (blk_below (g := gb432) (o := .cells #[.slice Ao9 t429.length co9] 25 (0, 0)) (by (with_reducible repeat (first | refine blk_drewN ?_ _ | refine blk_drew ?_ | refine blk_alloc ?_ _)); exact BK432.out) hb); replace HB := Aside0.mk (below_step (by repeat (first | (with_reducible first | exact HB.out | apply below_alloc | apply pw_below_drewN | apply below_drew1 | refine below_set ?_ GE432.out) | exact HB.out)) hb); have hcz170_0 : w169.cell? ⟨gb432, 0, none⟩ = some (.slice Ao9 t429.length co9) := (blk_cell BK432.out 0).trans rfl; have hfz170_0 := blk_frozen BK432.out 0) | (go_at_call 33; (with_reducible refine (nat_Nat_Bits.calls _ _ t429 t468 _ ?side1 ?side2 A154.out).mono ?_); (case side1 => repeat (first | exact (Kd.R_reads' HO_433000.out).2.2 | (with_reducible refine Kd.C_alloc ?_ _) | (with_reducible refine Kd.C_drewN ?_ _) | (with_reducible refine Kd.C_drew ?_))); (case side2 => exact (Kd.R_reads' HO_433000.out).2.1); rintro e w171 ⟨rfl, hb⟩; replace HO_0 := Aside0.mk (Kd.V_below (by (with_reducible repeat (first | apply Kd.V_alloc | apply Kd.V_drewN | apply Kd.V_drew)); exact HO_0.out) hb); replace HO_7 := Aside0.mk (Kd.R_below (by (with_reducible repeat (first | apply Kd.R_alloc | apply Kd.R_drewN | apply Kd.R_drew)); exact HO_7.out) hb); replace HO_433000 := Aside0.mk (Kd.R_below (by (with_reducible repeat (first | apply Kd.R_alloc | apply Kd.R_drewN | apply Kd.R_drew)); exact HO_433000.out) hb); replace HO464 := Aside0.mk (Kd.R_below (by (with_reducible repeat (first | apply Kd.R_alloc | apply Kd.R_drewN | apply Kd.R_drew)); exact HO464.out) hb); replace BK432 := Aside0.mk (blk_below (g := gb432) (o := .cells #[.slice Ao9 t429.length co9] 25 (0, 0)) (by (with_reducible repeat (first | refine blk_drewN ?_ _ | refine blk_drew ?_ | refine blk_alloc ?_ _)); exact BK432.out) hb); replace HB := Aside0.mk (below_step (by repeat (first | (with_reducible first | exact HB.out | apply below_alloc | apply pw_below_drewN | apply below_drew1 | refine below_set ?_ GE432.out) | exact HB.out)) hb)) | (go_at_call 26; (with_reducible refine (nat_Of.calls k2 a1 t469 _ A160.out).mono ?_); rintro e w172 ⟨v470, rfl, ho0, hb⟩; replace HO_0 := Aside0.mk (Kd.V_elder' (by (with_reducible repeat (first | apply Kd.V_alloc | apply Kd.V_drewN | apply Kd.V_drew)); exact HO_0.out) (Kd.R_base ho0) hb); have HO471 := Aside0.mk (Kd.R_lower (Kd.R_new' (Kd.R_new' (Kd.R_new' ho0 (Kd.R_lt (by (with_reducible repeat (first | apply Kd.R_alloc | apply Kd.R_drewN | apply Kd.R_drew)); exact HO_7.out))) (Kd.R_lt (by (with_reducible repeat (first | apply Kd.R_alloc | apply Kd.R_drewN | apply Kd.R_drew)); exact HO_433000.out))) (Kd.R_lt (by (with_reducible repeat (first | apply Kd.R_alloc | apply Kd.R_drewN | apply Kd.R_drew)); exact HO464.out))) (below_size (by repeat (first | (with_reducible first | exact HB.out | apply below_alloc | apply pw_below_drewN | apply below_drew1 | refine below_set ?_ GE432.out) | exact HB.out)))); replace HO_7 := Aside0.mk (Kd.R_elder' (by (with_reducible repeat (first | apply Kd.R_alloc | apply Kd.R_drewN | apply Kd.R_drew)); exact HO_7.out) (Kd.R_base ho0) hb); replace HO_433000 := Aside0.mk (Kd.R_elder' (by (with_reducible repeat (first | apply Kd.R_alloc | apply Kd.R_drewN | apply Kd.R_drew)); exact HO_433000.out) (Kd.R_base ho0) hb); replace HO464 := Aside0.mk (Kd.R_elder' (by (with_reducible repeat (first | apply Kd.R_alloc | apply Kd.R_drewN | apply Kd.R_drew)); exact HO464.out) (Kd.R_base ho0) hb); replace BK432 := Aside0.mk (blk_below (g := gb432) (o := .cells #[.slice Ao9 t429.length co9] 25 (0, 0)) (by (with_reducible repeat (first | refine blk_drewN ?_ _ | refine blk_drew ?_ | refine blk_alloc ?_ _)); exact BK432.out) hb); replace HB := Aside0.mk (below_step (by repeat (first | (with_reducible first | exact HB.out | apply below_alloc | apply pw_below_drewN | apply below_drew1 | refine below_set ?_ GE432.out) | exact HB.out)) hb); obtain ⟨Ao173, co173, eo173⟩ := Kd.R_slice HO471.out; subst eo173) | (go_at_call 35; (with_reducible refine (numerarylaw02_of.calls k2 _ _ t469 t472 _ ?side1 ?side2 A161.out).mono ?_); (case side1 => repeat (first | exact (Kd.R_reads' HO471.out).2.2 | (with_reducible refine Kd.C_alloc ?_ _) | (with_reducible refine Kd.C_drewN ?_ _) | (with_reducible refine Kd.C_drew ?_))); (case side2 => exact (Kd.R_reads' HO471.out).2.1); rintro e w174 ⟨v473, rfl, ho0, hb⟩; replace HO_0 := Aside0.mk (Kd.V_elder' (by (with_reducible repeat (first | apply Kd.V_alloc | apply Kd.V_drewN | apply Kd.V_drew)); exact HO_0.out) (Kd.R_base ho0) hb); replace HO_7 := Aside0.mk (Kd.R_below (by (with_reducible repeat (first | apply Kd.R_alloc | apply Kd.R_drewN | apply Kd.R_drew)); exact HO_7.out) hb); replace HO_433000 := Aside0.mk (Kd.R_below (by (with_reducible repeat (first | apply Kd.R_alloc | apply Kd.R_drewN | apply Kd.R_drew)); exact HO_433000.out) hb); replace HO464 := Aside0.mk (Kd.R_below (by (with_reducible repeat (first | apply Kd.R_alloc | apply Kd.R_drewN | apply Kd.R_drew)); exact HO464.out) hb); replace HO471 := Aside0.mk (Kd.R_below (by (with_reducible repeat (first | apply Kd.R_alloc | apply Kd.R_drewN | apply Kd.R_drew)); exact HO471.out) hb); have HO474 := Aside0.mk (Kd.R_lower ho0 (below_size (by repeat (first | (with_reducible first | exact HB.out | apply below_alloc | apply pw_below_drewN | apply below_drew1 | refine below_set ?_ GE432.out) | exact HB.out)))); replace BK432 := Aside0.mk (blk_below (g := gb432) (o := .cells #[.slice Ao9 t429.length co9] 25 (0, 0)) (by (with_reducible repeat (first | refine blk_drewN ?_ _ | refine blk_drew ?_ | refine blk_alloc ?_ _)); exact BK432.out) hb); replace HB := Aside0.mk (below_step (by repeat (first | (with_reducible first | exact HB.out | apply below_alloc | apply pw_below_drewN | apply below_drew1 | refine below_set ?_ GE432.out) | exact HB.out)) hb)) | (go_at_call 27; (with_reducible refine (numeraryref02_Of.calls k2 a1 t475 _ A162.out).mono ?_); rintro e w175 ⟨v476, rfl, ho0, hb⟩; replace HO_0 := Aside0.mk (Kd.V_elder' (by (with_reducible repeat (first | apply Kd.V_alloc | apply Kd.V_drewN | apply Kd.V_drew)); exact HO_0.out) (Kd.R_base ho0) hb); replace HO_7 := Aside0.mk (Kd.R_below (by (with_reducible repeat (first | apply Kd.R_alloc | apply Kd.R_drewN | apply Kd.R_drew)); exact HO_7.out) hb); replace HO_433000 := Aside0.mk (Kd.R_below (by (with_reducible repeat (first | apply Kd.R_alloc | apply Kd.R_drewN | apply Kd.R_drew)); exact HO_433000.out) hb); replace HO464 := Aside0.mk (Kd.R_below (by (with_reducible repeat (first | apply Kd.R_alloc | apply Kd.R_drewN | apply Kd.R_drew)); exact HO464.out) hb); replace HO471 := Aside0.mk (Kd.R_below (by (with_reducible repeat (first | apply Kd.R_alloc | apply Kd.R_drewN | apply Kd.R_drew)); exact HO471.out) hb); have HO477 := Aside0.mk (Kd.R_lower (Kd.R_new' ho0 (Kd.R_lt (by (with_reducible repeat (first | apply Kd.R_alloc | apply Kd.R_drewN | apply Kd.R_drew)); exact HO474.out))) (below_size (by repeat (first | (with_reducible first | exact HB.out | apply below_alloc | apply pw_below_drewN | apply below_drew1 | refine below_set ?_ GE432.out) | exact HB.out)))); replace HO474 := Aside0.mk (Kd.R_elder' (by (with_reducible repeat (first | apply Kd.R_alloc | apply Kd.R_drewN | apply Kd.R_drew)); exact HO474.out) (Kd.R_base ho0) hb); replace BK432 := Aside0.mk (blk_below (g := gb432) (o := .cells #[.slice Ao9 t429.length co9] 25 (0, 0)) (by (with_reducible repeat (first | refine blk_drewN ?_ _ | refine blk_drew ?_ | refine blk_alloc ?_ _)); exact BK432.out) hb); replace HB := Aside0.mk (below_step (by repeat (first | (with_reducible first | exact HB.out | apply below_alloc | apply pw_below_drewN | apply below_drew1 | refine below_set ?_ GE432.out) | exact HB.out)) hb); obtain ⟨Ao176, co176, eo176⟩ := Kd.R_slice HO474.out; subst eo176; obtain ⟨Ao177, co177, eo177⟩ := Kd.R_slice HO477.out; subst eo177) | (go_at_call 34; (with_reducible refine (numerarylaw02_same.calls k2 _ _ t472 _ _ t475 t478 _ ?side1 ?side2 ?side3 ?side4 A163.out).mono ?_); (case side1 => repeat (first | exact (Kd.R_reads' HO474.out).2.2 | (with_reducible refine Kd.C_alloc ?_ _) | (with_reducible refine Kd.C_drewN ?_ _) | (with_reducible refine Kd.C_drew ?_))); (case side2 => exact (Kd.R_reads' HO474.out).2.1); (case side3 => repeat (first | exact (Kd.R_reads' HO477.out).2.2 | (with_reducible refine Kd.C_alloc ?_ _) | (with_reducible refine Kd.C_drewN ?_ _) | (with_reducible refine Kd.C_drew ?_))); (case side4 => exact (Kd.R_reads' HO477.out).2.1); rintro e w' ⟨rfl, ⟨nd, rfl⟩⟩; (try first | exact ⟨rfl, _, World.drewN_drewN _ _ _⟩ | exact ⟨rfl, _, Eq.trans (World.drewN_drewN _ _ _) (congrArg (World.drewN _) (Nat.add_assoc _ _ _))⟩)))
          repeat (go_quiet (first | (go_at_call 29; (fail_if_success have z_ := w165); (with_reducible refine (nat_Nat_Small.calls k2 _ _ t429 t460 t461 _ ?side1 ?side2 A149.out).mono ?_); (case side1 => repeat (first | exact (Kd.R_reads' HO_433000.out).2.2 | (with_reducible refine Kd.C_alloc ?_ _) | (with_reducible refine Kd.C_drewN ?_ _) | (with_reducible refine Kd.C_drew ?_))); (case side2 => exact (Kd.R_reads' HO_433000.out).2.1); rintro e w165 ⟨rfl, hb⟩; replace HO_0 := Aside0.mk (Kd.V_below (by (with_reducible repeat (first | apply Kd.V_alloc | apply Kd.V_drewN | apply Kd.V_drew)); exact HO_0.out) hb); replace HO_7 := Aside0.mk (Kd.R_below (by (with_reducible repeat (first | apply Kd.R_alloc | apply Kd.R_drewN | apply Kd.R_drew)); exact HO_7.out) hb); replace HO_433000 := Aside0.mk (Kd.R_below (by (with_reducible repeat (first | apply Kd.R_alloc | apply Kd.R_drewN | apply Kd.R_drew)); exact HO_433000.out) hb); replace BK432 := Aside0.mk (blk_below (g := gb432) (o := .cells #[.slice Ao9 t429.length co9] 25 (0, 0)) (by (with_reducible repeat (first | refine blk_drewN ?_ _ | refine blk_drew ?_ | refine blk_alloc ?_ _)); exact BK432.out) hb); replace HB := Aside0.mk (below_step (by repeat (first | (with_reducible first | exact HB.out | apply below_alloc | apply pw_below_drewN | apply below_drew1 | refine below_set ?_ GE432.out) | exact HB.out)) hb)) | (go_at_call 26; (fail_if_success have z_ := w166); (with_reducible refine (nat_Of.calls k2 a1 t462 _ A150.out).mono ?_); rintro e w166 ⟨v463, rfl, ho0, hb⟩; replace HO_0 := Aside0.mk (Kd.V_elder' (by (with_reducible repeat (first | apply Kd.V_alloc | apply Kd.V_drewN | apply Kd.V_drew)); exact HO_0.out) (Kd.R_base ho0) hb); have HO464 := Aside0.mk (Kd.R_lower (Kd.R_new' (Kd.R_new' ho0 (Kd.R_lt (by (with_reducible repeat (first | apply Kd.R_alloc | apply Kd.R_drewN | apply Kd.R_drew)); exact HO_7.out))) (Kd.R_lt (by (with_reducible repeat (first | apply Kd.R_alloc | apply Kd.R_drewN | apply Kd.R_drew)); exact HO_433000.out))) (below_size (by repeat (first | (with_reducible first | exact HB.out | apply below_alloc | apply pw_below_drewN | apply below_drew1 | refine below_set ?_ GE432.out) | exact HB.out)))); replace HO_7 := Aside0.mk (Kd.R_elder' (by (with_reducible repeat (first | apply Kd.R_alloc | apply Kd.R_drewN | apply Kd.R_drew)); exact HO_7.out) (Kd.R_base ho0) hb); replace HO_433000 := Aside0.mk (Kd.R_elder' (by (with_reducible repeat (first | apply Kd.R_alloc | apply Kd.R_drewN | apply Kd.R_drew)); exact HO_433000.out) (Kd.R_base ho0) hb); replace BK432 := Aside0.mk (blk_below (g := gb432) (o := .cells #[.slice Ao9 t429.length co9] 25 (0, 0)) (by (with_reducible repeat (first | refine blk_drewN ?_ _ | refine blk_drew ?_ | refine blk_alloc ?_ _)); exact BK432.out) hb); replace HB := Aside0.mk (below_step (by repeat (first | (with_reducible first | exact HB.out | apply below_alloc | apply pw_below_drewN | apply below_drew1 | refine below_set ?_ GE432.out) | exact HB.out)) hb); obtain ⟨Ao167, co167, eo167⟩ := Kd.R_slice HO464.out; subst eo167) | (go_at_call 29; (fail_if_success have z_ := w168); (with_reducible refine (nat_Nat_Small.calls k2 _ _ t462 t465 true _ ?side1 ?side2 A151.out).mono ?_); (case side1 => repeat (first | exact (Kd.R_reads' HO464.out).2.2 | (with_reducible refine Kd.C_alloc ?_ _) | (with_reducible refine Kd.C_drewN ?_ _) | (with_reducible refine Kd.C_drew ?_))); (case side2 => exact (Kd.R_reads' HO464.out).2.1); rintro e w168 ⟨rfl, hb⟩; replace HO_0 := Aside0.mk (Kd.V_below (by (with_reducible repeat (first | apply Kd.V_alloc | apply Kd.V_drewN | apply Kd.V_drew)); exact HO_0.out) hb); replace HO_7 := Aside0.mk (Kd.R_below (by (with_reducible repeat (first | apply Kd.R_alloc | apply Kd.R_drewN | apply Kd.R_drew)); exact HO_7.out) hb); replace HO_433000 := Aside0.mk (Kd.R_below (by (with_reducible repeat (first | apply Kd.R_alloc | apply Kd.R_drewN | apply Kd.R_drew)); exact HO_433000.out) hb); replace HO464 := Aside0.mk (Kd.R_below (by (with_reducible repeat (first | apply Kd.R_alloc | apply Kd.R_drewN | apply Kd.R_drew)); exact HO464.out) hb); replace BK432 := Aside0.mk (blk_below (g := gb432) (o := .cells #[.slice Ao9 t429.length co9] 25 (0, 0)) (by (with_reducible repeat (first | refine blk_drewN ?_ _ | refine blk_drew ?_ | refine blk_alloc ?_ _)); exact BK432.out) hb); replace HB := Aside0.mk (below_step (by repeat (first | (with_reducible first | exact HB.out | apply below_alloc | apply pw_below_drewN | apply below_drew1 | refine below_set ?_ GE432.out) | exact HB.out)) hb)) | (go_at_call 32; (fail_if_success have z_ := w169); (with_reducible refine (numerarylaw02_wakes.calls k2  true _ A152.out).mono ?_); rintro e w169 ⟨rfl, hb⟩; replace HO_0 := Aside0.mk (Kd.V_below (by (with_reducible repeat (first | apply Kd.V_alloc | apply Kd.V_drewN | apply Kd.V_drew)); exact HO_0.out) hb); replace HO_7 := Aside0.mk (Kd.R_below (by (with_reducible repeat (first | apply Kd.R_alloc | apply Kd.R_drewN | apply Kd.R_drew)); exact HO_7.out) hb); replace HO_433000 := Aside0.mk (Kd.R_below (by (with_reducible repeat (first | apply Kd.R_alloc | apply Kd.R_drewN | apply Kd.R_drew)); exact HO_433000.out) hb); replace HO464 := Aside0.mk (Kd.R_below (by (with_reducible repeat (first | apply Kd.R_alloc | apply Kd.R_drewN | apply Kd.R_drew)); exact HO464.out) hb); replace BK432 := Aside0.mk (blk_below (g := gb432) (o := .cells #[.slice Ao9 t429.length co9] 25 (0, 0)) (by (with_reducible repeat (first | refine blk_drewN ?_ _ | refine blk_drew ?_ | refine blk_alloc ?_ _)); exact BK432.out) hb); replace HB := Aside0.mk (below_step (by repeat (first | (with_reducible first | exact HB.out | apply below_alloc | apply pw_below_drewN | apply below_drew1 | refine below_set ?_ GE432.out) | exact HB.out)) hb); have hcz170_0 : w169.cell? ⟨gb432, 0, none⟩ = some (.slice Ao9 t429.length co9) := (blk_cell BK432.out 0).trans rfl; have hfz170_0 := blk_frozen BK432.out 0) | (go_at_call 33; (fail_if_success have z_ := w171); (with_reducible refine (nat_Nat_Bits.calls _ _ t429 t468 _ ?side1 ?side2 A154.out).mono ?_); (case side1 => repeat (first | exact (Kd.R_reads' HO_433000.out).2.2 | (with_reducible refine Kd.C_alloc ?_ _) | (with_reducible refine Kd.C_drewN ?_ _) | (with_reducible refine Kd.C_drew ?_))); (case side2 => exact (Kd.R_reads' HO_433000.out).2.1); rintro e w171 ⟨rfl, hb⟩; replace HO_0 := Aside0.mk (Kd.V_below (by (with_reducible repeat (first | apply Kd.V_alloc | apply Kd.V_drewN | apply Kd.V_drew)); exact HO_0.out) hb); replace HO_7 := Aside0.mk (Kd.R_below (by (with_reducible repeat (first | apply Kd.R_alloc | apply Kd.R_drewN | apply Kd.R_drew)); exact HO_7.out) hb); replace HO_433000 := Aside0.mk (Kd.R_below (by (with_reducible repeat (first | apply Kd.R_alloc | apply Kd.R_drewN | apply Kd.R_drew)); exact HO_433000.out) hb); replace HO464 := Aside0.mk (Kd.R_below (by (with_reducible repeat (first | apply Kd.R_alloc | apply Kd.R_drewN | apply Kd.R_drew)); exact HO464.out) hb); replace BK432 := Aside0.mk (blk_below (g := gb432) (o := .cells #[.slice Ao9 t429.length co9] 25 (0, 0)) (by (with_reducible repeat (first | refine blk_drewN ?_ _ | refine blk_drew ?_ | refine blk_alloc ?_ _)); exact BK432.out) hb); replace HB := Aside0.mk (below_step (by repeat (first | (with_reducible first | exact HB.out | apply below_alloc | apply pw_below_drewN | apply below_drew1 | refine below_set ?_ GE432.out) | exact HB.out)) hb)) | (go_at_call 26; (fail_if_success have z_ := w172); (with_reducible refine (nat_Of.calls k2 a1 t469 _ A160.out).mono ?_); rintro e w172 ⟨v470, rfl, ho0, hb⟩; replace HO_0 := Aside0.mk (Kd.V_elder' (by (with_reducible repeat (first | apply Kd.V_alloc | apply Kd.V_drewN | apply Kd.V_drew)); exact HO_0.out) (Kd.R_base ho0) hb); have HO471 := Aside0.mk (Kd.R_lower (Kd.R_new' (Kd.R_new' (Kd.R_new' ho0 (Kd.R_lt (by (with_reducible repeat (first | apply Kd.R_alloc | apply Kd.R_drewN | apply Kd.R_drew)); exact HO_7.out))) (Kd.R_lt (by (with_reducible repeat (first | apply Kd.R_alloc | apply Kd.R_drewN | apply Kd.R_drew)); exact HO_433000.out))) (Kd.R_lt (by (with_reducible repeat (first | apply Kd.R_alloc | apply Kd.R_drewN | apply Kd.R_drew)); exact HO464.out))) (below_size (by repeat (first | (with_reducible first | exact HB.out | apply below_alloc | apply pw_below_drewN | apply below_drew1 | refine below_set ?_ GE432.out) | exact HB.out)))); replace HO_7 := Aside0.mk (Kd.R_elder' (by (with_reducible repeat (first | apply Kd.R_alloc | apply Kd.R_drewN | apply Kd.R_drew)); exact HO_7.out) (Kd.R_base ho0) hb); replace HO_433000 := Aside0.mk (Kd.R_elder' (by (with_reducible repeat (first | apply Kd.R_alloc | apply Kd.R_drewN | apply Kd.R_drew)); exact HO_433000.out) (Kd.R_base ho0) hb); replace HO464 := Aside0.mk (Kd.R_elder' (by (with_reducible repeat (first | apply Kd.R_alloc | apply Kd.R_drewN | apply Kd.R_drew)); exact HO464.out) (Kd.R_base ho0) hb); replace BK432 := Aside0.mk (blk_below (g := gb432) (o := .cells #[.slice Ao9 t429.length co9] 25 (0, 0)) (by (with_reducible repeat (first | refine blk_drewN ?_ _ | refine blk_drew ?_ | refine blk_alloc ?_ _)); exact BK432.out) hb); replace HB := Aside0.mk (below_step (by repeat (first | (with_reducible first | exact HB.out | apply below_alloc | apply pw_below_drewN | apply below_drew1 | refine below_set ?_ GE432.out) | exact HB.out)) hb); obtain ⟨Ao173, co173, eo173⟩ := Kd.R_slice HO471.out; subst eo173) | (go_at_call 35; (fail_if_success have z_ := w174); (with_reducible refine (numerarylaw02_of.calls k2 _ _ t469 t472 _ ?side1 ?side2 A161.out).mono ?_); (case side1 => repeat (first | exact (Kd.R_reads' HO471.out).2.2 | (with_reducible refine Kd.C_alloc ?_ _) | (with_reducible refine Kd.C_drewN ?_ _) | (with_reducible refine Kd.C_drew ?_))); (case side2 => exact (Kd.R_reads' HO471.out).2.1); rintro e w174 ⟨v473, rfl, ho0, hb⟩; replace HO_0 := Aside0.mk (Kd.V_elder' (by (with_reducible repeat (first | apply Kd.V_alloc | apply Kd.V_drewN | apply Kd.V_drew)); exact HO_0.out) (Kd.R_base ho0) hb); replace HO_7 := Aside0.mk (Kd.R_below (by (with_reducible repeat (first | apply Kd.R_alloc | apply Kd.R_drewN | apply Kd.R_drew)); exact HO_7.out) hb); replace HO_433000 := Aside0.mk (Kd.R_below (by (with_reducible repeat (first | apply Kd.R_alloc | apply Kd.R_drewN | apply Kd.R_drew)); exact HO_433000.out) hb); replace HO464 := Aside0.mk (Kd.R_below (by (with_reducible repeat (first | apply Kd.R_alloc | apply Kd.R_drewN | apply Kd.R_drew)); exact HO464.out) hb); replace HO471 := Aside0.mk (Kd.R_below (by (with_reducible repeat (first | apply Kd.R_alloc | apply Kd.R_drewN | apply Kd.R_drew)); exact HO471.out) hb); have HO474 := Aside0.mk (Kd.R_lower ho0 (below_size (by repeat (first | (with_reducible first | exact HB.out | apply below_alloc | apply pw_below_drewN | apply below_drew1 | refine below_set ?_ GE432.out) | exact HB.out)))); replace BK432 := Aside0.mk (blk_below (g := gb432) (o := .cells #[.slice Ao9 t429.length co9] 25 (0, 0)) (by (with_reducible repeat (first | refine blk_drewN ?_ _ | refine blk_drew ?_ | refine blk_alloc ?_ _)); exact BK432.out) hb); replace HB := Aside0.mk (below_step (by repeat (first | (with_reducible first | exact HB.out | apply below_alloc | apply pw_below_drewN | apply below_drew1 | refine below_set ?_ GE432.out) | exact HB.out)) hb)) | (go_at_call 27; (fail_if_success have z_ := w175); (with_reducible refine (numeraryref02_Of.calls k2 a1 t475 _ A162.out).mono ?_); rintro e w175 ⟨v476, rfl, ho0, hb⟩; replace HO_0 := Aside0.mk (Kd.V_elder' (by (with_reducible repeat (first | apply Kd.V_alloc | apply Kd.V_drewN | apply Kd.V_drew)); exact HO_0.out) (Kd.R_base ho0) hb); replace HO_7 := Aside0.mk (Kd.R_below (by (with_reducible repeat (first | apply Kd.R_alloc | apply Kd.R_drewN | apply Kd.R_drew)); exact HO_7.out) hb); replace HO_433000 := Aside0.mk (Kd.R_below (by (with_reducible repeat (first | apply Kd.R_alloc | apply Kd.R_drewN | apply Kd.R_drew)); exact HO_433000.out) hb); replace HO464 := Aside0.mk (Kd.R_below (by (with_reducible repeat (first | apply Kd.R_alloc | apply Kd.R_drewN | apply Kd.R_drew)); exact HO464.out) hb); replace HO471 := Aside0.mk (Kd.R_below (by (with_reducible repeat (first | apply Kd.R_alloc | apply Kd.R_drewN | apply Kd.R_drew)); exact HO471.out) hb); have HO477 := Aside0.mk (Kd.R_lower (Kd.R_new' ho0 (Kd.R_lt (by (with_reducible repeat (first | apply Kd.R_alloc | apply Kd.R_drewN | apply Kd.R_drew)); exact HO474.out))) (below_size (by repeat (first | (with_reducible first | exact HB.out | apply below_alloc | apply pw_below_drewN | apply below_drew1 | refine below_set ?_ GE432.out) | exact HB.out)))); replace HO474 := Aside0.mk (Kd.R_elder' (by (with_reducible repeat (first | apply Kd.R_alloc | apply Kd.R_drewN | apply Kd.R_drew)); exact HO474.out) (Kd.R_base ho0) hb); replace BK432 := Aside0.mk (blk_below (g := gb432) (o := .cells #[.slice Ao9 t429.length co9] 25 (0, 0)) (by (with_reducible repeat (first | refine blk_drewN ?_ _ | refine blk_drew ?_ | refine blk_alloc ?_ _)); exact BK432.out) hb); replace HB := Aside0.mk (below_step (by repeat (first | (with_reducible first | exact HB.out | apply below_alloc | apply pw_below_drewN | apply below_drew1 | refine below_set ?_ GE432.out) | exact HB.out)) hb); obtain ⟨Ao176, co176, eo176⟩ := Kd.R_slice HO474.out; subst eo176; obtain ⟨Ao177, co177, eo177⟩ := Kd.R_slice HO477.out; subst eo177) | (go_at_call 34; (with_reducible refine (numerarylaw02_same.calls k2 _ _ t472 _ _ t475 t478 _ ?side1 ?side2 ?side3 ?side4 A163.out).mono ?_); (case side1 => repeat (first | exact (Kd.R_reads' HO474.out).2.2 | (with_reducible refine Kd.C_alloc ?_ _) | (with_reducible refine Kd.C_drewN ?_ _) | (with_reducible refine Kd.C_drew ?_))); (case side2 => exact (Kd.R_reads' HO474.out).2.1); (case side3 => repeat (first | exact (Kd.R_reads' HO477.out).2.2 | (with_reducible refine Kd.C_alloc ?_ _) | (with_reducible refine Kd.C_drewN ?_ _) | (with_reducible refine Kd.C_drew ?_))); (case side4 => exact (Kd.R_reads' HO477.out).2.1); rintro e w' ⟨rfl, ⟨nd, rfl⟩⟩; (try first | exact ⟨rfl, _, World.drewN_drewN _ _ _⟩ | exact ⟨rfl, _, Eq.trans (World.drewN_drewN _ _ _) (congrArg (World.drewN _) (Nat.add_assoc _ _ _))⟩))); try go_wp2_with (first | (go_at_call 29; (fail_if_success have z_ := w165); (with_reducible refine (nat_Nat_Small.calls k2 _ _ t429 t460 t461 _ ?side1 ?side2 A149.out).mono ?_); (case side1 => repeat (first | exact (Kd.R_reads' HO_433000.out).2.2 | (with_reducible refine Kd.C_alloc ?_ _) | (with_reducible refine Kd.C_drewN ?_ _) | (with_reducible refine Kd.C_drew ?_))); (case side2 => exact (Kd.R_reads' HO_433000.out).2.1); rintro e w165 ⟨rfl, hb⟩; replace HO_0 := Aside0.mk (Kd.V_below (by (with_reducible repeat (first | apply Kd.V_alloc | apply Kd.V_drewN | apply Kd.V_drew)); exact HO_0.out) hb); replace HO_7 := Aside0.mk (Kd.R_below (by (with_reducible repeat (first | apply Kd.R_alloc | apply Kd.R_drewN | apply Kd.R_drew)); exact HO_7.out) hb); replace HO_433000 := Aside0.mk (Kd.R_below (by (with_reducible repeat (first | apply Kd.R_alloc | apply Kd.R_drewN | apply Kd.R_drew)); exact HO_433000.out) hb); replace BK432 := Aside0.mk (blk_below (g := gb432) (o := .cells #[.slice Ao9 t429.length co9] 25 (0, 0)) (by (with_reducible repeat (first | refine blk_drewN ?_ _ | refine blk_drew ?_ | refine blk_alloc ?_ _)); exact BK432.out) hb); replace HB := Aside0.mk (below_step (by repeat (first | (with_reducible first | exact HB.out | apply below_alloc | apply pw_below_drewN | apply below_drew1 | refine below_set ?_ GE432.out) | exact HB.out)) hb)) | (go_at_call 26; (fail_if_success have z_ := w166); (with_reducible refine (nat_Of.calls k2 a1 t462 _ A150.out).mono ?_); rintro e w166 ⟨v463, rfl, ho0, hb⟩; replace HO_0 := Aside0.mk (Kd.V_elder' (by (with_reducible repeat (first | apply Kd.V_alloc | apply Kd.V_drewN | apply Kd.V_drew)); exact HO_0.out) (Kd.R_base ho0) hb); have HO464 := Aside0.mk (Kd.R_lower (Kd.R_new' (Kd.R_new' ho0 (Kd.R_lt (by (with_reducible repeat (first | apply Kd.R_alloc | apply Kd.R_drewN | apply Kd.R_drew)); exact HO_7.out))) (Kd.R_lt (by (with_reducible repeat (first | apply Kd.R_alloc | apply Kd.R_drewN | apply Kd.R_drew)); exact HO_433000.out))) (below_size (by repeat (first | (with_reducible first | exact HB.out | apply below_alloc | apply pw_below_drewN | apply below_drew1 | refine below_set ?_ GE432.out) | exact HB.out)))); replace HO_7 := Aside0.mk (Kd.R_elder' (by (with_reducible repeat (first | apply Kd.R_alloc | apply Kd.R_drewN | apply Kd.R_drew)); exact HO_7.out) (Kd.R_base ho0) hb); replace HO_433000 := Aside0.mk (Kd.R_elder' (by (with_reducible repeat (first | apply Kd.R_alloc | apply Kd.R_drewN | apply Kd.R_drew)); exact HO_433000.out) (Kd.R_base ho0) hb); replace BK432 := Aside0.mk (blk_below (g := gb432) (o := .cells #[.slice Ao9 t429.length co9] 25 (0, 0)) (by (with_reducible repeat (first | refine blk_drewN ?_ _ | refine blk_drew ?_ | refine blk_alloc ?_ _)); exact BK432.out) hb); replace HB := Aside0.mk (below_step (by repeat (first | (with_reducible first | exact HB.out | apply below_alloc | apply pw_below_drewN | apply below_drew1 | refine below_set ?_ GE432.out) | exact HB.out)) hb); obtain ⟨Ao167, co167, eo167⟩ := Kd.R_slice HO464.out; subst eo167) | (go_at_call 29; (with_reducible refine (nat_Nat_Small.calls k2 _ _ t462 t465 true _ ?side1 ?side2 A151.out).mono ?_); (case side1 => repeat (first | exact (Kd.R_reads' HO464.out).2.2 | (with_reducible refine Kd.C_alloc ?_ _) | (with_reducible refine Kd.C_drewN ?_ _) | (with_reducible refine Kd.C_drew ?_))); (case side2 => exact (Kd.R_reads' HO464.out).2.1); rintro e w168 ⟨rfl, hb⟩; replace HO_0 := Aside0.mk (Kd.V_below (by (with_reducible repeat (first | apply Kd.V_alloc | apply Kd.V_drewN | apply Kd.V_drew)); exact HO_0.out) hb); replace HO_7 := Aside0.mk (Kd.R_below (by (with_reducible repeat (first | apply Kd.R_alloc | apply Kd.R_drewN | apply Kd.R_drew)); exact HO_7.out) hb); replace HO_433000 := Aside0.mk (Kd.R_below (by (with_reducible repeat (first | apply Kd.R_alloc | apply Kd.R_drewN | apply Kd.R_drew)); exact HO_433000.out) hb); replace HO464 := Aside0.mk (Kd.R_below (by (with_reducible repeat (first | apply Kd.R_alloc | apply Kd.R_drewN | apply Kd.R_drew)); exact HO464.out) hb); replace BK432 := Aside0.mk (blk_below (g := gb432) (o := .cells #[.slice Ao9 t429.length co9] 25 (0, 0)) (by (with_reducible repeat (first | refine blk_drewN ?_ _ | refine blk_drew ?_ | refine blk_alloc ?_ _)); exact BK432.out) hb); replace HB := Aside0.mk (below_step (by repeat (first | (with_reducible first | exact HB.out | apply below_alloc | apply pw_below_drewN | apply below_drew1 | refine below_set ?_ GE432.out) | exact HB.out)) hb)) | (go_at_call 32; (with_reducible refine (numerarylaw02_wakes.calls k2  true _ A152.out).mono ?_); rintro e w169 ⟨rfl, hb⟩; replace HO_0 := Aside0.mk (Kd.V_below (by (with_reducible repeat (first | apply Kd.V_alloc | apply Kd.V_drewN | apply Kd.V_drew)); exact HO_0.out) hb); replace HO_7 := Aside0.mk (Kd.R_below (by (with_reducible repeat (first | apply Kd.R_alloc | apply Kd.R_drewN | apply Kd.R_drew)); exact HO_7.out) hb); replace HO_433000 := Aside0.mk (Kd.R_below (by (with_reducible repeat (first | apply Kd.R_alloc | apply Kd.R_drewN | apply Kd.R_drew)); exact HO_433000.out) hb); replace HO464 := Aside0.mk (Kd.R_below (by (with_reducible repeat (first | apply Kd.R_alloc | apply Kd.R_drewN | apply Kd.R_drew)); exact HO464.out) hb); replace BK432 := Aside0.mk (blk_below (g := gb432) (o := .cells #[.slice Ao9 t429.length co9] 25 (0, 0)) (by (with_reducible repeat (first | refine blk_drewN ?_ _ | refine blk_drew ?_ | refine blk_alloc ?_ _)); exact BK432.out) hb); replace HB := Aside0.mk (below_step (by repeat (first | (with_reducible first | exact HB.out | apply below_alloc | apply pw_below_drewN | apply below_drew1 | refine below_set ?_ GE432.out) | exact HB.out)) hb); have hcz170_0 : w169.cell? ⟨gb432, 0, none⟩ = some (.slice Ao9 t429.length co9) := (blk_cell BK432.out 0).trans rfl; have hfz170_0 := blk_frozen BK432.out 0) | (go_at_call 33; (with_reducible refine (nat_Nat_Bits.calls _ _ t429 t468 _ ?side1 ?side2 A154.out).mono ?_); (case side1 => repeat (first | exact (Kd.R_reads' HO_433000.out).2.2 | (with_reducible refine Kd.C_alloc ?_ _) | (with_reducible refine Kd.C_drewN ?_ _) | (with_reducible refine Kd.C_drew ?_))); (case side2 => exact (Kd.R_reads' HO_433000.out).2.1); rintro e w171 ⟨rfl, hb⟩; replace HO_0 := Aside0.mk (Kd.V_below (by (with_reducible repeat (first | apply Kd.V_alloc | apply Kd.V_drewN | apply Kd.V_drew)); exact HO_0.out) hb); replace HO_7 := Aside0.mk (Kd.R_below (by (with_reducible repeat (first | apply Kd.R_alloc | apply Kd.R_drewN | apply Kd.R_drew)); exact HO_7.out) hb); replace HO_433000 := Aside0.mk (Kd.R_below (by (with_reducible repeat (first | apply Kd.R_alloc | apply Kd.R_drewN | apply Kd.R_drew)); exact HO_433000.out) hb); replace HO464 := Aside0.mk (Kd.R_below (by (with_reducible repeat (first | apply Kd.R_alloc | apply Kd.R_drewN | apply Kd.R_drew)); exact HO464.out) hb); replace BK432 := Aside0.mk (blk_below (g := gb432) (o := .cells #[.slice Ao9 t429.length co9] 25 (0, 0)) (by (with_reducible repeat (first | refine blk_drewN ?_ _ | refine blk_drew ?_ | refine blk_alloc ?_ _)); exact BK432.out) hb); replace HB := Aside0.mk (below_step (by repeat (first | (with_reducible first | exact HB.out | apply below_alloc | apply pw_below_drewN | apply below_drew1 | refine below_set ?_ GE432.out) | exact HB.out)) hb)) | (go_at_call 26; (with_reducible refine (nat_Of.calls k2 a1 t469 _ A160.out).mono ?_); rintro e w172 ⟨v470, rfl, ho0, hb⟩; replace HO_0 := Aside0.mk (Kd.V_elder' (by (with_reducible repeat (first | apply Kd.V_alloc | apply Kd.V_drewN | apply Kd.V_drew)); exact HO_0.out) (Kd.R_base ho0) hb); have HO471 := Aside0.mk (Kd.R_lower (Kd.R_new' (Kd.R_new' (Kd.R_new' ho0 (Kd.R_lt (by (with_reducible repeat (first | apply Kd.R_alloc | apply Kd.R_drewN | apply Kd.R_drew)); exact HO_7.out))) (Kd.R_lt (by (with_reducible repeat (first | apply Kd.R_alloc | apply Kd.R_drewN | apply Kd.R_drew)); exact HO_433000.out))) (Kd.R_lt (by (with_reducible repeat (first | apply Kd.R_alloc | apply Kd.R_drewN | apply Kd.R_drew)); exact HO464.out))) (below_size (by repeat (first | (with_reducible first | exact HB.out | apply below_alloc | apply pw_below_drewN | apply below_drew1 | refine below_set ?_ GE432.out) | exact HB.out)))); replace HO_7 := Aside0.mk (Kd.R_elder' (by (with_reducible repeat (first | apply Kd.R_alloc | apply Kd.R_drewN | apply Kd.R_drew)); exact HO_7.out) (Kd.R_base ho0) hb); replace HO_433000 := Aside0.mk (Kd.R_elder' (by (with_reducible repeat (first | apply Kd.R_alloc | apply Kd.R_drewN | apply Kd.R_drew)); exact HO_433000.out) (Kd.R_base ho0) hb); replace HO464 := Aside0.mk (Kd.R_elder' (by (with_reducible repeat (first | apply Kd.R_alloc | apply Kd.R_drewN | apply Kd.R_drew)); exact HO464.out) (Kd.R_base ho0) hb); replace BK432 := Aside0.mk (blk_below (g := gb432) (o := .cells #[.slice Ao9 t429.length co9] 25 (0, 0)) (by (with_reducible repeat (first | refine blk_drewN ?_ _ | refine blk_drew ?_ | refine blk_alloc ?_ _)); exact BK432.out) hb); replace HB := Aside0.mk (below_step (by repeat (first | (with_reducible first | exact HB.out | apply below_alloc | apply pw_below_drewN | apply below_drew1 | refine below_set ?_ GE432.out) | exact HB.out)) hb); obtain ⟨Ao173, co173, eo173⟩ := Kd.R_slice HO471.out; subst eo173) | (go_at_call 35; (with_reducible refine (numerarylaw02_of.calls k2 _ _ t469 t472 _ ?side1 ?side2 A161.out).mono ?_); (case side1 => repeat (first | exact (Kd.R_reads' HO471.out).2.2 | (with_reducible refine Kd.C_alloc ?_ _) | (with_reducible refine Kd.C_drewN ?_ _) | (with_reducible refine Kd.C_drew ?_))); (case side2 => exact (Kd.R_reads' HO471.out).2.1); rintro e w174 ⟨v473, rfl, ho0, hb⟩; replace HO_0 := Aside0.mk (Kd.V_elder' (by (with_reducible repeat (first | apply Kd.V_alloc | apply Kd.V_drewN | apply Kd.V_drew)); exact HO_0.out) (Kd.R_base ho0) hb); replace HO_7 := Aside0.mk (Kd.R_below (by (with_reducible repeat (first | apply Kd.R_alloc | apply Kd.R_drewN | apply Kd.R_drew)); exact HO_7.out) hb); replace HO_433000 := Aside0.mk (Kd.R_below (by (with_reducible repeat (first | apply Kd.R_alloc | apply Kd.R_drewN | apply Kd.R_drew)); exact HO_433000.out) hb); replace HO464 := Aside0.mk (Kd.R_below (by (with_reducible repeat (first | apply Kd.R_alloc | apply Kd.R_drewN | apply Kd.R_drew)); exact HO464.out) hb); replace HO471 := Aside0.mk (Kd.R_below (by (with_reducible repeat (first | apply Kd.R_alloc | apply Kd.R_drewN | apply Kd.R_drew)); exact HO471.out) hb); have HO474 := Aside0.mk (Kd.R_lower ho0 (below_size (by repeat (first | (with_reducible first | exact HB.out | apply below_alloc | apply pw_below_drewN | apply below_drew1 | refine below_set ?_ GE432.out) | exact HB.out)))); replace BK432 := Aside0.mk (blk_below (g := gb432) (o := .cells #[.slice Ao9 t429.length co9] 25 (0, 0)) (by (with_reducible repeat (first | refine blk_drewN ?_ _ | refine blk_drew ?_ | refine blk_alloc ?_ _)); exact BK432.out) hb); replace HB := Aside0.mk (below_step (by repeat (first | (with_reducible first | exact HB.out | apply below_alloc | apply pw_below_drewN | apply below_drew1 | refine below_set ?_ GE432.out) | exact HB.out)) hb)) | (go_at_call 27; (with_reducible refine (numeraryref02_Of.calls k2 a1 t475 _ A162.out).mono ?_); rintro e w175 ⟨v476, rfl, ho0, hb⟩; replace HO_0 := Aside0.mk (Kd.V_elder' (by (with_reducible repeat (first | apply Kd.V_alloc | apply Kd.V_drewN | apply Kd.V_drew)); exact HO_0.out) (Kd.R_base ho0) hb); replace HO_7 := Aside0.mk (Kd.R_below (by (with_reducible repeat (first | apply Kd.R_alloc | apply Kd.R_drewN | apply Kd.R_drew)); exact HO_7.out) hb); replace HO_433000 := Aside0.mk (Kd.R_below (by (with_reducible repeat (first | apply Kd.R_alloc | apply Kd.R_drewN | apply Kd.R_drew)); exact HO_433000.out) hb); replace HO464 := Aside0.mk (Kd.R_below (by (with_reducible repeat (first | apply Kd.R_alloc | apply Kd.R_drewN | apply Kd.R_drew)); exact HO464.out) hb); replace HO471 := Aside0.mk (Kd.R_below (by (with_reducible repeat (first | apply Kd.R_alloc | apply Kd.R_drewN | apply Kd.R_drew)); exact HO471.out) hb); have HO477 := Aside0.mk (Kd.R_lower (Kd.R_new' ho0 (Kd.R_lt (by (with_reducible repeat (first | apply Kd.R_alloc | apply Kd.R_drewN | apply Kd.R_drew)); exact HO474.out))) (below_size (by repeat (first | (with_reducible first | exact HB.out | apply below_alloc | apply pw_below_drewN | apply below_drew1 | refine below_set ?_ GE432.out) | exact HB.out)))); replace HO474 := Aside0.mk (Kd.R_elder' (by (with_reducible repeat (first | apply Kd.R_alloc | apply Kd.R_drewN | apply Kd.R_drew)); exact HO474.out) (Kd.R_base ho0) hb); replace BK432 := Aside0.mk (blk_below (g := gb432) (o := .cells #[.slice Ao9 t429.length co9] 25 (0, 0)) (by (with_reducible repeat (first | refine blk_drewN ?_ _ | refine blk_drew ?_ | refine blk_alloc ?_ _)); exact BK432.out) hb); replace HB := Aside0.mk (below_step (by repeat (first | (with_reducible first | exact HB.out | apply below_alloc | apply pw_below_drewN | apply below_drew1 | refine below_set ?_ GE432.out) | exact HB.out)) hb); obtain ⟨Ao176, co176, eo176⟩ := Kd.R_slice HO474.out; subst eo176; obtain ⟨Ao177, co177, eo177⟩ := Kd.R_slice HO477.out; subst eo177) | (go_at_call 34; (with_reducible refine (numerarylaw02_same.calls k2 _ _ t472 _ _ t475 t478 _ ?side1 ?side2 ?side3 ?side4 A163.out).mono ?_); (case side1 => repeat (first | exact (Kd.R_reads' HO474.out).2.2 | (with_reducible refine Kd.C_alloc ?_ _) | (with_reducible refine Kd.C_drewN ?_ _) | (with_reducible refine Kd.C_drew ?_))); (case side2 => exact (Kd.R_reads' HO474.out).2.1); (case side3 => repeat (first | exact (Kd.R_reads' HO477.out).2.2 | (with_reducible refine Kd.C_alloc ?_ _) | (with_reducible refine Kd.C_drewN ?_ _) | (with_reducible refine Kd.C_drew ?_))); (case side4 => exact (Kd.R_reads' HO477.out).2.1); rintro e w' ⟨rfl, ⟨nd, rfl⟩⟩; (try first | exact ⟨rfl, _, World.drewN_drewN _ _ _⟩ | exact ⟨rfl, _, Eq.trans (World.drewN_drewN _ _ _) (congrArg (World.drewN _) (Nat.add_assoc _ _ _))⟩))))
          go_ret
          exact ⟨rfl, by repeat (first | (with_reducible first | exact HB.out | apply below_alloc | apply pw_below_drewN | apply below_drew1 | refine below_set ?_ GE432.out) | exact HB.out)⟩
/-- THE ONE PURE STATEMENT of numerarylaw02_NatMakes: yours. -/
def numerarylaw02_NatMakes.Pure : Prop := ∀ (l0 : List Int) (a1 : Int), l0.length ≤ maxLen → l0.length * 4 ≤ 140737488351232 → (∀ x ∈ l0, (Lit.int .u32 x).wf = true) → (Lit.int .u64 a1).wf = true → ∃ k, numerarylaw02_NatMakes.f k l0 a1 = some true
theorem numerarylaw02_NatMakes.walk (P : numerarylaw02_NatMakes.Pure) (a0 : Option Addr) (len0 cap0 : Nat) (z0 : List Int) (a1 : Int) (w : World) (w0 : (a0 = none ∧ len0 = 0 ∧ cap0 = 0 ∧ z0 = []) ∨ ∃ x, a0 = some x ∧ len0 ≤ cap0 ∧ cap0 ≤ maxLen ∧ z0.length = cap0 ∧ (∀ i, i < z0.length → w.cell? (x.add i) = some (.int .u32 (z0.getD i 0))) ∧ ∀ n ∈ z0, (Lit.int .u32 n).wf = true) (y0 : len0 * 4 ≤ 140737488351232) (w1 : (Lit.int .u64 a1).wf = true) :
    Calls Try.prog 5 #[.slice a0 len0 cap0, .int .u64 a1] w fun e w' => e = .returned (.bool true) ∧ Below w.heap.size w w' := by
  obtain ⟨l0, rfl, hr0, hm0, hw0, hc0⟩ := ReadsInt.ofRowC w0
  obtain ⟨k, h⟩ := P l0 a1 hm0 y0 hw0 w1
  refine (numerarylaw02_NatMakes.calls k _ _ l0 a1 true w (Kd.C_of_reads (d := (0 : Int)) (h1 := fun _ => rfl) hr0) hc0 h rfl).mono ?_
  rintro e w' ⟨rfl, hd⟩
  exact ⟨rfl, hd⟩

end Go.Proofs.Ytcepdndhkidehaa.PA
end
